/- The contracts of post's Take and Lose. -/
import Derived.Test.YtaooemnninnfcaaBag
import Derived.Laws.CopyRow
namespace Go.Proofs.Ytaooemnninnfcaa.Bag
set_option linter.unusedVariables false
set_option linter.unusedSimpArgs false
open Go.RowKit Go.Proofs.Ytaooemnninnfcaa.PAll Go.Proofs.YtaooemnninnfcaaW.PrintWords Go.Proofs.YtaooemnninnfcaaW.PrintLast Go.Proofs.YtaooemnninnfcaaW.PrintMore

/-! ### copy, whatever the elements' size -/
section
variable {P : Program}
theorem run_copy_rowS (w : World) (dT sT ty elem : TypeId) (size : Nat) (g o dLen dCap : Nat) (a : Addr) (sLen sCap m : Nat) (cur : Array Value) (t : TypeId) (cs : List Value)
    (hu : P.underlying dT = some (.slice elem)) (hs : (P.info? elem).map (·.size) = some size)
    (hg : w.heap[g]? = some (.cells cur t (0, 0))) (hm : Nat.min sLen dLen = m) (hn : cs.length = m * size)
    (hsrc : ∀ j v, cs[j]? = some v → w.cell? (a.add j) = some v) (hfit : o + cs.length ≤ cur.size) (h1 : ∀ v ∈ cs, v.oneCell' = true) :
    (Builtin.copy_ #[dT, sT] ty #[.slice (some ⟨g, o, none⟩) dLen dCap, .slice (some a) sLen sCap]).run P w =
      .ok (goInt m) (w.setRow g (cur.toList.take o ++ cs ++ cur.toList.drop (o + cs.length)).toArray) := by
  have hl := run_loadCells_list (P := P) w a cs hsrc
  have hst := run_storeCells_at P g o t cs 0 cur w hg (by simpa using hfit) h1
  rw [hn] at hl
  cases hq : P.info? elem with
  | none => simp [hq] at hs
  | some i =>
    have hi : i.size = size := by simpa [hq] using hs
    simp [Builtin.copy_, run_underlying hu, Builtin.lenOf, Builtin.firstCells, sizeOf, typeInfo, hq, hi, hm, hl, hst]
theorem step_copy_rowS {ops : Array Oper} {o : Oper} {a : Act} {w : World} {K : Act → World → Prop} {Q : Exit → Act → World → Prop} {E : Prop} (hgd : o.guard = none) (d s : Operand) (dT sT : TypeId)
    (ho : o.op = .call { callee := .builtin .copy, args := #[d, s], argTypes := #[dT, sT] }) (elem : TypeId) (size : Nat) (hu : P.underlying dT = some (.slice elem)) (hsz : (P.info? elem).map (·.size) = some size)
    (g off : Nat) (sp : Addr) (dLen dCap sLen sCap m : Nat) (hd : a.eval d = .slice (some ⟨g, off, none⟩) dLen dCap) (hs : a.eval s = .slice (some sp) sLen sCap)
    (cur : Array Value) (t : TypeId) (hg : w.heap[g]? = some (.cells cur t (0, 0))) (cs : List Value) (hm : Nat.min sLen dLen = m) (hn : cs.length = m * size)
    (hsrc : ∀ j v, cs[j]? = some v → w.cell? (sp.add j) = some v) (hfit : off + cs.length ≤ cur.size) (h1 : ∀ v ∈ cs, v.oneCell' = true)
    (h : K (a.put o.dst (goInt m)) (w.setRow g (cur.toList.take off ++ cs ++ cur.toList.drop (off + cs.length)).toArray)) :
    if Region.wanted o (yielded ops a.tmps) = true then Oper.wp P o a w K Q else E := by
  have hw : Region.wanted o (yielded ops a.tmps) = true := by simp [Region.wanted, hgd]
  rw [if_pos hw]
  have hrun := run_copy_rowS (P := P) w dT sT o.type elem size g off dLen dCap sp sLen sCap m cur t cs hu hsz hg hm hn hsrc hfit h1
  unfold Oper.wp
  simp [execOp, ho, resolve, invoke, builtin, hd, hs, hrun, Result.andThen]
  rw [List.append_assoc] at h
  exact h
end

theorem flat_cells (xs : List S28) : ∀ u ∈ flat xs, u.oneCell' = true := by
  intro u hu
  obtain ⟨x, _, hx⟩ := List.mem_flatMap.1 hu
  simp only [lcells, List.mem_cons, List.not_mem_nil, or_false] at hx
  rcases hx with rfl | rfl | rfl <;> rfl
theorem flat_drop (xs : List S28) (i : Nat) (h : i ≤ xs.length) : (flat xs).drop (i * 3) = flat (xs.drop i) := by
  have e : flat xs = flat (xs.take i) ++ flat (xs.drop i) := by rw [← flat_append, List.take_append_drop]
  rw [e, List.drop_left' (by rw [flat_length, List.length_take, Nat.min_eq_left h])]
theorem flat_take (xs : List S28) (i : Nat) (h : i ≤ xs.length) : (flat xs).take (i * 3) = flat (xs.take i) := by
  have e : flat xs = flat (xs.take i) ++ flat (xs.drop i) := by rw [← flat_append, List.take_append_drop]
  rw [e, List.take_left' (by rw [flat_length, List.length_take, Nat.min_eq_left h])]

/-- The letters without the letter i. -/
def without (xs : List S28) (i : Nat) : List S28 := xs.take i ++ xs.drop (i + 1)
theorem without_length (xs : List S28) (i : Nat) (h : i < xs.length) : (without xs i).length = xs.length - 1 := by
  unfold without
  rw [List.length_append, List.length_take, List.length_drop]
  omega

theorem setRow_blk {w : World} {r g : Nat} {new : Array Value} {o : Obj} (h : w.heap[g]? = some o) (hne : g ≠ r) : (w.setRow r new).heap[g]? = some o := by
  have : (w.setRow r new).heap[g]? = w.heap[g]? := by simp [World.setRow, Array.getElem?_modify, Ne.symm hne]
  rw [this, h]
/-- The row of a bag whose letters have moved over the letter i; the field isn't cut yet. -/
structure Moved (W W3 : World) (B g r c : Nat) (xs : List S28) (i : Nat) : Prop where
  field : W3.heap[g]? = some (.cells #[.slice (some ⟨r, 0, none⟩) xs.length c] 44 (0, 0))
  row : W3.ownsRow B 28 3 (.slice (some ⟨r, 0, none⟩) (xs.length - 1) c) (xs.length - 1) (flat (without xs i))
  fr : Fr W W3 (fun k => k = r)
theorem moved_of {W W2 : World} {B g r c : Nat} {xs : List S28} (h2 : Bag W2 B g (.slice (some ⟨r, 0, none⟩) xs.length c) xs)
    (f : Fr W W2 (fun _ => False)) (i : Nat) (hi : i < xs.length) (cur : Array Value) (hcur : W2.heap[r]? = some (.cells cur 28 (0, 0))) :
    Moved W (W2.setRow r (cur.toList.take (i * 3) ++ (flat (xs.drop (i + 1)) ++ cur.toList.drop (i * 3 + (flat (xs.drop (i + 1))).length))).toArray) B g r c xs i := by
  have hne : r ≠ g := fun he => h2.ne (by rw [he]; rfl)
  obtain ⟨hB, hblk, hlen, ho⟩ := h2
  rcases ho with ⟨he, _⟩ | ⟨r', c', cur', he, hBr, hcur', hnc, hmc, hsz, htk⟩
  · cases he
  · injection he with he _ hc
    injection he with he
    injection he with he
    subst he hc
    rw [hcur] at hcur'
    injection hcur' with hcur'
    injection hcur' with hcur'
    subst hcur'
    have hfl : (flat (xs.drop (i + 1))).length = (xs.length - (i + 1)) * 3 := by rw [flat_length, List.length_drop]
    have hsr := setRow_heap W2 r cur (cur.toList.take (i * 3) ++ (flat (xs.drop (i + 1)) ++ cur.toList.drop (i * 3 + (flat (xs.drop (i + 1))).length))).toArray 28 (0, 0) hcur
    generalize hnew : (cur.toList.take (i * 3) ++ (flat (xs.drop (i + 1)) ++ cur.toList.drop (i * 3 + (flat (xs.drop (i + 1))).length))).toArray = new at hsr ⊢
    have hcl : cur.toList.length = c * 3 := by rw [Array.length_toList]; exact hsz
    have hnl : new.size = c * 3 := by
      rw [← hnew]
      simp only [List.size_toArray, List.length_append, List.length_take, List.length_drop, hcl, hfl]
      omega
    have hoth : ∀ k, k ≠ r → (W2.setRow r new).heap[k]? = W2.heap[k]? := by
      intro k hk
      simp [World.setRow, Array.getElem?_modify, Ne.symm hk]
    have hfr : Fr W2 (W2.setRow r new) (fun k => k = r) := ⟨rfl, rfl, rfl, by simp [World.setRow], fun k _ hk => hoth k hk⟩
    refine ⟨(hoth g (Ne.symm hne)).trans hblk, ?_, (f.mono (fun _ h => h.elim)).trans hfr (fun _ h => .inl h)⟩
    refine ⟨by rw [flat_length, without_length xs i hi], .inr ⟨r, c, new, rfl, hBr, hsr, by omega, hmc, hnl, ?_⟩⟩
    rw [← hnew]
    simp only [without, flat_append]
    have e1 : cur.toList.take (i * 3) = flat (xs.take i) := by
      have : cur.toList.take (i * 3) = (cur.toList.take (xs.length * 3)).take (i * 3) := by rw [List.take_take, Nat.min_eq_left (by omega)]
      rw [this, htk, flat_take xs i (by omega)]
    rw [e1]
    have hl2 : (flat (xs.take i) ++ flat (xs.drop (i + 1))).length = (xs.length - 1) * 3 := by
      rw [List.length_append, flat_length, hfl, List.length_take]
      omega
    rw [← List.append_assoc, List.take_left' hl2]
theorem Moved.frame {W W3 W4 : World} {B g r c : Nat} {xs : List S28} {i : Nat} (h : Moved W W3 B g r c xs i) (hW : W.heap.size ≤ W3.heap.size) (hg : g < W.heap.size) (hr : r < W.heap.size) (f : Fr W3 W4 (fun k => W.heap.size ≤ k)) : Moved W W4 B g r c xs i :=
  ⟨f.blk h.field (by omega), f.own h.row (fun k hk => by have : r = k := (by simpa [Value.ownBlock] using hk); omega), h.fr.trans f (fun _ h => .inr h)⟩
/-- The bag behind a letter's removal: its field is cut, and what is new since has been written to. -/
theorem left_of_cut {W W3 W4 : World} {B g r c : Nat} {xs : List S28} {i : Nat} (hB : B ≤ g) (hne : r ≠ g) (hg : g < W.heap.size) (hr : r < W.heap.size) (hi : i < xs.length) (h : Moved W W3 B g r c xs i)
    (f : Fr (W3.setCell ⟨g, 0, none⟩ (.slice (some ⟨r, 0, none⟩) (xs.length - 1) c)) W4 (fun k => W.heap.size ≤ k)) :
    Left W B g (.slice (some ⟨r, 0, none⟩) xs.length c) (without xs i) W4 := by
  have hb : Bag (W3.setCell ⟨g, 0, none⟩ (.slice (some ⟨r, 0, none⟩) (xs.length - 1) c)) B g (.slice (some ⟨r, 0, none⟩) (xs.length - 1) c) (without xs i) := by
    refine ⟨hB, blk_put h.field 0 _ rfl, ?_⟩
    rw [without_length xs i hi]
    exact own_move h.row (fun k hk => by
      have : r = k := by simpa [Value.ownBlock] using hk
      subst this
      exact Below.heap_setCell _ _ _ _ hne)
  refine ⟨_, hb.fr f (by omega) (fun k hk => ?_), ?_, fun k hk => .inl hk⟩
  · have : r = k := by simpa [Value.ownBlock] using hk
    omega
  · exact (Fr.setCell (h.fr.mono (S2 := fun k => k = g ∨ (Value.slice (some ⟨r, 0, none⟩) xs.length c).ownBlock = some k) (fun k hk => .inr (by rw [hk]; rfl))) (.inl (.inl rfl)) _).trans f (fun _ h => .inr h)

/-- What the walk wants to know of a box of three cells. -/
theorem box3 {w : World} {g : Nat} {a b c : Value} (h : w.heap[g]? = some (.cells #[a, b, c] 28 (0, 0))) :
    w.cell? ⟨g, 0, none⟩ = some a ∧ w.cell? ⟨g, 1, none⟩ = some b ∧ w.cell? ⟨g, 2, none⟩ = some c ∧ w.frozen? ⟨g, 0, none⟩ = false ∧ w.frozen? ⟨g, 1, none⟩ = false ∧ w.frozen? ⟨g, 2, none⟩ = false ∧ g < w.heap.size :=
  ⟨(blk_cell h 0).trans rfl, (blk_cell h 1).trans rfl, (blk_cell h 2).trans rfl, blk_frozen h 0, blk_frozen h 1, blk_frozen h 2, blk_lt h⟩

theorem take_no (P : Option Addr) (i : Int) (W : World) (hcopy : ∀ w, Below W.heap.size W w → Calls Try.prog 11 #[.pointer P, .int .i64 i] w fun e w' => e = .returned (.tuple #[lv z28, .bool false]) ∧ Below w.heap.size w w') :
    Calls Try.prog 10 #[.pointer P, .int .i64 i] W fun e w' => e = .returned (.tuple #[lv z28, .bool false]) ∧ Below W.heap.size W w' := by
  simp only [lv, z28] at hcopy
  have H := Lib.hid hcopy
  clear hcopy
  go_enter Try.func10, Try.ntmps10
  go_wp2_with (go_at_call 11; refine (H.out _ ?hbel).mono ?_; (case hbel => exact ((Below.refl _ _).alloc (Nat.le_refl _) _)); rintro e w1 ⟨rfl, hb1⟩; obtain ⟨c0, c1, c2, f0, f1, f2, hlt⟩ := box3 (blk_below (blk_new W _) hb1))
  have hb2 : Below W.heap.size W w1 := ((Below.refl _ _).alloc (Nat.le_refl _) _).trans (hb1.mono (by simp))
  have hb3 := ((hb2.setCell (p := ⟨W.heap.size, 0, none⟩) (Nat.le_refl _) (.int .i64 0)).setCell (p := ⟨W.heap.size, 1, none⟩) (Nat.le_refl _) (.int .i64 0)).setCell (p := ⟨W.heap.size, 2, none⟩) (Nat.le_refl _) (.string ⟨#[]⟩)
  exact bodyPost_ret (v := .tuple #[lv z28, .bool false]) (by simp [results, Try.results10, go_sem, lv, z28, c0, c1, c2, hlt]) rfl ⟨rfl, hb3.alloc hb3.size _⟩

theorem take_calls {W : World} {B g : Nat} {v : Value} {xs : List S28} (h : Bag W B g v xs) (i : Nat) (hi : i < xs.length) (hl : xs.length ≤ 4398046511104) :
    Calls Try.prog 10 #[.pointer (some ⟨g, 0, none⟩), .int .i64 (i : Int)] W fun e w' => e = .returned (.tuple #[lv (xs[i]), .bool true]) ∧ Left W B g v (without xs i) w' := by
  have hcopy := fun (w : World) (hw : Below W.heap.size W w) => copy_in (h.fr (Fr.of_below hw (fun _ => False)) (fun h => h) (fun _ _ h => h)) i hi
  obtain ⟨r, c, rfl, hrl, hrg, hlc, _, _, _⟩ := h.cells i hi
  have HB := Lib.hid h
  clear h
  simp only [lv] at hcopy
  have H := Lib.hid hcopy
  clear hcopy
  have hp0 : (0 : Int) ≤ (i : Int) + 1 := by omega
  have hp1 : (i : Int) + 1 ≤ (xs.length : Int) := by omega
  have hp2 : ((i : Int) + 1).toNat = i + 1 := by omega
  generalize xs[i] = x at *
  go_enter Try.func10, Try.ntmps10
  go_wp2_with (go_at_call 11; refine (H.out _ ?hbel).mono ?_; (case hbel => exact ((Below.refl _ _).alloc (Nat.le_refl _) _)); rintro e w1 ⟨rfl, hb1⟩; obtain ⟨c0, c1, c2, f0, f1, f2, hlt⟩ := box3 (blk_below (blk_new W _) hb1))
  have hb2 : Below W.heap.size W w1 := ((Below.refl _ _).alloc (Nat.le_refl _) _).trans (hb1.mono (by simp))
  have hb3 := hb2.alloc hb2.size (.cells #[.int .i64 x.f0, .int .i64 x.f1, .string x.f2] 28)
  have HB2 := Lib.hid (HB.out.fr (Fr.of_below hb3 (fun _ => False)) (fun h => h) (fun _ _ h => h))
  have HFr := Lib.hid (Fr.of_below hb3 (fun _ => False))
  have hbox := Lib.hid (blk_new w1 (.cells #[.int .i64 x.f0, .int .i64 x.f1, .string x.f2] 28))
  have hres := Lib.hid (blk_alloc (blk_below (blk_new W (.cells #[.int .i64 0, .int .i64 0, .string ⟨#[]⟩] 28)) hb1) (.cells #[.int .i64 x.f0, .int .i64 x.f1, .string x.f2] 28))
  clear hb1 hb2 hb3 c0 c1 c2 f0 f1 f2
  generalize w1.alloc (.cells #[.int .i64 x.f0, .int .i64 x.f1, .string x.f2] 28) = W2 at *
  generalize w1.heap.size = G at *
  have hc := HB2.out.cell
  have hf := HB2.out.free
  have hsz28 : (Try.prog.info? 28).map (·.size) = some 3 := by
    have := info28
    rw [Option.map_eq_some_iff] at this ⊢
    obtain ⟨a, h1, h2⟩ := this
    exact ⟨a, h1, by injection h2 with _ h2; injection h2⟩
  obtain ⟨cur, hcur0, hcl, hct⟩ : ∃ cur : Array Value, W2.heap[r]? = some (.cells cur 28 (0, 0)) ∧ cur.size = c * 3 ∧ cur.toList.take (xs.length * 3) = flat xs := by
    rcases HB2.out.2.2.2 with ⟨he, _⟩ | ⟨r', c', cur, he, _, hcur, _, _, hs, ht⟩
    · cases he
    · injection he with he _ hc
      injection he with he
      injection he with he
      subst he hc
      exact ⟨cur, hcur, hs, ht⟩
  have hcur := Lib.hid (blk_drew hcur0)
  have hcellr : ∀ j u, (flat xs)[j]? = some u → W2.drew.cell? ⟨r, j, none⟩ = some u := by
    intro j u hj
    have hlt : j < xs.length * 3 := by
      have := (List.getElem?_eq_some_iff.1 hj).1
      rwa [flat_length] at this
    show W2.cell? ⟨r, j, none⟩ = some u
    rw [World.ownsRow.cellAt HB2.out.2.2 j hlt, hj]
  obtain ⟨A, hA, hsrc⟩ : ∃ A : Addr, (if c = i + 1 then some (⟨r, 0, none⟩ : Addr) else some ⟨r, (i + 1) * 3, none⟩) = some A ∧ Hid (∀ j u, (flat (xs.drop (i + 1)))[j]? = some u → W2.drew.cell? (A.add j) = some u) := by
    by_cases hci : c = i + 1
    · refine ⟨⟨r, 0, none⟩, by rw [if_pos hci], fun j u hj => ?_⟩
      have : xs.drop (i + 1) = [] := List.drop_eq_nil_of_le (by omega)
      rw [this] at hj
      simp [flat] at hj
    · refine ⟨⟨r, (i + 1) * 3, none⟩, by rw [if_neg hci], fun j u hj => ?_⟩
      rw [Addr.add_lit]
      refine hcellr _ u ?_
      rw [← flat_drop xs (i + 1) (by omega), List.getElem?_drop] at hj
      exact hj
  have hfl : (flat (xs.drop (i + 1))).length = (xs.length - (i + 1)) * 3 := by rw [flat_length, List.length_drop]
  have hm := Lib.hid (show Nat.min (xs.length - (i + 1)) (xs.length - i) = xs.length - (i + 1) from Nat.min_eq_left (by omega))
  have hn := Lib.hid hfl
  have hfit := Lib.hid (show i * 3 + (flat (xs.drop (i + 1))).length ≤ cur.size by rw [hfl, hcl]; omega)
  have hone := Lib.hid (flat_cells (xs.drop (i + 1)))
  have HCR := Lib.hid hcellr
  have HCUR0 := Lib.hid hcur0
  clear hcellr hcur0 hfl hct hcl
  have hile : i ≤ xs.length := by omega
  have hci : (c = i) = False := eq_false (by omega)
  have hwr : IntKind.i64.wrap ((i : Int) + 1) = (i : Int) + 1 := IntWalk.i64_in _ (by omega)
  have hdi : decide (i + 1 ≤ xs.length) = true := decide_eq_true (by omega)
  have hil : i + 1 ≤ xs.length := by omega
  have HM := Lib.hid (moved_of (HB2.out.fr ((Fr.refl W2 (fun _ => False)).drew) (fun h => h) (fun _ _ h => h)) (HFr.out.drew) i hi cur hcur.out)
  have HBOX := Lib.hid (fun (new : Array Value) => box3 (setRow_blk (r := r) (new := new) (blk_drew hbox.out) (by omega)))
  have HRES := Lib.hid (fun (new : Array Value) => box3 (setRow_blk (r := r) (new := new) (blk_drew hres.out) (by omega)))
  go_region_law (refine step_copy_rowS rfl (.tmp 20) (.tmp 27) 26 26 rfl 28 3 Try.underlying26 hsz28 r (i * 3) A (xs.length - i) (c - i) (xs.length - (i + 1)) (c - (i + 1)) (xs.length - (i + 1)) (by simp [Act.eval, Act.put]) (by simp [Act.eval, Act.put]) cur 28 hcur.out (flat (xs.drop (i + 1))) hm.out hn.out hsrc.out hfit.out hone.out ?_)
  all_goals
    have hm3 := HM.out
    obtain ⟨b0, b1, b2, b3, b4, b5, b6⟩ := HBOX.out (cur.toList.take (i * 3) ++ (flat (xs.drop (i + 1)) ++ cur.toList.drop (i * 3 + (flat (xs.drop (i + 1))).length))).toArray
    obtain ⟨r0, r1, r2, r3, r4, r5, r6⟩ := HRES.out (cur.toList.take (i * 3) ++ (flat (xs.drop (i + 1)) ++ cur.toList.drop (i * 3 + (flat (xs.drop (i + 1))).length))).toArray
    clear HM HBOX HRES
    generalize W2.drew.setRow r (cur.toList.take (i * 3) ++ (flat (xs.drop (i + 1)) ++ cur.toList.drop (i * 3 + (flat (xs.drop (i + 1))).length))).toArray = W3 at *
    have kf := (blk_cell hm3.field 0).trans (show _ = some (Value.slice (some ⟨r, 0, none⟩) xs.length c) from rfl)
    have ef := blk_frozen hm3.field 0
    have HM3 := Lib.hid hm3
    clear hm3 hc hf hsrc hm hn hfit hone HCR HCUR0 hcur
    have hwn : IntKind.i64.wrap ((xs.length : Int) - 1) = (xs.length : Int) - 1 := IntWalk.i64_in _ (by omega)
    have hn1 : ((xs.length : Int) - 1).toNat = xs.length - 1 := by omega
    have hn2 : (0 : Int) ≤ (xs.length : Int) - 1 := by omega
    have hgl := HB.out.lt
    have n1 : (g = G) = False := eq_false (by omega)
    have n2 : (G = g) = False := eq_false (by omega)
    have n3 : (g = W.heap.size) = False := eq_false (by omega)
    have n4 : (W.heap.size = g) = False := eq_false (by omega)
    have n5 : (G = W.heap.size) = False := eq_false (by omega)
    have n6 : (W.heap.size = G) = False := eq_false (by omega)
    go_wp2
    go_region
    all_goals
      go_wp2
      refine bodyPost_ret (v := .tuple #[lv x, .bool true]) (by simp [results, Try.results10, go_sem, lv, r0, r1, r2, n3, n4]) rfl ⟨rfl, left_of_cut HB.out.1 hrg hgl hrl hi HM3.out ?_⟩
      exact ((((Fr.refl _ _).setCell (p := ⟨W.heap.size, 0, none⟩) (.inl (Nat.le_refl _)) _).setCell (p := ⟨W.heap.size, 1, none⟩) (.inl (Nat.le_refl _)) _).setCell (p := ⟨W.heap.size, 2, none⟩) (.inl (Nat.le_refl _)) _).drew

theorem take_nil (i : Int) (W : World) : Calls Try.prog 10 #[.pointer none, .int .i64 i] W fun e w' => e = .returned (.tuple #[lv z28, .bool false]) ∧ Below W.heap.size W w' :=
  take_no none i W (fun w _ => if h : i < 0 then copy_neg none i h w else copy_nil i (by omega) w)
theorem take_out {W : World} {B g : Nat} {v : Value} {xs : List S28} (h : Bag W B g v xs) (i : Int) (hi : i < 0 ∨ (xs.length : Int) ≤ i) :
    Calls Try.prog 10 #[.pointer (some ⟨g, 0, none⟩), .int .i64 i] W fun e w' => e = .returned (.tuple #[lv z28, .bool false]) ∧ Below W.heap.size W w' :=
  take_no _ i W (fun w hw => if hn : i < 0 then copy_neg _ i hn w else copy_out (h.fr (Fr.of_below hw (fun _ => False)) (fun h => h) (fun _ _ h => h)) i (by omega) (by omega))

/-! ### Lose -/
theorem lose_no (P : Option Addr) (i : Int) (W : World) (ht : Calls Try.prog 10 #[.pointer P, .int .i64 i] W fun e w' => e = .returned (.tuple #[lv z28, .bool false]) ∧ Below W.heap.size W w') :
    Calls Try.prog 12 #[.pointer P, .int .i64 i] W fun e w' => e = .returned (.bool false) ∧ Below W.heap.size W w' := by
  simp only [lv, z28] at ht
  have H := Lib.hid ht
  clear ht
  go_enter Try.func12, Try.ntmps12
  go_wp2_with (go_at_call 10; refine H.out.mono ?_; rintro e w1 ⟨rfl, hb1⟩)
  go_ret
  exact ⟨rfl, hb1.alloc hb1.size _⟩
theorem lose_calls {W : World} {B g : Nat} {v : Value} {xs : List S28} (h : Bag W B g v xs) (i : Nat) (hi : i < xs.length) (hl : xs.length ≤ 4398046511104) :
    Calls Try.prog 12 #[.pointer (some ⟨g, 0, none⟩), .int .i64 (i : Int)] W fun e w' => e = .returned (.bool true) ∧ Left W B g v (without xs i) w' := by
  have ht := take_calls h i hi hl
  simp only [lv] at ht
  have H := Lib.hid ht
  clear ht
  generalize xs[i] = x at *
  go_enter Try.func12, Try.ntmps12
  go_wp2_with (go_at_call 10; refine H.out.mono ?_; rintro e w1 ⟨rfl, hb1⟩)
  go_ret
  obtain ⟨v', hb, hf, hk⟩ := hb1
  exact ⟨rfl, v', hb.alloc _, hf.alloc _, hk⟩
/-! ### New -/
theorem new_calls (W : World) (B : Nat) (hB : B ≤ W.heap.size) : Calls Try.prog 8 #[] W fun e w' => e = .returned (.pointer (some ⟨W.heap.size, 0, none⟩)) ∧ w' = W.alloc (.cells #[.slice none 0 0] 44) := by
  go_enter Try.func8, Try.ntmps8
  go_wp2_with fail
  go_ret
  exact ⟨rfl, rfl⟩
theorem new_bag (W : World) (B : Nat) (hB : B ≤ W.heap.size) : Bag (W.alloc (.cells #[.slice none 0 0] 44)) B W.heap.size (.slice none 0 0) [] :=
  ⟨hB, blk_new _ _, World.ownsRow_nil _ _ _ _⟩
end Go.Proofs.Ytaooemnninnfcaa.Bag
