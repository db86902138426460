/- Two bags, and a row of letters beside them: what each call leaves. -/
import Derived.Test.YtaooemnninnfcaaCopies
namespace Go.Proofs.Ytaooemnninnfcaa.Bag
set_option linter.unusedVariables false
set_option linter.unusedSimpArgs false
open Go.RowKit Go.Proofs.Ytaooemnninnfcaa.PAll Go.Proofs.YtaooemnninnfcaaW.PrintWords Go.Proofs.YtaooemnninnfcaaW.PrintLast Go.Proofs.YtaooemnninnfcaaW.PrintMore

/-- Values whose blocks differ. -/
def Far (v u : Value) : Prop := ∀ k, v.ownBlock = some k → u.ownBlock ≠ some k
theorem Far.symm {v u : Value} (h : Far v u) : Far u v := fun k hk hu => h k hu hk
theorem Far.nil (v : Value) : Far v (.slice none 0 0) := fun k _ h => by simp [Value.ownBlock] at h
/-- A row that moved on, and one that stood. -/
theorem Far.moved {W w' : World} {g : Nat} {v v' u : Value} (h : Far v u) (hm : Moves W g v v' w') (hu : ∀ k, u.ownBlock = some k → k < W.heap.size) : Far v' u := fun k hk hu2 => by
  rcases hm.2 k hk with h1 | h1
  · exact h k h1 hu2
  · have := hu k hu2; omega
/-- A row of letters of the law's own. -/
structure Row (B : Nat) (v : Value) (xs : List S28) (w : World) : Prop where
  own : w.ownsRow B 28 3 v xs.length (flat xs)
theorem Row.lt {B : Nat} {v : Value} {xs : List S28} {w : World} (h : Row B v xs w) : ∀ k, v.ownBlock = some k → k < w.heap.size := fun k hk => (h.own.lt k hk).2
theorem Row.fr {B : Nat} {v : Value} {xs : List S28} {w w' : World} {S : Nat → Prop} (h : Row B v xs w) (f : Fr w w' S) (hr : ∀ k, v.ownBlock = some k → ¬ S k) : Row B v xs w' := ⟨f.own h.own hr⟩
theorem Row.next {B : Nat} {v : Value} {xs : List S28} {w w' : World} (h : Row B v xs w) (hb : Below w.heap.size w w') : Row B v xs w' := h.fr (Fr.of_below hb (fun _ => False)) (fun _ _ h => h)
theorem Row.cells {B c : Nat} {A : Option Addr} {xs : List S28} {w : World} (h : Row B (.slice A xs.length c) xs w) (i : Nat) (hi : i < xs.length) : ∃ r, A = some ⟨r, 0, none⟩ ∧ r < w.heap.size ∧ xs.length ≤ c ∧
    w.cell? ⟨r, i * 3, none⟩ = some (.int .i64 (xs[i]).f0) ∧ w.cell? ⟨r, i * 3 + 1, none⟩ = some (.int .i64 (xs[i]).f1) ∧ w.cell? ⟨r, i * 3 + 2, none⟩ = some (.string (xs[i]).f2) := by
  obtain ⟨r, c2, he, _, hlt, _⟩ := Kd.R_form (row_R h.own) (by omega)
  have hle := (Kd.R_reads' (row_R h.own)).2.1
  injection he with he _ hcc
  subst he
  obtain ⟨g0, g1, g2⟩ := flat_get xs i hi
  have hc := fun j hj => World.ownsRow.cellAt h.own j hj
  refine ⟨r, rfl, hlt, hle, ?_, ?_, ?_⟩
  · rw [hc _ (by omega), g0]
  · rw [hc _ (by omega), g1]
  · rw [hc _ (by omega), g2]
/-- A bag's block is none of a row's. -/
theorem Row.ne {B B2 g : Nat} {v u : Value} {xs ys : List S28} {w : World} (h : Row B v xs w) (hb : Bag w B2 g u ys) : v.ownBlock ≠ some g := fun he => (Kd.R_ne (row_R h.own) hb.2.1 (by decide)) he.symm
theorem Bag.nes {W : World} {B B2 g g2 : Nat} {v u : Value} {xs ys : List S28} (h : Bag W B g v xs) (h2 : Bag W B2 g2 u ys) : v.ownBlock ≠ some g2 := fun he => (Kd.R_ne h.R h2.2.1 (by decide)) he.symm

/-- Two bags apart. -/
structure Two (w0 : World) (B gp gq : Nat) (vp vq : Value) (xp xq : List S28) (w : World) : Prop where
  p : Now w0 B gp vp xp w
  q : Now w0 B gq vq xq w
  ne : gp ≠ gq
  far : Far vp vq
theorem Two.swap {w0 : World} {B gp gq : Nat} {vp vq : Value} {xp xq : List S28} {w : World} (h : Two w0 B gp gq vp vq xp xq w) : Two w0 B gq gp vq vp xq xp w := ⟨h.q, h.p, h.ne.symm, h.far.symm⟩
theorem Two.next {w0 : World} {B gp gq : Nat} {vp vq : Value} {xp xq : List S28} {w w' : World} (h : Two w0 B gp gq vp vq xp xq w) (hb : Below w.heap.size w w') : Two w0 B gp gq vp vq xp xq w' := ⟨h.p.next hb, h.q.next hb, h.ne, h.far⟩
/-- A call on the first bag. -/
theorem Two.move {w0 : World} {B gp gq : Nat} {vp vq v' : Value} {xp xq ys : List S28} {w w' : World} (h : Two w0 B gp gq vp vq xp xq w) (hn : Now w0 B gp v' ys w') (hm : Moves w gp vp v' w') : Two w0 B gp gq v' vq ys xq w' :=
  ⟨hn, h.q.fr hm.1 (fun k hk => by
      rcases hk with rfl | hk
      · exact h.p.bag.1
      · exact (h.p.bag.2.2.lt k hk).1) (fun hk => by
      rcases hk with hk | hk
      · exact h.ne hk.symm
      · exact h.p.bag.nes h.q.bag hk) (fun k hk hs => by
      rcases hs with hs | hs
      · rw [hs] at hk
        exact h.q.bag.nes h.p.bag hk
      · exact h.far k hs hk), h.ne, h.far.moved hm h.q.row⟩
/-- A row beside the bags stays at a call on one of them. -/
theorem Row.move {w0 : World} {B B2 g : Nat} {v v' u : Value} {xs zs : List S28} {w w' : World} (h : Row B2 u zs w) (hb : Now w0 B g v xs w) (hf : Far v u) (hm : Moves w g v v' w') : Row B2 u zs w' ∧ Far v' u :=
  ⟨h.fr hm.1 (fun k hk hs => by
    rcases hs with hs | hs
    · rw [hs] at hk
      exact h.ne hb.bag hk
    · exact hf k hs hk), hf.moved hm h.lt⟩

/-- Both bags stay where a block that is none of theirs is written. -/
theorem Two.grown {w0 : World} {B gp gq b : Nat} {vp vq : Value} {xp xq : List S28} {w w1 w' : World} (h : Two w0 B gp gq vp vq xp xq w) (h1 : Below w.heap.size w w1) (hb : w.heap.size ≤ b) (hg : w1.grownBy w' (some b)) : Two w0 B gp gq vp vq xp xq w' := by
  have f : Fr w w' (fun k => k = b) := (Fr.of_below h1 (fun k => k = b)).trans (Fr.of_grown hg) (fun k hk => .inl (by injection hk with hk; exact hk.symm))
  exact ⟨h.p.fr f (fun k hk => by have := h.p.size; omega) (fun hk => by have := h.p.bag.lt; omega) (fun k hk hs => by have := h.p.row k hk; omega),
    h.q.fr f (fun k hk => by have := h.q.size; omega) (fun hk => by have := h.q.bag.lt; omega) (fun k hk hs => by have := h.q.row k hk; omega), h.ne, h.far⟩
theorem without_zero (xs : List S28) : without xs 0 = xs.drop 1 := by simp [without]
/-- The first letter is taken. -/
theorem take_first {w0 W : World} {B g : Nat} {v : Value} {l : List S28} {i : Nat} (h : Now w0 B g v (l.drop i) W) (hi : i < l.length) (hl : l.length ≤ 300) :
    Calls Try.prog 10 #[.pointer (some ⟨g, 0, none⟩), .int .i64 0] W fun e w' => e = .returned (.tuple #[lv l[i], .bool true]) ∧ ∃ v', Now w0 B g v' (l.drop (i + 1)) w' ∧ Moves W g v v' w' := by
  have hlen : (l.drop i).length = l.length - i := List.length_drop
  have h2 := now_take h 0 (by omega) (by omega)
  rw [without_zero, List.drop_drop] at h2
  have e : (l.drop i)[0]'(by omega) = l[i] := by simp
  rw [e] at h2
  exact h2
/-- The integers of a slice that came in. -/
theorem ints_at {W w : World} {A : Option Addr} {xs : List Int} (h : Kd.C (Kd.int .i64) W A xs.length xs) (hb : Below W.heap.size W w) (i : Nat) (hi : i < xs.length) : ∃ ad, A = some ad ∧ w.cell? (ad.add i) = some (.int .i64 xs[i]) := by
  obtain ⟨ad, e, h0⟩ := Kd.at_int h (i : Int) (by omega) (by omega)
  have hrd : rd xs (i : Int) = xs[i] := by
    unfold rd
    rw [Int.toNat_natCast, List.getD_eq_getElem?_getD, List.getElem?_eq_getElem hi]
    rfl
  rw [hrd, Int.toNat_natCast] at h0
  exact ⟨ad, e, (hb.cell (World.block_lt_of_cell? W _ h0)).trans h0⟩
/-! ### The reference's Without -/
theorem wrap_in {n : Int} (h0 : 0 ≤ n) (h1 : n ≤ 9223372036854775807) : wrap64 n = n := by unfold wrap64; omega
theorem rd_get (l : List S28) (i : Nat) (h : i < l.length) : rd_T28 l (i : Int) = l[i] := by
  unfold rd_T28
  rw [Int.toNat_natCast, List.getD_eq_getElem?_getD, List.getElem?_eq_getElem h]
  rfl
theorem without_l0 (l : List S28) (hl : l.length ≤ 1000000) (k : Nat) : ∀ (d i : Nat) (acc : List S28), l.length - i = d → i ≤ l.length → acc.length ≤ i →
    Ev (fun n => lintelref07_Without.l0 n l (k : Int) acc (i : Int)) (acc ++ ((l.drop i).zipIdx i).filterMap (fun x => if x.2 = k then none else some x.1)) := by
  intro d
  induction d with
  | zero =>
    intro i acc hd hi ha
    refine Ev.step (f := fun _ => some (acc ++ ((l.drop i).zipIdx i).filterMap (fun x => if x.2 = k then none else some x.1))) (fun n => ?_) (Ev.now _)
    simp only [lintelref07_Without.l0]
    rw [if_neg (by omega), List.drop_of_length_le (by omega)]
    simp
  | succ d ih =>
    intro i acc hd hi ha
    have hlt : i < l.length := by omega
    have e1 : wrap64 ((i : Int) + 1) = ((i + 1 : Nat) : Int) := by rw [wrap_in (by omega) (by omega)]; rfl
    rw [List.drop_eq_getElem_cons hlt, List.zipIdx_cons, List.filterMap_cons]
    by_cases hk : i = k
    · subst hk
      simp only [if_true]
      refine Ev.step (fun n => ?_) (ih (i + 1) acc (by omega) (by omega) (by omega))
      simp only [lintelref07_Without.l0]
      rw [if_pos (by omega), if_pos trivial, e1]
    · simp only [if_neg hk]
      have := ih (i + 1) (acc ++ [l[i]]) (by omega) (by omega) (by rw [List.length_append]; simp; omega)
      rw [List.append_assoc] at this
      refine Ev.step (fun n => ?_) this
      simp only [lintelref07_Without.l0]
      rw [if_pos (by omega), if_neg (by omega), if_pos (by omega), if_pos (by omega), e1, rd_get l i hlt]
theorem zip_without (l : List S28) (k : Nat) (hk : k < l.length) : (l.zipIdx 0).filterMap (fun x => if x.2 = k then none else some x.1) = without l k := by
  have keep : ∀ (m : List S28) (i : Nat), (k < i ∨ i + m.length ≤ k) → (m.zipIdx i).filterMap (fun x => if x.2 = k then none else some x.1) = m := by
    intro m
    induction m with
    | nil => intro i _; rfl
    | cons x m ih =>
      intro i h
      rw [List.zipIdx_cons, List.filterMap_cons]
      have : ¬ i = k := by simp at h; omega
      simp only [if_neg this]
      rw [ih (i + 1) (by simp at h; omega)]
  have e : l = l.take k ++ (l[k] :: l.drop (k + 1)) := by rw [← List.drop_eq_getElem_cons hk, List.take_append_drop]
  conv => lhs; rw [e]
  have hlen : (l.take k).length = k := by rw [List.length_take]; omega
  rw [List.zipIdx_append, List.filterMap_append, keep _ 0 (.inr (by rw [hlen]; omega)), List.zipIdx_cons, List.filterMap_cons]
  simp only [hlen, Nat.zero_add, if_true]
  rw [keep _ (k + 1) (.inl (by omega))]
  rfl
/-- Without, of a row of the law's own. -/
theorem without_calls {w0 w : World} {B : Nat} {A : Option Addr} {c : Nat} {xs : List S28} (h : Row B (.slice A xs.length c) xs w) (k : Nat) (hk : k < xs.length) (hl : xs.length ≤ 1000000) (hB : B ≤ w.heap.size) :
    Calls Try.prog 13 #[.slice A xs.length c, .int .i64 (k : Int)] w fun e w' => ∃ v', e = .returned v' ∧ Row B v' (without xs k) w' ∧ Below w.heap.size w w' ∧ (∀ j, v'.ownBlock = some j → w.heap.size ≤ j) := by
  have hev := without_l0 xs hl k xs.length 0 [] (by omega) (by omega) (by simp)
  rw [List.drop_zero, List.nil_append, zip_without xs k hk] at hev
  obtain ⟨n, hn⟩ := hev.rounds
  have hC := Kd.R_reads' (row_R h.own)
  refine (lintelref07_Without.calls n A c xs (k : Int) (without xs k) w hC.2.2 hC.2.1 hn).mono ?_
  rintro e w' ⟨v', rfl, hR, hb⟩
  have ho := R_row hR
  exact ⟨v', rfl, ⟨own_weaken ho hB⟩, hb, fun j hj => (ho.lt j hj).1⟩
end Go.Proofs.Ytaooemnninnfcaa.Bag
