/- A bag of letters in memory, and the contracts of post's functions. -/
import Derived.Test.YtaooemnninnfcaaPAllx1
import Derived.ChangeAlike
import Derived.IntWalk
import Derived.Lib.Hide
import Derived.Deep.RegionLaw
import Derived.Outline
namespace Go.Proofs.Ytaooemnninnfcaa.Bag
open Go.RowKit Go.Proofs.Ytaooemnninnfcaa.PAll Go.Proofs.YtaooemnninnfcaaW.PrintWords Go.Proofs.YtaooemnninnfcaaW.PrintLast Go.Proofs.YtaooemnninnfcaaW.PrintMore

/-! ### What a call leaves alone -/
/-- W' is W but for new blocks and what was written into the blocks of S. -/
structure Fr (W W' : World) (S : Nat → Prop) : Prop where
  os : W'.os = W.os
  tape : W'.tape = W.tape
  output : W'.output = W.output
  size : W.heap.size ≤ W'.heap.size
  block : ∀ i, i < W.heap.size → ¬ S i → W'.heap[i]? = W.heap[i]?
section
variable {W W' W2 : World} {S S2 : Nat → Prop}
theorem Fr.refl (W : World) (S : Nat → Prop) : Fr W W S := ⟨rfl, rfl, rfl, Nat.le_refl _, fun _ _ _ => rfl⟩
theorem Fr.trans (h : Fr W W' S) (k : Fr W' W2 S2) (hs : ∀ i, S2 i → S i ∨ W.heap.size ≤ i) : Fr W W2 S :=
  ⟨k.os.trans h.os, k.tape.trans h.tape, k.output.trans h.output, Nat.le_trans h.size k.size, fun i hi hn =>
    (k.block i (Nat.lt_of_lt_of_le hi h.size) (fun h2 => (hs i h2).elim hn (fun h3 => by omega))).trans (h.block i hi hn)⟩
theorem Fr.mono (h : Fr W W' S) (hs : ∀ i, S i → S2 i) : Fr W W' S2 := ⟨h.os, h.tape, h.output, h.size, fun i hi hn => h.block i hi (fun h2 => hn (hs i h2))⟩
theorem Fr.of_below (h : Below W.heap.size W W') (S : Nat → Prop) : Fr W W' S := ⟨h.os, h.tape, h.output, h.size, fun i hi _ => h.block i hi⟩
theorem Fr.below (h : Fr W W' S) (k : Below W'.heap.size W' W2) : Fr W W2 S := h.trans (Fr.of_below k (fun _ => False)) (fun _ h => h.elim)
theorem Fr.of_grown {row : Option Nat} (h : W.grownBy W' row) : Fr W W' (fun k => row = some k) := ⟨h.os, h.tape, h.output, h.size, fun i hi hn => h.block i hi (fun he => hn he.symm)⟩
theorem Fr.alloc (h : Fr W W' S) (o : Obj) : Fr W (W'.alloc o) S := h.below ((Below.refl _ _).alloc (Nat.le_refl _) o)
theorem Fr.drew (h : Fr W W' S) : Fr W W'.drew S := ⟨h.os, h.tape, h.output, h.size, h.block⟩
theorem Fr.setCell (h : Fr W W' S) {p : Addr} (hp : S p.block ∨ W.heap.size ≤ p.block) (u : Value) : Fr W (W'.setCell p u) S :=
  h.trans (S2 := fun k => k = p.block) ⟨rfl, rfl, rfl, by simp [World.setCell], fun i _ hn => Below.heap_setCell W' p u i hn⟩ (fun k hk => by rw [hk]; exact hp)
theorem Fr.to_below {B : Nat} (h : Fr W W' S) (hS : ∀ k, S k → B ≤ k) (hB : B ≤ W.heap.size) : Below B W W' :=
  ⟨h.os, h.tape, h.output, h.size, fun i hi => h.block i (by omega) (fun hs => by have := hS i hs; omega)⟩
theorem Fr.blk {g : Nat} {o : Obj} (h : Fr W W' S) (hb : W.heap[g]? = some o) (hn : ¬ S g) : W'.heap[g]? = some o := (h.block g (blk_lt hb) hn).trans hb
theorem Fr.own {base e size n : Nat} {v : Value} {xs : List Value} (h : Fr W W' S) (ho : W.ownsRow base e size v n xs) (hn : ∀ k, v.ownBlock = some k → ¬ S k) : W'.ownsRow base e size v n xs :=
  own_move ho (fun k hk => h.block k (ho.lt k hk).2 (hn k hk))
end

/-! ### Letters -/
/-- A letter, as a value. -/
def lv (x : S28) : Value := .agg #[.int .i64 x.f0, .int .i64 x.f1, .string x.f2]
def lcells (x : S28) : List Value := [.int .i64 x.f0, .int .i64 x.f1, .string x.f2]
/-- The cells of a row of letters. -/
def flat (xs : List S28) : List Value := xs.flatMap lcells
theorem flat_append (xs ys : List S28) : flat (xs ++ ys) = flat xs ++ flat ys := List.flatMap_append
theorem flat_one (x : S28) : flat [x] = lcells x := by simp [flat]
theorem flat_length (xs : List S28) : (flat xs).length = xs.length * 3 := by
  induction xs with
  | nil => rfl
  | cons x xs ih =>
    have : flat (x :: xs) = lcells x ++ flat xs := by simp [flat]
    rw [this, List.length_append, ih, List.length_cons]
    simp only [lcells, List.length_cons, List.length_nil]
    omega
theorem flat_split (xs : List S28) (i : Nat) (h : i < xs.length) : flat xs = flat (xs.take i) ++ (lcells xs[i] ++ flat (xs.drop (i + 1))) := by
  have e : flat xs = flat (xs.take i ++ xs.drop i) := by rw [List.take_append_drop]
  have e2 : ∀ (y : S28) (l : List S28), flat (y :: l) = lcells y ++ flat l := fun y l => List.flatMap_cons
  rw [e, flat_append, List.drop_eq_getElem_cons h, e2]
theorem flat_get (xs : List S28) (i : Nat) (h : i < xs.length) : (flat xs)[i * 3]? = some (.int .i64 (xs[i]).f0) ∧ (flat xs)[i * 3 + 1]? = some (.int .i64 (xs[i]).f1) ∧ (flat xs)[i * 3 + 2]? = some (.string (xs[i]).f2) := by
  have hl : (flat (xs.take i)).length = i * 3 := by rw [flat_length, List.length_take, Nat.min_eq_left (by omega)]
  rw [flat_split xs i h]
  refine ⟨?_, ?_, ?_⟩
  · rw [List.getElem?_append_right (by omega), hl, Nat.sub_self]; rfl
  · rw [List.getElem?_append_right (by omega), hl, Nat.add_sub_cancel_left]; rfl
  · rw [List.getElem?_append_right (by omega), hl, Nat.add_sub_cancel_left]; rfl
theorem flat_reps (w : World) (base : Nat) (ok : Nat → Prop) (xs : List S28) : Reps (k28.M w base ok) 3 xs (flat xs) := by
  refine ⟨flat_length xs, fun j p hj => ?_⟩
  obtain ⟨hl, rfl⟩ := List.getElem?_eq_some_iff.1 hj
  have hlt : (flat (xs.take j)).length = j * 3 := by rw [flat_length, List.length_take, Nat.min_eq_left (by omega)]
  rw [flat_split xs j hl, List.drop_left' hlt, List.take_left' (show (lcells xs[j]).length = 3 from rfl)]
  exact k28_mkM w base ok xs[j]
theorem row_R {w : World} {B : Nat} {v : Value} {xs : List S28} (h : w.ownsRow B 28 3 v xs.length (flat xs)) : Kd.R k28 28 w B (fun k => some k = v.ownBlock) v xs :=
  ⟨fun _ hk => hk.symm, flat xs, h, flat_reps _ _ _ _⟩
theorem R_row {w : World} {B : Nat} {ok : Nat → Prop} {v : Value} {xs : List S28} (h : Kd.R k28 28 w B ok v xs) : w.ownsRow B 28 3 v xs.length (flat xs) := by
  obtain ⟨_, inner, ho, hr⟩ := h
  have e : ∀ (xs : List S28) (inner : List Value) (P : S28 → List Value → Prop), (∀ x c, P x c → c = lcells x) → Reps P 3 xs inner → inner = flat xs := by
    intro xs
    induction xs with
    | nil =>
      intro inner P _ hr
      have := hr.1
      simp at this
      rw [this]; rfl
    | cons x xs ih =>
      intro inner P hP hr
      have h0 := hP _ _ (hr.2 0 x rfl)
      rw [Nat.zero_mul, List.drop_zero] at h0
      have hl := hr.1
      rw [List.length_cons] at hl
      have h1 := ih (inner.drop 3) P hP ⟨by rw [List.length_drop]; omega, fun j p hj => by
        have := hr.2 (j + 1) p (by simpa using hj)
        rw [List.drop_drop]
        rw [Nat.add_comm 3, ← Nat.succ_mul]
        exact this⟩
      have : flat (x :: xs) = lcells x ++ flat xs := by simp [flat]
      rw [this, ← h0, ← h1, List.take_append_drop]
  rw [e xs inner _ (fun x c hc => k28_openM hc) hr] at ho
  exact ho

/-! ### A bag -/
/-- At block g of W lies a bag: its field is the slice v of the call's own that holds the letters xs. -/
def Bag (W : World) (B g : Nat) (v : Value) (xs : List S28) : Prop :=
  B ≤ g ∧ W.heap[g]? = some (.cells #[v] 44 (0, 0)) ∧ W.ownsRow B 28 3 v xs.length (flat xs)
section
variable {W W' : World} {B g : Nat} {v : Value} {xs : List S28} {S : Nat → Prop}
theorem Bag.R (h : Bag W B g v xs) : Kd.R k28 28 W B (fun k => some k = v.ownBlock) v xs := row_R h.2.2
theorem Bag.slice (h : Bag W B g v xs) : ∃ A c, v = .slice A xs.length c := Kd.R_slice h.R
theorem Bag.cell (h : Bag W B g v xs) : W.cell? ⟨g, 0, none⟩ = some v := (blk_cell h.2.1 0).trans rfl
theorem Bag.free (h : Bag W B g v xs) : W.frozen? ⟨g, 0, none⟩ = false := blk_frozen h.2.1 0
theorem Bag.lt (h : Bag W B g v xs) : g < W.heap.size := blk_lt h.2.1
theorem Bag.ne (h : Bag W B g v xs) : v.ownBlock ≠ some g := fun he => (Kd.R_ne h.R h.2.1 (by decide)) he.symm
theorem Bag.fr (h : Bag W B g v xs) (f : Fr W W' S) (hg : ¬ S g) (hr : ∀ k, v.ownBlock = some k → ¬ S k) : Bag W' B g v xs := ⟨h.1, f.blk h.2.1 hg, f.own h.2.2 hr⟩
theorem Bag.alloc (h : Bag W B g v xs) (o : Obj) : Bag (W.alloc o) B g v xs := h.fr ((Fr.refl _ (fun _ => False)).alloc o) (fun h => h) (fun _ _ h => h)
/-- What a non-empty bag's slice is, and its cells. -/
theorem Bag.cells (h : Bag W B g v xs) (i : Nat) (hi : i < xs.length) : ∃ r c, v = .slice (some ⟨r, 0, none⟩) xs.length c ∧ r < W.heap.size ∧ r ≠ g ∧ xs.length ≤ c ∧
    W.cell? ⟨r, i * 3, none⟩ = some (.int .i64 (xs[i]).f0) ∧ W.cell? ⟨r, i * 3 + 1, none⟩ = some (.int .i64 (xs[i]).f1) ∧ W.cell? ⟨r, i * 3 + 2, none⟩ = some (.string (xs[i]).f2) := by
  have hne := h.ne
  obtain ⟨r, c, he, _, hlt, _⟩ := Kd.R_form h.R (by omega)
  obtain ⟨A, c2, he2, hle, _⟩ := Kd.R_reads h.R
  subst he
  injection he2 with _ _ hcc
  subst hcc
  obtain ⟨g0, g1, g2⟩ := flat_get xs i hi
  have hc := fun j hj => World.ownsRow.cellAt h.2.2 j hj
  refine ⟨r, c, rfl, hlt, fun he => hne (by rw [he]; simp [Value.ownBlock]), hle, ?_, ?_, ?_⟩
  · rw [hc _ (by omega), g0]
  · rw [hc _ (by omega), g1]
  · rw [hc _ (by omega), g2]
end

/-! ### Len, Copy -/
theorem len_nil (w : World) : Calls Try.prog 14 #[.pointer none] w fun e w' => e = .returned (.int .i64 0) ∧ w = w' := by
  go_enter Try.func14, Try.ntmps14
  go_wp2_with fail
  go_ret
  exact ⟨rfl, rfl⟩
theorem len_calls {W : World} {B g : Nat} {v : Value} {xs : List S28} (h : Bag W B g v xs) : Calls Try.prog 14 #[.pointer (some ⟨g, 0, none⟩)] W fun e w' => e = .returned (.int .i64 xs.length) ∧ W = w' := by
  have hc := h.cell
  obtain ⟨A, c, rfl⟩ := h.slice
  clear h
  go_enter Try.func14, Try.ntmps14
  go_wp2_with fail
  go_ret
  exact ⟨rfl, rfl⟩
theorem copy_neg (P : Option Addr) (i : Int) (hi : i < 0) (w : World) : Calls Try.prog 11 #[.pointer P, .int .i64 i] w fun e w' => e = .returned (.tuple #[lv z28, .bool false]) ∧ Below w.heap.size w w' := by
  go_enter Try.func11, Try.ntmps11
  go_wp2_with fail
  exact bodyPost_ret (v := .tuple #[lv z28, .bool false]) (by simp [results, Try.results11, go_sem, lv, z28]) rfl ⟨rfl, ((Below.refl _ _).alloc (Nat.le_refl _) _)⟩
theorem copy_nil (i : Int) (hi : 0 ≤ i) (w : World) : Calls Try.prog 11 #[.pointer none, .int .i64 i] w fun e w' => e = .returned (.tuple #[lv z28, .bool false]) ∧ Below w.heap.size w w' := by
  go_enter Try.func11, Try.ntmps11
  go_wp2_with (go_at_call 14; refine (len_nil _).mono ?_; rintro e w1 ⟨rfl, rfl⟩)
  exact bodyPost_ret (v := .tuple #[lv z28, .bool false]) (by simp [results, Try.results11, go_sem, lv, z28]) rfl ⟨rfl, ((Below.refl _ _).alloc (Nat.le_refl _) _)⟩
theorem copy_out {W : World} {B g : Nat} {v : Value} {xs : List S28} (h : Bag W B g v xs) (i : Int) (hi : 0 ≤ i) (hl : (xs.length : Int) ≤ i) :
    Calls Try.prog 11 #[.pointer (some ⟨g, 0, none⟩), .int .i64 i] W fun e w' => e = .returned (.tuple #[lv z28, .bool false]) ∧ Below W.heap.size W w' := by
  have H := Lib.hid (h.alloc (.cells #[.int .i64 0, .int .i64 0, .string ⟨#[]⟩] 28))
  go_enter Try.func11, Try.ntmps11
  go_wp2_with (go_at_call 14; refine (len_calls H.out).mono ?_; rintro e w1 ⟨rfl, rfl⟩)
  exact bodyPost_ret (v := .tuple #[lv z28, .bool false]) (by simp [results, Try.results11, go_sem, lv, z28]) rfl ⟨rfl, ((Below.refl _ _).alloc (Nat.le_refl _) _)⟩
theorem copy_in {W : World} {B g : Nat} {v : Value} {xs : List S28} (h : Bag W B g v xs) (i : Nat) (hl : i < xs.length) :
    Calls Try.prog 11 #[.pointer (some ⟨g, 0, none⟩), .int .i64 (i : Int)] W fun e w' => e = .returned (.tuple #[lv (xs[i]), .bool true]) ∧ Below W.heap.size W w' := by
  have H := Lib.hid (h.alloc (.cells #[.int .i64 0, .int .i64 0, .string ⟨#[]⟩] 28))
  have hc := h.cell
  have hg := h.lt
  obtain ⟨r, c, rfl, hrl, _, hlc, hx0, hx1, hx2⟩ := h.cells i hl
  clear h
  generalize xs[i] = x at *
  go_enter Try.func11, Try.ntmps11
  go_wp2_with (go_at_call 14; refine (len_calls H.out).mono ?_; rintro e w1 ⟨rfl, rfl⟩)
  exact bodyPost_ret (v := .tuple #[lv x, .bool true]) (by simp [results, Try.results11, go_sem, lv]) rfl ⟨rfl, ((Below.refl _ _).alloc (Nat.le_refl _) _)⟩

/-! ### Send -/
theorem send_nil (x : S28) (W : World) : Calls Try.prog 9 #[.pointer none, lv x] W fun e w' => e = .returned (.tuple #[]) ∧ Below W.heap.size W w' := by
  unfold lv
  go_enter Try.func9, Try.ntmps9
  go_wp2_with fail
  go_end0
  exact ⟨rfl, (Below.refl _ _).alloc (Nat.le_refl _) _⟩
/-- What a call leaves that writes a bag: the bag holds ys now, the blocks beside the bag's two are as they were. -/
def Left (W : World) (B g : Nat) (v : Value) (ys : List S28) (w' : World) : Prop :=
  ∃ v', Bag w' B g v' ys ∧ Fr W w' (fun k => k = g ∨ v.ownBlock = some k) ∧ ∀ k, v'.ownBlock = some k → v.ownBlock = some k ∨ W.heap.size ≤ k
theorem left_of_grown {W W1 w' : World} {B g g' n cap : Nat} {v : Value} {xs ys : List S28} (h : Bag W B g v xs) (hW : Below W.heap.size W W1) (hgrow : W1.grownBy w' v.ownBlock)
    (hn : ys.length = n) (hown : w'.ownsRow B 28 3 (.slice (some ⟨g', 0, none⟩) n cap) n (flat ys)) (hrow : v.ownBlock = some g' ∨ W.heap.size ≤ g') :
    Left W B g v ys (w'.setCell ⟨g, 0, none⟩ (.slice (some ⟨g', 0, none⟩) n cap)) := by
  subst hn
  have hne := h.ne
  have hg := h.lt
  have kb := blk_grown (blk_below h.2.1 hW) hgrow (fun he => hne he.symm)
  have hgg : g' ≠ g := by
    rintro rfl
    rcases hrow with hrow | hrow
    · exact hne hrow
    · omega
  refine ⟨.slice (some ⟨g', 0, none⟩) ys.length cap, ⟨h.1, blk_put kb 0 _ rfl, own_move hown (fun k hk => ?_)⟩, ?_, fun k hk => ?_⟩
  · have : g' = k := by simpa [Value.ownBlock] using hk
    subst this
    exact Below.heap_setCell _ _ _ _ hgg
  · refine Fr.setCell ?_ (.inl (.inl rfl)) _
    exact ((Fr.of_below hW (fun k => k = g ∨ v.ownBlock = some k)).trans (Fr.of_grown hgrow) (fun i hi => .inl (.inr hi)))
  · have : g' = k := by simpa [Value.ownBlock] using hk
    subst this
    exact hrow
theorem send_calls {W : World} {B g : Nat} {v : Value} {xs : List S28} (h : Bag W B g v xs) (x : S28) (hl : xs.length + 1 ≤ 4398046511104) (hB : B ≤ W.heap.size) :
    Calls Try.prog 9 #[.pointer (some ⟨g, 0, none⟩), lv x] W fun e w' => e = .returned (.tuple #[]) ∧ Left W B g v (xs ++ [x]) w' := by
  obtain ⟨i0, hi0, hz0, hz1, hz2⟩ := info_parts info28
  have hc := h.cell
  have hf := h.free
  have hg := h.lt
  have hne := Lib.hid h.ne
  have HO := Lib.hid h.2.2
  have HBlk := Lib.hid h.2.1
  have hBg := h.1
  obtain ⟨A, c, rfl⟩ := h.slice
  have H := Lib.hid h
  clear h
  unfold lv
  go_enter Try.func9, Try.ntmps9
  go_wp2_with fail
  have hnews : Hid (∀ j u, (lcells x)[j]? = some u → (((W.alloc (.cells #[.int .i64 x.f0, .int .i64 x.f1, .string x.f2] 28)).alloc (.cells #[.int .i64 x.f0, .int .i64 x.f1, .string x.f2] 28)).drew).cell? ((⟨W.heap.size + 1, 0, none⟩ : Addr).add j) = some u) := by
    intro j u hj
    have hb : (((W.alloc (.cells #[.int .i64 x.f0, .int .i64 x.f1, .string x.f2] 28)).alloc (.cells #[.int .i64 x.f0, .int .i64 x.f1, .string x.f2] 28)).drew).heap[W.heap.size + 1]? = some (.cells (lcells x).toArray 28 (0, 0)) := by
      have e := blk_new (W.alloc (.cells #[.int .i64 x.f0, .int .i64 x.f1, .string x.f2] 28)) (.cells #[.int .i64 x.f0, .int .i64 x.f1, .string x.f2] 28)
      exact blk_drew (by simpa [lcells] using e)
    exact World.news_of_block hb j u (by simpa using hj)
  go_region_law (refine step_append_lies _ rfl (.tmp 10) (.tmp 12) 26 rfl B 28 i0 (.agg #[(.int .i64 0), (.int .i64 0), (.string ⟨#[]⟩)]) 3 32 Try.underlying26 hi0 hz0 hz1 hz2 rfl (by decide) _ xs.length (flat xs) (by simp [Act.eval]) (((HO.out.alloc _).alloc _).drew) ⟨W.heap.size + 1, 0, none⟩ 1 1 (lcells x) (by simp [Act.eval]) rfl hnews.out (by simp [lcells, Value.oneCell']) (by omega) (by simp only [maxLen]; omega) (by omega) (by simp; omega) (W.heap.size + 2) (by simp) ?_; intro g' cap' w' hown hgrow hrow hlt; have kb := blk_grown (blk_drew (blk_alloc (blk_alloc HBlk.out _) _)) hgrow (fun he => hne.out he.symm); have k0 := (blk_cell kb 0).trans (show _ = some (Value.slice A xs.length c) from rfl); have e0 := blk_frozen kb 0)
  all_goals
    go_end0
    refine ⟨rfl, left_of_grown H.out (W1 := ((W.alloc (.cells #[.int .i64 x.f0, .int .i64 x.f1, .string x.f2] 28)).alloc (.cells #[.int .i64 x.f0, .int .i64 x.f1, .string x.f2] 28)).drew) ?_ hgrow (by simp) (by rw [flat_append, flat_one]; exact hown) ?_⟩
    · exact ((((Below.refl _ _).alloc (Nat.le_refl _) _).alloc (by simp) _).drew)
    · rcases hrow with hrow | hrow
      · exact .inl hrow
      · exact .inr (by omega)
end Go.Proofs.Ytaooemnninnfcaa.Bag
