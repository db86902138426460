/- A method goes through a struct's fields, one call behind the other: what is left to do at each of them. -/
import Derived.Test.YtlcgkcmicklihaaTexts
namespace Go.Proofs.Ytlcgkcmicklihaa.Wire
set_option linter.unusedVariables false
set_option linter.unusedSimpArgs false
open Go.RowKit Go.Proofs.YtlcgkcmicklihaaW.PrintWords Go.Proofs.YtlcgkcmicklihaaW.PrintLast Go.Proofs.YtlcgkcmicklihaaW.PrintMore
/-- Function f, called with the function fv beside, is the method of kind t. -/
def CodesF (f : Nat) (fv : Value) (t : Ty) : Prop := ∀ {g b T o : Nat} {pre post : List Value} {s : Sg} {c : Option Nat} {ok : Nat → Prop} {x : t.T} {w : World}, Pre g b T pre post t s c ok x w → o = pre.length →
  Calls Try.prog f #[.pointer (some ⟨g, 0, none⟩), .pointer (some ⟨b, o, none⟩), fv] w fun e w' => e = .returned (.tuple #[]) ∧ ∃ c', Done g b T pre post t s c ok x w c' w'
/-- At offset o of block b kind t is still to be gone through; behind it the goal is reached. -/
def Left (goal : Option Nat → World → Prop) (g b T o : Nat) (post : List Value) (t : Ty) (w : World) : Prop :=
  ∃ (pre : List Value) (s : Sg) (c : Option Nat) (ok : Nat → Prop) (x : t.T), Pre g b T pre post t s c ok x w ∧ o = pre.length ∧ ∀ c' w', Done g b T pre post t s c ok x w c' w' → goal c' w'
section
variable {goal : Option Nat → World → Prop} {g b T o : Nat} {post : List Value} {t a r : Ty} {w W : World}
theorem Left.start {pre : List Value} {s : Sg} {c : Option Nat} {ok : Nat → Prop} {x : t.T} (h : Pre g b T pre post t s c ok x w) (ho : o = pre.length) : Left (fun c' w' => Done g b T pre post t s c ok x w c' w') g b T o post t w :=
  ⟨pre, s, c, ok, x, h, ho, fun _ _ h => h⟩
theorem Left.step (h : Left goal g b T o post (.pair a r) w) : ∃ (pre post' : List Value) (s : Sg) (c : Option Nat) (ok : Nat → Prop) (x : a.T), Pre g b T pre post' a s c ok x w ∧ o = pre.length ∧
    ∀ c1 w1, Done g b T pre post' a s c ok x w c1 w1 → Left goal g b T (o + a.sz) post r w1 := by
  obtain ⟨pre, s, c, ok, x, hP, ho, hD⟩ := h
  obtain ⟨post', h1, hn⟩ := Pre.split hP
  refine ⟨pre, post', s, c, ok, x.1, h1, ho, fun c1 w1 hd => ?_⟩
  obtain ⟨pre', hl, hP2, hD2⟩ := hn c1 w1 hd
  exact ⟨pre', _, c1, _, _, hP2, by rw [hl, ho], fun c2 w2 hd2 => hD c2 w2 (hD2 c2 w2 hd2)⟩
theorem Left.codes {f : Nat} (hf : Codes f a) (h : Left goal g b T o post (.pair a r) w) (hW : Below w.heap.size w W) :
    Calls Try.prog f #[.pointer (some ⟨g, 0, none⟩), .pointer (some ⟨b, o, none⟩)] W fun e w' => e = .returned (.tuple #[]) ∧ Left goal g b T (o + a.sz) post r w' := by
  obtain ⟨pre, post', s, c, ok, x, hP, ho, hD⟩ := h.step
  exact (hf (hP.below hW) ho).mono fun e w' ⟨he, c', hd⟩ => ⟨he, hD c' w' (hd.back hW)⟩
theorem Left.codes_last {f : Nat} (hf : Codes f a) (h : Left goal g b T o post a w) (hW : Below w.heap.size w W) :
    Calls Try.prog f #[.pointer (some ⟨g, 0, none⟩), .pointer (some ⟨b, o, none⟩)] W fun e w' => e = .returned (.tuple #[]) ∧ ∃ c', goal c' w' := by
  obtain ⟨pre, s, c, ok, x, hP, ho, hD⟩ := h
  exact (hf (hP.below hW) ho).mono fun e w' ⟨he, c', hd⟩ => ⟨he, c', hD c' w' (hd.back hW)⟩
theorem Left.codesF {f : Nat} {fv : Value} (hf : CodesF f fv a) (h : Left goal g b T o post (.pair a r) w) (hW : Below w.heap.size w W) :
    Calls Try.prog f #[.pointer (some ⟨g, 0, none⟩), .pointer (some ⟨b, o, none⟩), fv] W fun e w' => e = .returned (.tuple #[]) ∧ Left goal g b T (o + a.sz) post r w' := by
  obtain ⟨pre, post', s, c, ok, x, hP, ho, hD⟩ := h.step
  exact (hf (hP.below hW) ho).mono fun e w' ⟨he, c', hd⟩ => ⟨he, hD c' w' (hd.back hW)⟩
theorem Left.codesF_last {f : Nat} {fv : Value} (hf : CodesF f fv a) (h : Left goal g b T o post a w) (hW : Below w.heap.size w W) :
    Calls Try.prog f #[.pointer (some ⟨g, 0, none⟩), .pointer (some ⟨b, o, none⟩), fv] W fun e w' => e = .returned (.tuple #[]) ∧ ∃ c', goal c' w' := by
  obtain ⟨pre, s, c, ok, x, hP, ho, hD⟩ := h
  exact (hf (hP.below hW) ho).mono fun e w' ⟨he, c', hd⟩ => ⟨he, c', hD c' w' (hd.back hW)⟩
/-- The pointers to n + 1 cells that stand side by side. -/
def ptrs (b o n : Nat) : List Value := (List.range (n + 1)).map fun i => .pointer (some ⟨b, o + i, none⟩)
theorem Ptrs.of_row {n T2 : Nat} (cs : Array Value) (hcs : cs = (ptrs b o n).toArray) : Ptrs (w.alloc (.cells cs T2)) w.heap.size b o n := fun i hi => by
  subst hcs
  rw [(blk_cell (blk_new w _) i)]
  simp [ptrs, List.getElem?_range (show i < n + 1 by omega)]
theorem Pre.fresh {pre : List Value} {s : Sg} {c : Option Nat} {ok : Nat → Prop} {x : t.T} (h : Pre g b T pre post t s c ok x w) : w.heap.size ≠ g ∧ w.heap.size ≠ b ∧ c ≠ some w.heap.size := by
  have h1 := h.co.glt
  have h2 := h.blt
  refine ⟨by omega, by omega, fun he => ?_⟩
  have := (h.co.clt _ he).1
  omega
theorem Left.nums {n k : Nat} (h : Left goal g b T o post (.pair (ints n) r) w) (hW : Below w.heap.size w W) (hq : Ptrs W w.heap.size b o n) (hn : n ≤ 1000) (hk : k = n + 1) :
    Calls Try.prog 53 #[.pointer (some ⟨g, 0, none⟩), .slice (some ⟨w.heap.size, 0, none⟩) k k] W fun e w' => e = .returned (.tuple #[]) ∧ Left goal g b T (o + k) post r w' := by
  subst hk
  obtain ⟨pre, post', s, c, ok, x, hP, ho, hD⟩ := h.step
  obtain ⟨q1, q2, q3⟩ := hP.fresh
  rw [reps_sz .int rfl n] at hD
  exact (nums_calls (hP.below hW) ho hq q1 q2 q3 hn).mono fun e w' ⟨he, c', hd⟩ => ⟨he, hD c' w' (hd.back hW)⟩
theorem Left.nums_last {n k : Nat} (h : Left goal g b T o post (ints n) w) (hW : Below w.heap.size w W) (hq : Ptrs W w.heap.size b o n) (hn : n ≤ 1000) (hk : k = n + 1) :
    Calls Try.prog 53 #[.pointer (some ⟨g, 0, none⟩), .slice (some ⟨w.heap.size, 0, none⟩) k k] W fun e w' => e = .returned (.tuple #[]) ∧ ∃ c', goal c' w' := by
  subst hk
  obtain ⟨pre, s, c, ok, x, hP, ho, hD⟩ := h
  obtain ⟨q1, q2, q3⟩ := hP.fresh
  exact (nums_calls (hP.below hW) ho hq q1 q2 q3 hn).mono fun e w' ⟨he, c', hd⟩ => ⟨he, c', hD c' w' (hd.back hW)⟩
theorem Left.texts {n k : Nat} (h : Left goal g b T o post (.pair (reps .str n) r) w) (hW : Below w.heap.size w W) (hq : Ptrs W w.heap.size b o n) (hn : n ≤ 1000) (hk : k = n + 1) :
    Calls Try.prog 57 #[.pointer (some ⟨g, 0, none⟩), .slice (some ⟨w.heap.size, 0, none⟩) k k] W fun e w' => e = .returned (.tuple #[]) ∧ Left goal g b T (o + k) post r w' := by
  subst hk
  obtain ⟨pre, post', s, c, ok, x, hP, ho, hD⟩ := h.step
  obtain ⟨q1, q2, q3⟩ := hP.fresh
  rw [reps_sz .str rfl n] at hD
  exact (texts_calls (hP.below hW) ho hq q1 q2 q3 hn).mono fun e w' ⟨he, c', hd⟩ => ⟨he, hD c' w' (hd.back hW)⟩
theorem Left.texts_last {n k : Nat} (h : Left goal g b T o post (reps .str n) w) (hW : Below w.heap.size w W) (hq : Ptrs W w.heap.size b o n) (hn : n ≤ 1000) (hk : k = n + 1) :
    Calls Try.prog 57 #[.pointer (some ⟨g, 0, none⟩), .slice (some ⟨w.heap.size, 0, none⟩) k k] W fun e w' => e = .returned (.tuple #[]) ∧ ∃ c', goal c' w' := by
  subst hk
  obtain ⟨pre, s, c, ok, x, hP, ho, hD⟩ := h
  obtain ⟨q1, q2, q3⟩ := hP.fresh
  exact (texts_calls (hP.below hW) ho hq q1 q2 q3 hn).mono fun e w' ⟨he, c', hd⟩ => ⟨he, c', hD c' w' (hd.back hW)⟩
theorem below1 {cs : Array Value} {T2 : Nat} : Below w.heap.size w (w.alloc (.cells cs T2)) := (Below.refl _ _).alloc (Nat.le_refl _) _
theorem below2 {cs : Array Value} {T2 : Nat} : Below w.heap.size w (w.alloc (.cells cs T2)).drew := ((Below.refl _ _).alloc (Nat.le_refl _) _).drew
theorem ptrs1 {n T2 : Nat} {cs : Array Value} (hcs : cs = (ptrs b o n).toArray) : Ptrs (w.alloc (.cells cs T2)) w.heap.size b o n := Ptrs.of_row cs hcs
theorem ptrs2 {n T2 : Nat} {cs : Array Value} (hcs : cs = (ptrs b o n).toArray) : Ptrs (w.alloc (.cells cs T2)).drew w.heap.size b o n := Ptrs.of_row cs hcs
end
end Go.Proofs.Ytlcgkcmicklihaa.Wire
