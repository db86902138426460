/- What the proofs over the reference use. -/
import Derived.Test.YtlcgkcmicklihaaRMsg
namespace Go.Proofs.Ytlcgkcmicklihaa.Wire
set_option linter.unusedVariables false
set_option linter.unusedSimpArgs false
open Go.RowKit Go.Proofs.YtlcgkcmicklihaaW.PrintWords Go.Proofs.YtlcgkcmicklihaaW.PrintLast Go.Proofs.YtlcgkcmicklihaaW.PrintMore
theorem Holds.int_cell {w : World} {ok : Nat → Prop} {x : Int} {cs : List Value} (h : Holds w ok .int x cs) : cs = [.int .i64 x] := h
theorem Holds.bool_cell {w : World} {ok : Nat → Prop} {x : Bool} {cs : List Value} (h : Holds w ok .bool x cs) : cs = [.bool x] := h
theorem Holds.str_cell {w : World} {ok : Nat → Prop} {x : ByteArray} {cs : List Value} (h : Holds w ok .str x cs) : cs = [.string x] := h
theorem Holds.pair_cell {w : World} {ok : Nat → Prop} {a b : Ty} {x : a.T} {y : b.T} {cs : List Value} (h : Holds w ok (.pair a b) (x, y) cs) : ∃ c1 c2, cs = c1 ++ c2 ∧ Holds w ok a x c1 ∧ Holds w ok b y c2 := h
theorem Holds.list_cell {w : World} {ok : Nat → Prop} {e : Ty} {l : List e.T} {cs : List Value} (h : Holds w ok (.list e) l cs) : ∃ A cap, cs = [.slice A l.length cap] ∧ Holds w ok (.list e) l [.slice A l.length cap] := by
  have h' := h
  unfold Holds at h
  obtain ⟨A, cap, rfl, _⟩ := h
  exact ⟨A, cap, rfl, h'⟩
theorem str_size {y : ByteArray} {R : List UInt8} (h : cStr.enc y = R) (hl : R.length ≤ 68719476736) : y.size ≤ 281474976710656 := by
  subst h
  have he : (cStr.enc y).length = (num (y.data.toList.length : Int)).length + y.data.toList.length := by
    show (num (y.data.toList.length : Int) ++ y.data.toList).length = _
    rw [List.length_append]
  have hs : y.size = y.data.toList.length := by simp
  omega
/-- A row of numbers at block q. -/
def RowAt (W : World) (q : Nat) (l : List Int) : Prop := ∀ i y, l[i]? = some y → W.cell? ⟨q, i, none⟩ = some (.int .i64 y)
theorem rowB {W : World} {q : Nat} {l : List Int} {cs : Array Value} (hcs : cs = (l.map (Value.int .i64)).toArray) (hq : q = W.heap.size) : RowAt (W.alloc (.cells cs 3)) q l := by
  intro i y h
  subst hcs hq
  rw [blk_cell (blk_new W _) i]
  simp [h]
theorem row_alloc {W : World} {q : Nat} {l : List Int} {o : Obj} (h : RowAt W q l) : RowAt (W.alloc o) q l := fun i y hy => by
  have h1 := h i y hy
  rw [World.cell?_alloc_lt _ _ _ (World.block_lt_of_cell? W _ h1)]
  exact h1
theorem row_drew {W : World} {q : Nat} {l : List Int} (h : RowAt W q l) : RowAt W.drew q l := h
theorem row_below {W W' : World} {q : Nat} {l : List Int} (h : Below W.heap.size W W') (k : RowAt W q l) : RowAt W' q l := fun i y hy => (h.cell (World.block_lt_of_cell? W _ (k i y hy))).trans (k i y hy)
theorem bel_alloc {wb W : World} {o : Obj} (h : Below wb.heap.size wb W) : Below wb.heap.size wb (W.alloc o) := h.alloc h.size o
theorem bel_drew {wb W : World} (h : Below wb.heap.size wb W) : Below wb.heap.size wb W.drew := h.drew
theorem nums_at (l : List Int) (Q : List UInt8) (hQ : l.flatMap num = Q) (m : Nat) (hm : l.length = m) (q c : Nat) (w : World) (hl : m ≤ 1000) (hf : ∀ n ∈ l, Fits n) (hc : RowAt w q l) :
    Calls Try.prog 29 #[.slice (some ⟨q, 0, none⟩) m c] w fun e w' => e = .returned (.string (mkb Q)) ∧ Below w.heap.size w w' := nums_ref' l Q hQ m hm q c w hl hf hc
theorem flag_ref' (b : Bool) (R : List UInt8) (h : cFlag.enc b = R) (w : World) : Calls Try.prog 30 #[.bool b] w fun e w' => e = .returned (.string (mkb R)) ∧ Below w.heap.size w w' := h ▸ flag_ref b w
theorem text_ref' (y : ByteArray) (R : List UInt8) (h : cStr.enc y = R) (w : World) (hy : y.size ≤ 281474976710656) : Calls Try.prog 32 #[.string y] w fun e w' => e = .returned (.string (mkb R)) ∧ Below w.heap.size w w' := h ▸ text_ref y w hy
theorem num_ref' (n : Int) (R : List UInt8) (h : num n = R) (w : World) (hn : Fits n) : Calls Try.prog 41 #[.int .i64 n] w fun e w' => e = .returned (.string (mkb R)) ∧ Below w.heap.size w w' := h ▸ num_ref n w hn
/-- A reference's function over a list. -/
def ListRef (f : Nat) (e : Ty) : Prop := ∀ (l : List e.T) (A : Option Addr) (cap : Nat) (ok : Nat → Prop) (w : World), Holds w ok (.list e) l [.slice A l.length cap] → (Ty.list e).cod.ok l → ((Ty.list e).cod.enc l).length ≤ 68719476736 →
  Calls Try.prog f #[.slice A l.length cap] w fun e_ w' => e_ = .returned (.string (mkb ((Ty.list e).cod.enc l))) ∧ Below w.heap.size w w'
theorem list_ref' {f : Nat} {e : Ty} (hf : ListRef f e) (l : List e.T) (A : Option Addr) (cap : Nat) (ok : Nat → Prop) (R : List UInt8) (h : (Ty.list e).cod.enc l = R) (w : World) (hH : Holds w ok (.list e) l [.slice A l.length cap]) (hok : (Ty.list e).cod.ok l) (hlen : ((Ty.list e).cod.enc l).length ≤ 68719476736) :
    Calls Try.prog f #[.slice A l.length cap] w fun e_ w' => e_ = .returned (.string (mkb R)) ∧ Below w.heap.size w w' := by
  subst h
  exact hf l A cap ok w hH hok hlen
theorem below_then' {w wb w' : World} (h : Below w.heap.size w wb) (k : Below wb.heap.size wb w') : Below w.heap.size w w' := below_step h k
theorem entries_all : ListRef 31 tEntry := fun l A cap ok w hH hok hlen => entries_ref l A cap ok w hH hok hlen
end Go.Proofs.Ytlcgkcmicklihaa.Wire
