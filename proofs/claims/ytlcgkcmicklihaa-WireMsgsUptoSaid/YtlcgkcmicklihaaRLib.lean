/- What the proofs over the reference use. -/
import Derived.Test.YtlcgkcmicklihaaRNum
import Derived.Test.YtlcgkcmicklihaaMMsg
namespace Go.Proofs.Ytlcgkcmicklihaa.Wire
set_option linter.unusedVariables false
set_option linter.unusedSimpArgs false
open Go.RowKit Go.Proofs.YtlcgkcmicklihaaW.PrintWords Go.Proofs.YtlcgkcmicklihaaW.PrintLast Go.Proofs.YtlcgkcmicklihaaW.PrintMore
theorem enc_entry (y0 y1 y2 : Int) (y3 : ByteArray) : tEntry.cod.enc ((y0, y1, y2), y3) = [y0, y1, y2].flatMap num ++ cStr.enc y3 := by
  show (num y0 ++ (num y1 ++ num y2)) ++ cStr.enc y3 = _
  simp
theorem entry_fits {e : Ty} {l : List e.T} {k : Nat} {y : e.T} (hok : (Ty.list e).cod.ok l) (hlen : ((Ty.list e).cod.enc l).length ≤ 68719476736) (hy : l[k]? = some y) :
    e.cod.ok y ∧ (num (l.length : Int) ++ encs e.cod (l.take k)).length + (e.cod.enc y).length ≤ 68719476736 := by
  refine ⟨hok.2 y (List.mem_of_getElem? hy), ?_⟩
  have h1 : (num (l.length : Int) ++ encs e.cod l).length ≤ 68719476736 := hlen
  have h2 := encs_take_le e.cod l (k + 1)
  rw [encs_snoc e.cod l k y hy] at h2
  simp only [List.length_append] at h1 h2 ⊢
  omega
theorem fits_nil : ∀ n ∈ ([] : List Int), Fits n := fun n h => by cases h
theorem fits_cons {a : Int} {l : List Int} (ha : Fits a) (h : ∀ n ∈ l, Fits n) : ∀ n ∈ a :: l, Fits n := fun n hn => by
  rcases List.mem_cons.1 hn with rfl | hn
  · exact ha
  · exact h n hn
theorem nums_ref' (l : List Int) (Q : List UInt8) (hQ : l.flatMap num = Q) (m : Nat) (hm : l.length = m) (q c : Nat) (w : World) (hl : m ≤ 1000) (hf : ∀ n ∈ l, Fits n) (hc : ∀ i y, l[i]? = some y → w.cell? ⟨q, i, none⟩ = some (.int .i64 y)) :
    Calls Try.prog 29 #[.slice (some ⟨q, 0, none⟩) m c] w fun e w' => e = .returned (.string (mkb Q)) ∧ Below w.heap.size w w' := by
  subst hQ hm
  exact nums_ref l q c w hl hf hc
theorem row3 (W : World) (y0 y1 y2 : Int) : ∀ i y, [y0, y1, y2][i]? = some y → (W.alloc (.cells #[.int .i64 y0, .int .i64 y1, .int .i64 y2] 3)).drew.cell? ⟨W.heap.size, i, none⟩ = some (.int .i64 y) := by
  intro i y h
  have e := blk_cell (blk_drew (blk_new W (.cells #[.int .i64 y0, .int .i64 y1, .int .i64 y2] 3))) i
  rw [e]
  match i, h with
  | 0, h => simpa using h
  | 1, h => simpa using h
  | 2, h => simpa using h
theorem cat3 {P Q : List UInt8} {y : ByteArray} (h : P.length + (Q ++ cStr.enc y).length ≤ 68719476736) : y.size ≤ 281474976710656 ∧ ¬ 9223372036854775807 < (mkb P).size + (mkb Q).size ∧ ¬ 9223372036854775807 < (mkb P ++ mkb Q).size + (mkb (cStr.enc y)).size ∧ ¬ 9223372036854775807 < (mkb P).size + (mkb Q).size + (mkb (cStr.enc y)).size := by
  have he : (cStr.enc y).length = (num (y.data.toList.length : Int)).length + y.data.toList.length := by
    show (num (y.data.toList.length : Int) ++ y.data.toList).length = _
    rw [List.length_append]
  have hs : y.size = y.data.toList.length := by simp
  rw [List.length_append] at h
  rw [mkb_append, mkb_size, mkb_size, mkb_size, mkb_size, List.length_append]
  omega
theorem keep1 {W W' : World} {p0 : Addr} {v0 : Value} (q0 : W.cell? p0 = some v0) (h : Below W.heap.size W W') : W'.cell? p0 = some v0 := (h.cell (World.block_lt_of_cell? W _ q0)).trans q0
theorem keep4 {W W' : World} {p0 p1 p2 p3 : Addr} {v0 v1 v2 v3 : Value} (q0 : W.cell? p0 = some v0) (q1 : W.cell? p1 = some v1) (q2 : W.cell? p2 = some v2) (q3 : W.cell? p3 = some v3) (h : Below W.heap.size W W') :
    Below W.heap.size W W' ∧ W'.cell? p0 = some v0 ∧ W'.cell? p1 = some v1 ∧ W'.cell? p2 = some v2 ∧ W'.cell? p3 = some v3 := ⟨h, keep1 q0 h, keep1 q1 h, keep1 q2 h, keep1 q3 h⟩
set_option maxRecDepth 100000 in
set_option maxHeartbeats 4000000 in
theorem entries_ref (l : List tEntry.T) (A : Option Addr) (cap : Nat) (ok : Nat → Prop) (w : World) (hH : Holds w ok (.list tEntry) l [.slice A l.length cap]) (hok : (Ty.list tEntry).cod.ok l) (hlen : ((Ty.list tEntry).cod.enc l).length ≤ 68719476736) :
    Calls Try.prog 31 #[.slice A l.length cap] w fun e w' => e = .returned (.string (mkb ((Ty.list tEntry).cod.enc l))) ∧ Below w.heap.size w w' := by
  obtain ⟨L, hL⟩ : ∃ L, l.length = L := ⟨_, rfl⟩
  have hl : l.length ≤ top := hok.1
  have hL2 : L ≤ 9223372036854775807 := by rw [← hL]; exact hl
  have he : (Ty.list tEntry).cod.enc l = num (L : Int) ++ encs tEntry.cod l := by rw [← hL]; rfl
  have HH := Lib.hid hH
  have HOK := Lib.hid hok
  have HLEN := Lib.hid hlen
  have HE := Lib.hid he
  rw [hL]
  have HL := Lib.hid hL
  clear hL hH hok hlen he hl
  go_enter Try.func31, Try.ntmps31
  go_wp2_with fail
  refine (num_ref (L : Int) _ ⟨by omega, by omega⟩).mono ?_
  rintro e w1 ⟨rfl, hb0⟩
  have HB0 := Lib.hid hb0
  clear hb0
  go_wp2_with fail
  go_loopw [3, 4] (fun v3 v4 wr => ∃ k : Nat, v4 = .int .i64 (k : Int) ∧ k ≤ L ∧ v3 = .string (mkb (num (L : Int) ++ encs tEntry.cod (l.take k))) ∧ Below w.heap.size w wr) (fun _ v4 _ => L - (intOf v4).toNat)
  case atStart => exact ⟨0, rfl, by omega, by simp [encs], HB0.out⟩
  case round =>
    obtain ⟨k, rfl, hk, rfl, hb⟩ := hrel
    have HB := Lib.hid hb
    clear hb
    by_cases hlt : k < L
    · obtain ⟨y, hy⟩ : ∃ y, l[k]? = some y := ⟨_, List.getElem?_eq_getElem (by rw [HL.out]; exact hlt)⟩
      obtain ⟨ab, ao, cs, rfl, hoka, hHy, hcs⟩ := HH.out.list_at hy
      obtain ⟨⟨y0, y1, y2⟩, y3⟩ := y
      obtain ⟨c1, c2, rfl, h1, h2⟩ := hHy
      obtain ⟨c3, c4, rfl, h3, h4⟩ := h1
      obtain ⟨c5, c6, rfl, h5, h6⟩ := h4
      have h3' : c3 = [.int .i64 y0] := h3
      have h5' : c5 = [.int .i64 y1] := h5
      have h6' : c6 = [.int .i64 y2] := h6
      have h2' : c2 = [.string y3] := h2
      subst h3' h5' h6' h2'
      have m0 : w.cell? ⟨ab, ao + k * 4, none⟩ = some (.int .i64 y0) := hcs 0 _ rfl
      have m1 : w.cell? ⟨ab, ao + k * 4 + 1, none⟩ = some (.int .i64 y1) := hcs 1 _ rfl
      have m2 : w.cell? ⟨ab, ao + k * 4 + 2, none⟩ = some (.int .i64 y2) := hcs 2 _ rfl
      have m3 : w.cell? ⟨ab, ao + k * 4 + 3, none⟩ = some (.string y3) := hcs 3 _ rfl
      obtain ⟨hyok, hsz1⟩ := entry_fits HOK.out HLEN.out hy
      have e0 := enc_entry y0 y1 y2 y3
      have q0 : wr.cell? ⟨ab, ao + k * 4, none⟩ = some (.int .i64 y0) := (HB.out.cell (p := ⟨ab, ao + k * 4, none⟩) (World.block_lt_of_cell? w _ m0)).trans m0
      have q1 : wr.cell? ⟨ab, ao + k * 4 + 1, none⟩ = some (.int .i64 y1) := (HB.out.cell (p := ⟨ab, ao + k * 4 + 1, none⟩) (World.block_lt_of_cell? w _ m1)).trans m1
      have q2 : wr.cell? ⟨ab, ao + k * 4 + 2, none⟩ = some (.int .i64 y2) := (HB.out.cell (p := ⟨ab, ao + k * 4 + 2, none⟩) (World.block_lt_of_cell? w _ m2)).trans m2
      have q3 : wr.cell? ⟨ab, ao + k * 4 + 3, none⟩ = some (.string y3) := (HB.out.cell (p := ⟨ab, ao + k * 4 + 3, none⟩) (World.block_lt_of_cell? w _ m3)).trans m3
      have hab : ab < wr.heap.size := World.block_lt_of_cell? wr _ q0
      rw [e0] at hsz1
      have hf3 : ∀ n ∈ [y0, y1, y2], Fits n := fits_cons hyok.1.1 (fits_cons hyok.1.2.1 (fits_cons hyok.1.2.2 fits_nil))
      have HF3 := Lib.hid hf3
      obtain ⟨P, hP⟩ : ∃ P, num (L : Int) ++ encs tEntry.cod (l.take k) = P := ⟨_, rfl⟩
      obtain ⟨Q, hQ⟩ : ∃ Q, [y0, y1, y2].flatMap num = Q := ⟨_, rfl⟩
      rw [HL.out, hP, hQ] at hsz1
      rw [hP]
      obtain ⟨hy3, s1, s2, s3⟩ := cat3 hsz1
      have HP := Lib.hid hP
      have HQ := Lib.hid hQ
      have HY := Lib.hid hy
      have HCS := Lib.hid hcs
      have E0 := Lib.hid e0
      clear m0 m1 m2 m3 hcs hy hsz1 hf3 hyok e0 hP hQ
      have b0 : (0 : Int) ≤ (k : Int) := by omega
      have b1 : (k : Int) < (L : Int) := by omega
      go_wp2_with fail
      go_region_held3 (fun w' => Below wr.heap.size wr w' ∧ w'.cell? ⟨ab, ao + k * 4, none⟩ = some (.int .i64 y0) ∧ w'.cell? ⟨ab, ao + k * 4 + 1, none⟩ = some (.int .i64 y1) ∧ w'.cell? ⟨ab, ao + k * 4 + 2, none⟩ = some (.int .i64 y2) ∧ w'.cell? ⟨ab, ao + k * 4 + 3, none⟩ = some (.string y3))
        (first | (refine keep4 q0 q1 q2 q3 ?_; first | exact (Below.refl _ _).drew | exact below2 | exact hBa | exact hBb))
        (first | (go_at_call 29; refine (nums_ref' [y0, y1, y2] Q HQ.out 3 rfl wr.heap.size 3 _ (by decide) HF3.out (row3 _ _ _ _)).mono ?_; rintro e wa ⟨rfl, hba⟩; have hBa := below_step below2 hba) | (go_at_call 32; refine (text_ref y3 _ hy3).mono ?_; rintro e wb ⟨rfl, hbb⟩; have hBb := below_step hBa hbb))
      go_wp2_with fail
      go_roundw
      case rel =>
        refine ⟨k + 1, by go_num, by omega, ?_, below_step HB.out hBb⟩
        rw [encs_snoc _ l k _ HY.out, ← List.append_assoc, HP.out, E0.out, HQ.out, mkb_append, mkb_append, List.append_assoc]
      case measure => simp [intOf]; omega
    · obtain rfl : k = L := by omega
      go_wp2_with fail
      go_ret
      refine ⟨?_, HB.out⟩
      rw [HE.out, ← HL.out, List.take_length]
      rfl
end Go.Proofs.Ytlcgkcmicklihaa.Wire
namespace Go.Proofs.Ytlcgkcmicklihaa.Wire
set_option linter.unusedVariables false
set_option linter.unusedSimpArgs false
open Go.RowKit Go.Proofs.YtlcgkcmicklihaaW.PrintWords Go.Proofs.YtlcgkcmicklihaaW.PrintLast Go.Proofs.YtlcgkcmicklihaaW.PrintMore
theorem Holds.int_cell {w : World} {ok : Nat → Prop} {x : Int} {cs : List Value} (h : Holds w ok .int x cs) : cs = [.int .i64 x] := h
theorem Holds.bool_cell {w : World} {ok : Nat → Prop} {x : Bool} {cs : List Value} (h : Holds w ok .bool x cs) : cs = [.bool x] := h
theorem Holds.str_cell {w : World} {ok : Nat → Prop} {x : ByteArray} {cs : List Value} (h : Holds w ok .str x cs) : cs = [.string x] := h
theorem Holds.pair_cell {w : World} {ok : Nat → Prop} {a b : Ty} {x : a.T} {y : b.T} {cs : List Value} (h : Holds w ok (.pair a b) (x, y) cs) : ∃ c1 c2, cs = c1 ++ c2 ∧ Holds w ok a x c1 ∧ Holds w ok b y c2 := h
theorem Holds.list_cell {w : World} {ok : Nat → Prop} {e : Ty} {l : List e.T} {cs : List Value} (h : Holds w ok (.list e) l cs) : ∃ A cap, cs = [.slice A l.length cap] ∧ Holds w ok (.list e) l [.slice A l.length cap] := by
  have h' := h
  unfold Holds at h
  obtain ⟨A, cap, rfl, _⟩ := h
  exact ⟨A, cap, rfl, h'⟩
theorem str_size {y : ByteArray} {R : List UInt8} (h : cStr.enc y = R) (hl : R.length ≤ 68719476736) : y.size ≤ 281474976710656 := by
  subst h
  have he : (cStr.enc y).length = (num (y.data.toList.length : Int)).length + y.data.toList.length := by
    show (num (y.data.toList.length : Int) ++ y.data.toList).length = _
    rw [List.length_append]
  have hs : y.size = y.data.toList.length := by simp
  omega
/-- A row of numbers at block q. -/
def RowAt (W : World) (q : Nat) (l : List Int) : Prop := ∀ i y, l[i]? = some y → W.cell? ⟨q, i, none⟩ = some (.int .i64 y)
theorem rowB {W : World} {q : Nat} {l : List Int} {cs : Array Value} (hcs : cs = (l.map (Value.int .i64)).toArray) (hq : q = W.heap.size) : RowAt (W.alloc (.cells cs 3)) q l := by
  intro i y h
  subst hcs hq
  rw [blk_cell (blk_new W _) i]
  simp [h]
theorem row_alloc {W : World} {q : Nat} {l : List Int} {o : Obj} (h : RowAt W q l) : RowAt (W.alloc o) q l := fun i y hy => by
  have h1 := h i y hy
  rw [World.cell?_alloc_lt _ _ _ (World.block_lt_of_cell? W _ h1)]
  exact h1
theorem row_drew {W : World} {q : Nat} {l : List Int} (h : RowAt W q l) : RowAt W.drew q l := h
theorem row_below {W W' : World} {q : Nat} {l : List Int} (h : Below W.heap.size W W') (k : RowAt W q l) : RowAt W' q l := fun i y hy => (h.cell (World.block_lt_of_cell? W _ (k i y hy))).trans (k i y hy)
theorem bel_alloc {wb W : World} {o : Obj} (h : Below wb.heap.size wb W) : Below wb.heap.size wb (W.alloc o) := h.alloc h.size o
theorem bel_drew {wb W : World} (h : Below wb.heap.size wb W) : Below wb.heap.size wb W.drew := h.drew
theorem nums_at (l : List Int) (Q : List UInt8) (hQ : l.flatMap num = Q) (m : Nat) (hm : l.length = m) (q c : Nat) (w : World) (hl : m ≤ 1000) (hf : ∀ n ∈ l, Fits n) (hc : RowAt w q l) :
    Calls Try.prog 29 #[.slice (some ⟨q, 0, none⟩) m c] w fun e w' => e = .returned (.string (mkb Q)) ∧ Below w.heap.size w w' := nums_ref' l Q hQ m hm q c w hl hf hc
theorem flag_ref' (b : Bool) (R : List UInt8) (h : cFlag.enc b = R) (w : World) : Calls Try.prog 30 #[.bool b] w fun e w' => e = .returned (.string (mkb R)) ∧ Below w.heap.size w w' := h ▸ flag_ref b w
theorem text_ref' (y : ByteArray) (R : List UInt8) (h : cStr.enc y = R) (w : World) (hy : y.size ≤ 281474976710656) : Calls Try.prog 32 #[.string y] w fun e w' => e = .returned (.string (mkb R)) ∧ Below w.heap.size w w' := h ▸ text_ref y w hy
theorem num_ref' (n : Int) (R : List UInt8) (h : num n = R) (w : World) (hn : Fits n) : Calls Try.prog 41 #[.int .i64 n] w fun e w' => e = .returned (.string (mkb R)) ∧ Below w.heap.size w w' := h ▸ num_ref n w hn
/-- A reference's function over a list. -/
def ListRef (f : Nat) (e : Ty) : Prop := ∀ (l : List e.T) (A : Option Addr) (cap : Nat) (ok : Nat → Prop) (w : World), Holds w ok (.list e) l [.slice A l.length cap] → (Ty.list e).cod.ok l → ((Ty.list e).cod.enc l).length ≤ 68719476736 →
  Calls Try.prog f #[.slice A l.length cap] w fun e_ w' => e_ = .returned (.string (mkb ((Ty.list e).cod.enc l))) ∧ Below w.heap.size w w'
theorem list_ref' {f : Nat} {e : Ty} (hf : ListRef f e) (l : List e.T) (A : Option Addr) (cap : Nat) (ok : Nat → Prop) (R : List UInt8) (h : (Ty.list e).cod.enc l = R) (w : World) (hH : Holds w ok (.list e) l [.slice A l.length cap]) (hok : (Ty.list e).cod.ok l) (hlen : ((Ty.list e).cod.enc l).length ≤ 68719476736) :
    Calls Try.prog f #[.slice A l.length cap] w fun e_ w' => e_ = .returned (.string (mkb R)) ∧ Below w.heap.size w w' := by
  subst h
  exact hf l A cap ok w hH hok hlen
theorem below_then' {w wb w' : World} (h : Below w.heap.size w wb) (k : Below wb.heap.size wb w') : Below w.heap.size w w' := below_step h k
theorem entries_all : ListRef 31 tEntry := fun l A cap ok w hH hok hlen => entries_ref l A cap ok w hH hok hlen
end Go.Proofs.Ytlcgkcmicklihaa.Wire
