/- PutCommand and GetCommand. -/
import Derived.Test.YtlcgkcmicklihaaIG
import Derived.Test.YtlcgkcmicklihaaIB
import Derived.Test.YtlcgkcmicklihaaIE
import Derived.Test.YtlcgkcmicklihaaPut
import Derived.Test.YtlcgkcmicklihaaWide
namespace Go.Proofs.Ytlcgkcmicklihaa.Wire
set_option linter.unusedVariables false
set_option linter.unusedSimpArgs false
open Go.RowKit Go.Proofs.YtlcgkcmicklihaaW.PrintWords Go.Proofs.YtlcgkcmicklihaaW.PrintLast Go.Proofs.YtlcgkcmicklihaaW.PrintMore
def tCommand : Ty := (.pair (ints 0) (.pair tTid (.pair tTid (.pair (ints 0) (.pair (.list tReading) (.pair (.list tWrite) (.pair (ints 4) (.pair tDdl (.pair (ints 1) (.pair (reps .str 0) .int))))))))))
set_option maxRecDepth 100000 in
set_option maxHeartbeats 4000000 in
theorem codes_command : Codes 44 tCommand := by
  intro g b T o pre post s c ok x w h ho
  have L0 := Lib.hid (Left.start h ho)
  clear h ho
  go_enter Try.func44, Try.ntmps44
  go_wp2_with fail
  refine (Left.nums (n := 0) (o := o) L0.out below1 (ptrs1 rfl) (by decide) rfl).mono ?_
  rintro e w1 ⟨rfl, l1⟩
  have L1 : Hid (Left _ g b T (o + 1) post (.pair tTid (.pair tTid (.pair (ints 0) (.pair (.list tReading) (.pair (.list tWrite) (.pair (ints 4) (.pair tDdl (.pair (ints 1) (.pair (reps .str 0) .int))))))))) w1) := Lib.hid l1
  clear l1
  go_wp2_with fail
  refine (Left.codes (o := o + 1) codes_tid L1.out (Below.refl _ _)).mono ?_
  rintro e w2 ⟨rfl, l2⟩
  have L2 : Hid (Left _ g b T (o + 4) post (.pair tTid (.pair (ints 0) (.pair (.list tReading) (.pair (.list tWrite) (.pair (ints 4) (.pair tDdl (.pair (ints 1) (.pair (reps .str 0) .int)))))))) w2) := Lib.hid l2
  clear l2
  go_wp2_with fail
  refine (Left.codes (o := o + 4) codes_tid L2.out (Below.refl _ _)).mono ?_
  rintro e w3 ⟨rfl, l3⟩
  have L3 : Hid (Left _ g b T (o + 7) post (.pair (ints 0) (.pair (.list tReading) (.pair (.list tWrite) (.pair (ints 4) (.pair tDdl (.pair (ints 1) (.pair (reps .str 0) .int))))))) w3) := Lib.hid l3
  clear l3
  go_wp2_with fail
  refine (Left.nums (n := 0) (o := o + 7) L3.out below1 (ptrs1 rfl) (by decide) rfl).mono ?_
  rintro e w4 ⟨rfl, l4⟩
  have L4 : Hid (Left _ g b T (o + 8) post (.pair (.list tReading) (.pair (.list tWrite) (.pair (ints 4) (.pair tDdl (.pair (ints 1) (.pair (reps .str 0) .int)))))) w4) := Lib.hid l4
  clear l4
  go_wp2_with fail
  refine (Left.codesF (o := o + 8) items_reading L4.out (Below.refl _ _)).mono ?_
  rintro e w5 ⟨rfl, l5⟩
  have L5 : Hid (Left _ g b T (o + 9) post (.pair (.list tWrite) (.pair (ints 4) (.pair tDdl (.pair (ints 1) (.pair (reps .str 0) .int))))) w5) := Lib.hid l5
  clear l5
  go_wp2_with fail
  refine (Left.codesF (o := o + 9) items_write L5.out (Below.refl _ _)).mono ?_
  rintro e w6 ⟨rfl, l6⟩
  have L6 : Hid (Left _ g b T (o + 10) post (.pair (ints 4) (.pair tDdl (.pair (ints 1) (.pair (reps .str 0) .int)))) w6) := Lib.hid l6
  clear l6
  go_wp2_with fail
  go_region_with (go_at_call 53; refine (Left.nums (n := 4) (o := o + 10) L6.out below2 (ptrs2 rfl) (by decide) rfl).mono ?_; rintro e w7 ⟨rfl, l7⟩)
  have L7 : Hid (Left _ g b T (o + 15) post (.pair tDdl (.pair (ints 1) (.pair (reps .str 0) .int))) w7) := Lib.hid l7
  clear l7
  go_wp2_with fail
  refine (Left.codes (o := o + 15) codes_ddl L7.out (Below.refl _ _)).mono ?_
  rintro e w8 ⟨rfl, l8⟩
  have L8 : Hid (Left _ g b T (o + 26) post (.pair (ints 1) (.pair (reps .str 0) .int)) w8) := Lib.hid l8
  clear l8
  go_wp2_with fail
  go_region_with (go_at_call 53; refine (Left.nums (n := 1) (o := o + 26) L8.out below2 (ptrs2 rfl) (by decide) rfl).mono ?_; rintro e w9 ⟨rfl, l9⟩)
  have L9 : Hid (Left _ g b T (o + 28) post (.pair (reps .str 0) .int) w9) := Lib.hid l9
  clear l9
  go_wp2_with fail
  refine (Left.texts (n := 0) (o := o + 28) L9.out below1 (ptrs1 rfl) (by decide) rfl).mono ?_
  rintro e w10 ⟨rfl, l10⟩
  have L10 : Hid (Left _ g b T (o + 29) post .int w10) := Lib.hid l10
  clear l10
  go_wp2_with fail
  refine (Left.codes_last (o := o + 29) codes_why L10.out (Below.refl _ _)).mono ?_
  rintro e w11 ⟨rfl, l11⟩
  have L11 := Lib.hid l11
  clear l11
  go_wp2_with fail
  go_end0
  exact ⟨rfl, L11.out⟩
end Go.Proofs.Ytlcgkcmicklihaa.Wire
namespace Go.Proofs.Ytlcgkcmicklihaa.Wire
set_option linter.unusedVariables false
set_option linter.unusedSimpArgs false
open Go.RowKit Go.Proofs.YtlcgkcmicklihaaW.PrintWords Go.Proofs.YtlcgkcmicklihaaW.PrintLast Go.Proofs.YtlcgkcmicklihaaW.PrintMore
set_option maxRecDepth 100000 in
set_option maxHeartbeats 4000000 in
theorem put_command (x : tCommand.T) (cs : List Value) (ok : Nat → Prop) (w : World) (hH : Holds w ok tCommand x cs) (hok : tCommand.cod.ok x) (hlen : (tCommand.cod.enc x).length ≤ 68719476736) :
    Calls Try.prog 43 #[.agg cs.toArray, .func (.func 44) #[] #[]] w fun e w' => e = .returned (.string (mkb (tCommand.cod.enc x))) ∧ Below w.heap.size w w' := by
  have HH := Lib.hid hH
  have HOK := Lib.hid hok
  have HL := Lib.hid hlen
  clear hH hok hlen
  go_enter Try.func43, Try.ntmps43
  go_wp2_with fail
  refine (codes_command (Pre.put HH.out HOK.out HL.out) rfl).mono ?_
  rintro e w1 ⟨rfl, c', hd⟩
  obtain ⟨hb, A, n, c, h0, hcv⟩ := hd.put
  have HB := Lib.hid hb
  clear hd hb
  go_wp2_with fail
  go_ret
  exact ⟨rfl, HB.out⟩
set_option maxRecDepth 100000 in
set_option maxHeartbeats 8000000 in
theorem get_command (s : ByteArray) (w : World) (hs : s.size ≤ 68719476736) :
    Calls Try.prog 45 #[.string s, .func (.func 44) #[] #[]] w (GetPost tCommand s w) := by
  obtain ⟨cp, W2, hcv, hsz, hbel, hcp, hct, hcl⟩ := conv_get (w.alloc (.cells #[.int .i64 0, .int .i64 0, .int .i64 0, .int .i64 0, .int .i64 0, .int .i64 0, .int .i64 0, .int .i64 0, .slice none 0 0, .slice none 0 0, .int .i64 0, .int .i64 0, .int .i64 0, .int .i64 0, .int .i64 0, .int .i64 0, .string ⟨#[]⟩, .string ⟨#[]⟩, .string ⟨#[]⟩, .string ⟨#[]⟩, .bool false, .int .i64 0, .int .i64 0, .int .i64 0, .string ⟨#[]⟩, .slice none 0 0, .int .i64 0, .int .i64 0, .string ⟨#[]⟩, .int .i64 0] 64)) s hs
  have hN : (w.alloc (.cells #[.int .i64 0, .int .i64 0, .int .i64 0, .int .i64 0, .int .i64 0, .int .i64 0, .int .i64 0, .int .i64 0, .slice none 0 0, .slice none 0 0, .int .i64 0, .int .i64 0, .int .i64 0, .int .i64 0, .int .i64 0, .int .i64 0, .string ⟨#[]⟩, .string ⟨#[]⟩, .string ⟨#[]⟩, .string ⟨#[]⟩, .bool false, .int .i64 0, .int .i64 0, .int .i64 0, .string ⟨#[]⟩, .slice none 0 0, .int .i64 0, .int .i64 0, .string ⟨#[]⟩, .int .i64 0] 64)).heap.size = w.heap.size + 1 := by simp
  have e0 := blk_new w (.cells #[.int .i64 0, .int .i64 0, .int .i64 0, .int .i64 0, .int .i64 0, .int .i64 0, .int .i64 0, .int .i64 0, .slice none 0 0, .slice none 0 0, .int .i64 0, .int .i64 0, .int .i64 0, .int .i64 0, .int .i64 0, .int .i64 0, .string ⟨#[]⟩, .string ⟨#[]⟩, .string ⟨#[]⟩, .string ⟨#[]⟩, .bool false, .int .i64 0, .int .i64 0, .int .i64 0, .string ⟨#[]⟩, .slice none 0 0, .int .i64 0, .int .i64 0, .string ⟨#[]⟩, .int .i64 0] 64)
  have hb0 : Below w.heap.size w (w.alloc (.cells #[.int .i64 0, .int .i64 0, .int .i64 0, .int .i64 0, .int .i64 0, .int .i64 0, .int .i64 0, .int .i64 0, .slice none 0 0, .slice none 0 0, .int .i64 0, .int .i64 0, .int .i64 0, .int .i64 0, .int .i64 0, .int .i64 0, .string ⟨#[]⟩, .string ⟨#[]⟩, .string ⟨#[]⟩, .string ⟨#[]⟩, .bool false, .int .i64 0, .int .i64 0, .int .i64 0, .string ⟨#[]⟩, .slice none 0 0, .int .i64 0, .int .i64 0, .string ⟨#[]⟩, .int .i64 0] 64)) := (Below.refl _ _).alloc (Nat.le_refl _) _
  rw [hN] at hsz hcv hbel
  have e1 := (hbel.block w.heap.size (by omega)).trans e0
  have hb1 := hb0.trans (hbel.mono (by omega))
  have hPre := Pre.get (t := tCommand) (T := 64) (W2 := W2) (cp := cp) (r := w.heap.size + 1) hs (by omega) hcp hct (by rw [← hN]; exact hcl)
  have HP := Lib.hid hPre
  have HB1 := Lib.hid hb1
  have HE1 := Lib.hid e1
  have HS := Lib.hid hsz
  clear hPre hbel hsz hN hcp hct hcl e0 hb0 e1 hb1
  go_enter Try.func45, Try.ntmps45
  go_wp2_with fail
  clear hcv
  refine (codes_command HP.out rfl).mono ?_
  rintro e w1 ⟨rfl, c', hd⟩
  obtain ⟨bs, bad, hst, hbel2, ⟨r', off, cap, hR⟩, seg, hH, hB, hz⟩ := hd.get rfl (by have := HS.out; omega)
  have g0 := hR.c0
  have g2 := hR.c2
  have hl := hH.len
  have h1 := hH.one
  have hw1 : W2.heap.size + 2 < w1.heap.size := blk_lt hz
  have hres := (hbel2.block w.heap.size (by omega)).trans HE1.out
  have hbw := HB1.out.trans (hbel2.mono (by omega))
  obtain ⟨u0, u1, u2, u3, u4, u5, u6, u7, u8, u9, u10, u11, u12, u13, u14, u15, u16, u17, u18, u19, u20, u21, u22, u23, u24, u25, u26, u27, u28, u29, rfl⟩ : ∃ u0 u1 u2 u3 u4 u5 u6 u7 u8 u9 u10 u11 u12 u13 u14 u15 u16 u17 u18 u19 u20 u21 u22 u23 u24 u25 u26 u27 u28 u29, seg = [u0, u1, u2, u3, u4, u5, u6, u7, u8, u9, u10, u11, u12, u13, u14, u15, u16, u17, u18, u19, u20, u21, u22, u23, u24, u25, u26, u27, u28, u29] := by
    match seg, hl with
    | [u0, u1, u2, u3, u4, u5, u6, u7, u8, u9, u10, u11, u12, u13, u14, u15, u16, u17, u18, u19, u20, u21, u22, u23, u24, u25, u26, u27, u28, u29], _ => exact ⟨u0, u1, u2, u3, u4, u5, u6, u7, u8, u9, u10, u11, u12, u13, u14, u15, u16, u17, u18, u19, u20, u21, u22, u23, u24, u25, u26, u27, u28, u29, rfl⟩

  have HZw1 : Hid (w1.heap[W2.heap.size + 1 + 1]? = some (.cells #[.int .i64 0, .int .i64 0, .int .i64 0, .int .i64 0, .int .i64 0, .int .i64 0, .int .i64 0, .int .i64 0, .slice none 0 0, .slice none 0 0, .int .i64 0, .int .i64 0, .int .i64 0, .int .i64 0, .int .i64 0, .int .i64 0, .string ⟨#[]⟩, .string ⟨#[]⟩, .string ⟨#[]⟩, .string ⟨#[]⟩, .bool false, .int .i64 0, .int .i64 0, .int .i64 0, .string ⟨#[]⟩, .slice none 0 0, .int .i64 0, .int .i64 0, .string ⟨#[]⟩, .int .i64 0] 64 (0, 0))) := Lib.hid hz
  have HKw1 : Hid (w1.heap[W2.heap.size + 1]? = some (.cells #[u0, u1, u2, u3, u4, u5, u6, u7, u8, u9, u10, u11, u12, u13, u14, u15, u16, u17, u18, u19, u20, u21, u22, u23, u24, u25, u26, u27, u28, u29] 64 (0, 0))) := Lib.hid hB
  have HW1 := Lib.hid hw1
  have HH := Lib.hid hH
  have HB2 := Lib.hid hbw
  have HST := Lib.hid hst
  have H1A : Hid ((#[u0, u1, u2, u3, u4, u5, u6, u7, u8, u9, u10, u11, u12, u13, u14, u15, u16, u17, u18, u19, u20, u21, u22, u23, u24, u25, u26, u27, u28, u29] : Array Value).all (·.oneCell') = true) := Lib.hid (all_one h1)
  have HRw1 := Lib.hid hres
  simp only [] at g0 g2
  clear hd hR hl h1 hH hB hz hbel2 hst hres hbw hw1
  by_cases hbad : bad = true ∨ bs ≠ []
  · have hn : get tCommand.cod s.data.toList = none := get_none (by rw [HST.out]; exact hbad)
    have HN := Lib.hid hn
    clear hn
    cases bad
    · obtain ⟨b0, bl, rfl⟩ : ∃ b0 bl, bs = b0 :: bl := by
        cases bs with
        | nil => exact absurd hbad (by simp)
        | cons b0 bl => exact ⟨b0, bl, rfl⟩
      have dl : decide ((0 : Int) < (bl.length : Int) + 1) = true := decide_eq_true (by omega)
      simp only [List.length_cons] at g0
      clear hbad
      go_wp2_with (first | ((with_reducible refine gate_load (t := 64) (p := .tmp 8) rfl ?_); refine wpList_load_whole (t := 64) rfl (.tmp 8) rfl (by rfl) Try.underlying64 (by kernel_rfl) HZw1.out ?_) | ((with_reducible refine gate_store (t := 64) (p := .tmp 4) (x := .tmp 35) rfl ?_); refine wpList_store_whole (t := 64) rfl (.tmp 4) (.tmp 35) rfl (g := w.heap.size) (c := #[.int .i64 0, .int .i64 0, .int .i64 0, .int .i64 0, .int .i64 0, .int .i64 0, .int .i64 0, .int .i64 0, .slice none 0 0, .slice none 0 0, .int .i64 0, .int .i64 0, .int .i64 0, .int .i64 0, .int .i64 0, .int .i64 0, .string ⟨#[]⟩, .string ⟨#[]⟩, .string ⟨#[]⟩, .string ⟨#[]⟩, .bool false, .int .i64 0, .int .i64 0, .int .i64 0, .string ⟨#[]⟩, .slice none 0 0, .int .i64 0, .int .i64 0, .string ⟨#[]⟩, .int .i64 0]) #[.int .i64 0, .int .i64 0, .int .i64 0, .int .i64 0, .int .i64 0, .int .i64 0, .int .i64 0, .int .i64 0, .slice none 0 0, .slice none 0 0, .int .i64 0, .int .i64 0, .int .i64 0, .int .i64 0, .int .i64 0, .int .i64 0, .string ⟨#[]⟩, .string ⟨#[]⟩, .string ⟨#[]⟩, .string ⟨#[]⟩, .bool false, .int .i64 0, .int .i64 0, .int .i64 0, .string ⟨#[]⟩, .slice none 0 0, .int .i64 0, .int .i64 0, .string ⟨#[]⟩, .int .i64 0] (by rfl) (by rfl) (by kernel_rfl) rfl (by kernel_rfl) HRw1.out ?_; intro w9 hk9 hf9; skip; have HK9 := Lib.hid hk9; have HF9 := Lib.hid hf9; clear hk9 hf9))
      refine bodyPost_ret (v := .tuple #[.agg #[.int .i64 0, .int .i64 0, .int .i64 0, .int .i64 0, .int .i64 0, .int .i64 0, .int .i64 0, .int .i64 0, .slice none 0 0, .slice none 0 0, .int .i64 0, .int .i64 0, .int .i64 0, .int .i64 0, .int .i64 0, .int .i64 0, .string ⟨#[]⟩, .string ⟨#[]⟩, .string ⟨#[]⟩, .string ⟨#[]⟩, .bool false, .int .i64 0, .int .i64 0, .int .i64 0, .string ⟨#[]⟩, .slice none 0 0, .int .i64 0, .int .i64 0, .string ⟨#[]⟩, .int .i64 0], .int .i64 100]) (results_cell_tmp (t := 64) (cs := #[.int .i64 0, .int .i64 0, .int .i64 0, .int .i64 0, .int .i64 0, .int .i64 0, .int .i64 0, .int .i64 0, .slice none 0 0, .slice none 0 0, .int .i64 0, .int .i64 0, .int .i64 0, .int .i64 0, .int .i64 0, .int .i64 0, .string ⟨#[]⟩, .string ⟨#[]⟩, .string ⟨#[]⟩, .string ⟨#[]⟩, .bool false, .int .i64 0, .int .i64 0, .int .i64 0, .string ⟨#[]⟩, .slice none 0 0, .int .i64 0, .int .i64 0, .string ⟨#[]⟩, .int .i64 0]) Try.results45 _ _ w.heap.size _ (by rfl) HK9.out Try.underlying64 rfl (by kernel_rfl) (by rfl)) rfl ?_
      exact ⟨below_fr HB2.out HF9.out, .inr ⟨HN.out, rfl⟩⟩
    · clear hbad
      go_wp2_with (first | ((with_reducible refine gate_load (t := 64) (p := .tmp 8) rfl ?_); refine wpList_load_whole (t := 64) rfl (.tmp 8) rfl (by rfl) Try.underlying64 (by kernel_rfl) HZw1.out ?_) | ((with_reducible refine gate_store (t := 64) (p := .tmp 4) (x := .tmp 35) rfl ?_); refine wpList_store_whole (t := 64) rfl (.tmp 4) (.tmp 35) rfl (g := w.heap.size) (c := #[.int .i64 0, .int .i64 0, .int .i64 0, .int .i64 0, .int .i64 0, .int .i64 0, .int .i64 0, .int .i64 0, .slice none 0 0, .slice none 0 0, .int .i64 0, .int .i64 0, .int .i64 0, .int .i64 0, .int .i64 0, .int .i64 0, .string ⟨#[]⟩, .string ⟨#[]⟩, .string ⟨#[]⟩, .string ⟨#[]⟩, .bool false, .int .i64 0, .int .i64 0, .int .i64 0, .string ⟨#[]⟩, .slice none 0 0, .int .i64 0, .int .i64 0, .string ⟨#[]⟩, .int .i64 0]) #[.int .i64 0, .int .i64 0, .int .i64 0, .int .i64 0, .int .i64 0, .int .i64 0, .int .i64 0, .int .i64 0, .slice none 0 0, .slice none 0 0, .int .i64 0, .int .i64 0, .int .i64 0, .int .i64 0, .int .i64 0, .int .i64 0, .string ⟨#[]⟩, .string ⟨#[]⟩, .string ⟨#[]⟩, .string ⟨#[]⟩, .bool false, .int .i64 0, .int .i64 0, .int .i64 0, .string ⟨#[]⟩, .slice none 0 0, .int .i64 0, .int .i64 0, .string ⟨#[]⟩, .int .i64 0] (by rfl) (by rfl) (by kernel_rfl) rfl (by kernel_rfl) HRw1.out ?_; intro w9 hk9 hf9; skip; have HK9 := Lib.hid hk9; have HF9 := Lib.hid hf9; clear hk9 hf9))
      refine bodyPost_ret (v := .tuple #[.agg #[.int .i64 0, .int .i64 0, .int .i64 0, .int .i64 0, .int .i64 0, .int .i64 0, .int .i64 0, .int .i64 0, .slice none 0 0, .slice none 0 0, .int .i64 0, .int .i64 0, .int .i64 0, .int .i64 0, .int .i64 0, .int .i64 0, .string ⟨#[]⟩, .string ⟨#[]⟩, .string ⟨#[]⟩, .string ⟨#[]⟩, .bool false, .int .i64 0, .int .i64 0, .int .i64 0, .string ⟨#[]⟩, .slice none 0 0, .int .i64 0, .int .i64 0, .string ⟨#[]⟩, .int .i64 0], .int .i64 100]) (results_cell_tmp (t := 64) (cs := #[.int .i64 0, .int .i64 0, .int .i64 0, .int .i64 0, .int .i64 0, .int .i64 0, .int .i64 0, .int .i64 0, .slice none 0 0, .slice none 0 0, .int .i64 0, .int .i64 0, .int .i64 0, .int .i64 0, .int .i64 0, .int .i64 0, .string ⟨#[]⟩, .string ⟨#[]⟩, .string ⟨#[]⟩, .string ⟨#[]⟩, .bool false, .int .i64 0, .int .i64 0, .int .i64 0, .string ⟨#[]⟩, .slice none 0 0, .int .i64 0, .int .i64 0, .string ⟨#[]⟩, .int .i64 0]) Try.results45 _ _ w.heap.size _ (by rfl) HK9.out Try.underlying64 rfl (by kernel_rfl) (by rfl)) rfl ?_
      exact ⟨below_fr HB2.out HF9.out, .inr ⟨HN.out, rfl⟩⟩
  · simp only [not_or, Bool.not_eq_true, Classical.not_not] at hbad
    obtain ⟨rfl, rfl⟩ := hbad
    have hsh := tCommand.short ⟨s.data.toList, false⟩ (by rw [HST.out])
    rw [HST.out] at hsh
    have hel : (tCommand.cod.enc (tCommand.cod.dec ⟨s.data.toList, false⟩).1).length ≤ 68719476736 := by
      have h2 := hsh.1
      have h3 : s.data.toList.length = s.size := by simp
      simp only [] at h2
      omega
    have h3 : s.data.toList.length = s.size := by simp
    have hso := tCommand.cod.sound ⟨s.data.toList, false⟩ (by show s.data.toList.length ≤ top; rw [h3]; exact Nat.le_trans hs (by decide))
    clear h3
    have HEL := Lib.hid hel
    have HSO := Lib.hid hso
    clear hsh hel hso
    by_cases henc : tCommand.cod.enc (tCommand.cod.dec ⟨s.data.toList, false⟩).1 = s.data.toList
    · have HG := Lib.hid (get_same HST.out henc)
      have hms : mkb (tCommand.cod.enc (tCommand.cod.dec ⟨s.data.toList, false⟩).1) = s := by rw [henc, mkb_self]
      have HMS := Lib.hid hms
      clear henc hms
      go_wp2_with ((with_reducible refine gate_load (t := 64) (p := .tmp 7) rfl ?_); refine wpList_load_wholeG (t := 64) (by rfl) (.tmp 7) rfl (by rfl) Try.underlying64 (by kernel_rfl) HKw1.out ?_)
      refine (put_command _ [u0, u1, u2, u3, u4, u5, u6, u7, u8, u9, u10, u11, u12, u13, u14, u15, u16, u17, u18, u19, u20, u21, u22, u23, u24, u25, u26, u27, u28, u29] _ _ HH.out HSO.out HEL.out).mono ?_
      rintro e w3 ⟨rfl, hb3⟩
      rw [HMS.out]
      have HB3 := Lib.hid hb3
      have HKw3 := Lib.hid ((hb3.block (W2.heap.size + 1) (by have := HW1.out; omega)).trans HKw1.out)
      have HRw3 := Lib.hid ((hb3.block w.heap.size (by have := HS.out; have := HW1.out; omega)).trans HRw1.out)
      clear hb3
      go_wp2_with (first | ((with_reducible refine gate_load (t := 64) (p := .tmp 7) rfl ?_); refine wpList_load_whole (t := 64) rfl (.tmp 7) rfl (by rfl) Try.underlying64 (by kernel_rfl) HKw3.out ?_) | ((with_reducible refine gate_store (t := 64) (p := .tmp 4) (x := .tmp 36) rfl ?_); refine wpList_store_whole (t := 64) rfl (.tmp 4) (.tmp 36) rfl (g := w.heap.size) (c := #[.int .i64 0, .int .i64 0, .int .i64 0, .int .i64 0, .int .i64 0, .int .i64 0, .int .i64 0, .int .i64 0, .slice none 0 0, .slice none 0 0, .int .i64 0, .int .i64 0, .int .i64 0, .int .i64 0, .int .i64 0, .int .i64 0, .string ⟨#[]⟩, .string ⟨#[]⟩, .string ⟨#[]⟩, .string ⟨#[]⟩, .bool false, .int .i64 0, .int .i64 0, .int .i64 0, .string ⟨#[]⟩, .slice none 0 0, .int .i64 0, .int .i64 0, .string ⟨#[]⟩, .int .i64 0]) #[u0, u1, u2, u3, u4, u5, u6, u7, u8, u9, u10, u11, u12, u13, u14, u15, u16, u17, u18, u19, u20, u21, u22, u23, u24, u25, u26, u27, u28, u29] (by rfl) (by rfl) (by kernel_rfl) rfl H1A.out HRw3.out ?_; intro w9 hk9 hf9; skip; have HK9 := Lib.hid hk9; have HF9 := Lib.hid hf9; clear hk9 hf9))
      refine bodyPost_ret (v := .tuple #[.agg #[u0, u1, u2, u3, u4, u5, u6, u7, u8, u9, u10, u11, u12, u13, u14, u15, u16, u17, u18, u19, u20, u21, u22, u23, u24, u25, u26, u27, u28, u29], .int .i64 0]) (results_cell_tmp (t := 64) (cs := #[u0, u1, u2, u3, u4, u5, u6, u7, u8, u9, u10, u11, u12, u13, u14, u15, u16, u17, u18, u19, u20, u21, u22, u23, u24, u25, u26, u27, u28, u29]) Try.results45 _ _ w.heap.size _ (by rfl) HK9.out Try.underlying64 rfl (by kernel_rfl) (by rfl)) rfl ?_
      exact ⟨below_fr (below_then HB2.out (by have := HS.out; have := HW1.out; omega) HB3.out) HF9.out, .inl ⟨_, [u0, u1, u2, u3, u4, u5, u6, u7, u8, u9, u10, u11, u12, u13, u14, u15, u16, u17, u18, u19, u20, u21, u22, u23, u24, u25, u26, u27, u28, u29], HG.out, rfl, ((HH.out.below HB3.out).fr HF9.out (fun k hk he => by have := HS.out; omega)).mono (fun k hk => by have := HS.out; omega)⟩⟩
    · have HG := Lib.hid (get_other HST.out henc)
      have hms : ¬ mkb (tCommand.cod.enc (tCommand.cod.dec ⟨s.data.toList, false⟩).1) = s := mkb_ne henc
      obtain ⟨other, hot⟩ : ∃ o, mkb (tCommand.cod.enc (tCommand.cod.dec ⟨s.data.toList, false⟩).1) = o := ⟨_, rfl⟩
      rw [hot] at hms
      have hq1 := str_ne hms
      have HOT := Lib.hid hot
      clear henc hot
      go_wp2_with ((with_reducible refine gate_load (t := 64) (p := .tmp 7) rfl ?_); refine wpList_load_wholeG (t := 64) (by rfl) (.tmp 7) rfl (by rfl) Try.underlying64 (by kernel_rfl) HKw1.out ?_)
      refine (put_command _ [u0, u1, u2, u3, u4, u5, u6, u7, u8, u9, u10, u11, u12, u13, u14, u15, u16, u17, u18, u19, u20, u21, u22, u23, u24, u25, u26, u27, u28, u29] _ _ HH.out HSO.out HEL.out).mono ?_
      rintro e w3 ⟨rfl, hb3⟩
      rw [HOT.out]
      have HB3 := Lib.hid hb3
      have HZw3 := Lib.hid ((hb3.block (W2.heap.size + 1 + 1) (by have := HW1.out; omega)).trans HZw1.out)
      have HRw3 := Lib.hid ((hb3.block w.heap.size (by have := HS.out; have := HW1.out; omega)).trans HRw1.out)
      clear hb3
      go_wp2_with (first | ((with_reducible refine gate_load (t := 64) (p := .tmp 8) rfl ?_); refine wpList_load_whole (t := 64) rfl (.tmp 8) rfl (by rfl) Try.underlying64 (by kernel_rfl) HZw3.out ?_) | ((with_reducible refine gate_store (t := 64) (p := .tmp 4) (x := .tmp 35) rfl ?_); refine wpList_store_whole (t := 64) rfl (.tmp 4) (.tmp 35) rfl (g := w.heap.size) (c := #[.int .i64 0, .int .i64 0, .int .i64 0, .int .i64 0, .int .i64 0, .int .i64 0, .int .i64 0, .int .i64 0, .slice none 0 0, .slice none 0 0, .int .i64 0, .int .i64 0, .int .i64 0, .int .i64 0, .int .i64 0, .int .i64 0, .string ⟨#[]⟩, .string ⟨#[]⟩, .string ⟨#[]⟩, .string ⟨#[]⟩, .bool false, .int .i64 0, .int .i64 0, .int .i64 0, .string ⟨#[]⟩, .slice none 0 0, .int .i64 0, .int .i64 0, .string ⟨#[]⟩, .int .i64 0]) #[.int .i64 0, .int .i64 0, .int .i64 0, .int .i64 0, .int .i64 0, .int .i64 0, .int .i64 0, .int .i64 0, .slice none 0 0, .slice none 0 0, .int .i64 0, .int .i64 0, .int .i64 0, .int .i64 0, .int .i64 0, .int .i64 0, .string ⟨#[]⟩, .string ⟨#[]⟩, .string ⟨#[]⟩, .string ⟨#[]⟩, .bool false, .int .i64 0, .int .i64 0, .int .i64 0, .string ⟨#[]⟩, .slice none 0 0, .int .i64 0, .int .i64 0, .string ⟨#[]⟩, .int .i64 0] (by rfl) (by rfl) (by kernel_rfl) rfl (by kernel_rfl) HRw3.out ?_; intro w9 hk9 hf9; skip; have HK9 := Lib.hid hk9; have HF9 := Lib.hid hf9; clear hk9 hf9))
      refine bodyPost_ret (v := .tuple #[.agg #[.int .i64 0, .int .i64 0, .int .i64 0, .int .i64 0, .int .i64 0, .int .i64 0, .int .i64 0, .int .i64 0, .slice none 0 0, .slice none 0 0, .int .i64 0, .int .i64 0, .int .i64 0, .int .i64 0, .int .i64 0, .int .i64 0, .string ⟨#[]⟩, .string ⟨#[]⟩, .string ⟨#[]⟩, .string ⟨#[]⟩, .bool false, .int .i64 0, .int .i64 0, .int .i64 0, .string ⟨#[]⟩, .slice none 0 0, .int .i64 0, .int .i64 0, .string ⟨#[]⟩, .int .i64 0], .int .i64 100]) (results_cell_tmp (t := 64) (cs := #[.int .i64 0, .int .i64 0, .int .i64 0, .int .i64 0, .int .i64 0, .int .i64 0, .int .i64 0, .int .i64 0, .slice none 0 0, .slice none 0 0, .int .i64 0, .int .i64 0, .int .i64 0, .int .i64 0, .int .i64 0, .int .i64 0, .string ⟨#[]⟩, .string ⟨#[]⟩, .string ⟨#[]⟩, .string ⟨#[]⟩, .bool false, .int .i64 0, .int .i64 0, .int .i64 0, .string ⟨#[]⟩, .slice none 0 0, .int .i64 0, .int .i64 0, .string ⟨#[]⟩, .int .i64 0]) Try.results45 _ _ w.heap.size _ (by rfl) HK9.out Try.underlying64 rfl (by kernel_rfl) (by rfl)) rfl ?_
      exact ⟨below_fr (below_then HB2.out (by have := HS.out; have := HW1.out; omega) HB3.out) HF9.out, .inr ⟨HG.out, rfl⟩⟩
end Go.Proofs.Ytlcgkcmicklihaa.Wire
namespace Go.Proofs.Ytlcgkcmicklihaa.Wire
set_option linter.unusedVariables false
set_option linter.unusedSimpArgs false
open Go.RowKit Go.Proofs.YtlcgkcmicklihaaW.PrintWords Go.Proofs.YtlcgkcmicklihaaW.PrintLast Go.Proofs.YtlcgkcmicklihaaW.PrintMore
set_option maxRecDepth 100000 in
set_option maxHeartbeats 4000000 in
theorem Put_command (x : tCommand.T) (cs : List Value) (ok : Nat → Prop) (w : World) (hH : Holds w ok tCommand x cs) (hok : tCommand.cod.ok x) (hlen : (tCommand.cod.enc x).length ≤ 68719476736) :
    Calls Try.prog 20 #[.agg cs.toArray] w fun e w' => e = .returned (.string (mkb (tCommand.cod.enc x))) ∧ Below w.heap.size w w' := by
  have hb : Below w.heap.size w (w.alloc (.cells cs.toArray 64)) := (Below.refl _ _).alloc (Nat.le_refl _) _
  have HH := Lib.hid (hH.below hb)
  have HB := Lib.hid hb
  have HOK := Lib.hid hok
  have HL := Lib.hid hlen
  have hsz : (Try.prog.info? 64).map (·.size) = some cs.toArray.size := by
    rw [List.size_toArray, hH.len]
    kernel_rfl
  have HSZ := Lib.hid hsz
  have HK := Lib.hid (blk_new w (.cells cs.toArray 64))
  clear hH hok hlen hb hsz
  go_enter Try.func20, Try.ntmps20
  go_wp2_with ((with_reducible refine gate_load (t := 64) (p := .tmp 1) rfl ?_); refine wpList_load_whole (t := 64) rfl (.tmp 1) rfl (by rfl) Try.underlying64 HSZ.out HK.out ?_)
  refine (put_command x cs ok _ HH.out HOK.out HL.out).mono ?_
  rintro e w1 ⟨rfl, hb1⟩
  have HB1 := Lib.hid hb1
  clear hb1
  go_wp2_with fail
  go_ret
  exact ⟨rfl, below_step HB.out HB1.out⟩
set_option maxRecDepth 100000 in
set_option maxHeartbeats 8000000 in
theorem Get_command (s : ByteArray) (w : World) (hs : s.size ≤ 68719476736) :
    Calls Try.prog 21 #[.string s] w (GetPost tCommand s w) := by
  have e0 := blk_new w (.cells #[.int .i64 0, .int .i64 0, .int .i64 0, .int .i64 0, .int .i64 0, .int .i64 0, .int .i64 0, .int .i64 0, .slice none 0 0, .slice none 0 0, .int .i64 0, .int .i64 0, .int .i64 0, .int .i64 0, .int .i64 0, .int .i64 0, .string ⟨#[]⟩, .string ⟨#[]⟩, .string ⟨#[]⟩, .string ⟨#[]⟩, .bool false, .int .i64 0, .int .i64 0, .int .i64 0, .string ⟨#[]⟩, .slice none 0 0, .int .i64 0, .int .i64 0, .string ⟨#[]⟩, .int .i64 0] 64)
  have hb0 : Below w.heap.size w (w.alloc (.cells #[.int .i64 0, .int .i64 0, .int .i64 0, .int .i64 0, .int .i64 0, .int .i64 0, .int .i64 0, .int .i64 0, .slice none 0 0, .slice none 0 0, .int .i64 0, .int .i64 0, .int .i64 0, .int .i64 0, .int .i64 0, .int .i64 0, .string ⟨#[]⟩, .string ⟨#[]⟩, .string ⟨#[]⟩, .string ⟨#[]⟩, .bool false, .int .i64 0, .int .i64 0, .int .i64 0, .string ⟨#[]⟩, .slice none 0 0, .int .i64 0, .int .i64 0, .string ⟨#[]⟩, .int .i64 0] 64)) := (Below.refl _ _).alloc (Nat.le_refl _) _
  have hN : (w.alloc (.cells #[.int .i64 0, .int .i64 0, .int .i64 0, .int .i64 0, .int .i64 0, .int .i64 0, .int .i64 0, .int .i64 0, .slice none 0 0, .slice none 0 0, .int .i64 0, .int .i64 0, .int .i64 0, .int .i64 0, .int .i64 0, .int .i64 0, .string ⟨#[]⟩, .string ⟨#[]⟩, .string ⟨#[]⟩, .string ⟨#[]⟩, .bool false, .int .i64 0, .int .i64 0, .int .i64 0, .string ⟨#[]⟩, .slice none 0 0, .int .i64 0, .int .i64 0, .string ⟨#[]⟩, .int .i64 0] 64)).heap.size = w.heap.size + 1 := by simp
  have HE := Lib.hid e0
  have HB0 := Lib.hid hb0
  have HN := Lib.hid hN
  clear e0 hb0 hN
  go_enter Try.func21, Try.ntmps21
  go_wp2_with fail
  refine (get_command s _ hs).mono ?_
  rintro e w1 ⟨hb1, hr⟩
  have HRw := Lib.hid ((hb1.block w.heap.size (by rw [HN.out]; omega)).trans HE.out)
  have HB1 := Lib.hid (below_step HB0.out hb1)
  clear hb1
  rcases hr with ⟨x, cs, hg, rfl, hH⟩ | ⟨hg, rfl⟩
  · have HG := Lib.hid hg
    have hl := hH.len
    have H1A := Lib.hid (all_one hH.one)
    obtain ⟨u0, u1, u2, u3, u4, u5, u6, u7, u8, u9, u10, u11, u12, u13, u14, u15, u16, u17, u18, u19, u20, u21, u22, u23, u24, u25, u26, u27, u28, u29, rfl⟩ : ∃ u0 u1 u2 u3 u4 u5 u6 u7 u8 u9 u10 u11 u12 u13 u14 u15 u16 u17 u18 u19 u20 u21 u22 u23 u24 u25 u26 u27 u28 u29, cs = [u0, u1, u2, u3, u4, u5, u6, u7, u8, u9, u10, u11, u12, u13, u14, u15, u16, u17, u18, u19, u20, u21, u22, u23, u24, u25, u26, u27, u28, u29] := by
      match cs, hl with
      | [u0, u1, u2, u3, u4, u5, u6, u7, u8, u9, u10, u11, u12, u13, u14, u15, u16, u17, u18, u19, u20, u21, u22, u23, u24, u25, u26, u27, u28, u29], _ => exact ⟨u0, u1, u2, u3, u4, u5, u6, u7, u8, u9, u10, u11, u12, u13, u14, u15, u16, u17, u18, u19, u20, u21, u22, u23, u24, u25, u26, u27, u28, u29, rfl⟩
    have HH := Lib.hid hH
    clear hg hH hl
    go_wp2_with (first | ((with_reducible refine gate_store (t := 64) (p := .tmp 2) (x := .tmp 6) rfl ?_); refine wpList_store_whole (t := 64) rfl (.tmp 2) (.tmp 6) rfl (g := w.heap.size) (c := #[.int .i64 0, .int .i64 0, .int .i64 0, .int .i64 0, .int .i64 0, .int .i64 0, .int .i64 0, .int .i64 0, .slice none 0 0, .slice none 0 0, .int .i64 0, .int .i64 0, .int .i64 0, .int .i64 0, .int .i64 0, .int .i64 0, .string ⟨#[]⟩, .string ⟨#[]⟩, .string ⟨#[]⟩, .string ⟨#[]⟩, .bool false, .int .i64 0, .int .i64 0, .int .i64 0, .string ⟨#[]⟩, .slice none 0 0, .int .i64 0, .int .i64 0, .string ⟨#[]⟩, .int .i64 0]) #[u0, u1, u2, u3, u4, u5, u6, u7, u8, u9, u10, u11, u12, u13, u14, u15, u16, u17, u18, u19, u20, u21, u22, u23, u24, u25, u26, u27, u28, u29] (by rfl) (by rfl) (by kernel_rfl) rfl H1A.out HRw.out ?_; intro w9 hk9 hf9; skip; have HK9 := Lib.hid hk9; have HF9 := Lib.hid hf9; clear hk9 hf9))
    refine bodyPost_ret (v := .tuple #[.agg #[u0, u1, u2, u3, u4, u5, u6, u7, u8, u9, u10, u11, u12, u13, u14, u15, u16, u17, u18, u19, u20, u21, u22, u23, u24, u25, u26, u27, u28, u29], .int .i64 0]) (results_cell_tmp (t := 64) (cs := #[u0, u1, u2, u3, u4, u5, u6, u7, u8, u9, u10, u11, u12, u13, u14, u15, u16, u17, u18, u19, u20, u21, u22, u23, u24, u25, u26, u27, u28, u29]) Try.results21 _ _ w.heap.size _ (by rfl) HK9.out Try.underlying64 rfl (by kernel_rfl) (by rfl)) rfl ?_
    exact ⟨below_fr HB1.out HF9.out, .inl ⟨_, [u0, u1, u2, u3, u4, u5, u6, u7, u8, u9, u10, u11, u12, u13, u14, u15, u16, u17, u18, u19, u20, u21, u22, u23, u24, u25, u26, u27, u28, u29], HG.out, rfl, (HH.out.fr HF9.out (fun k hk he => by have := HN.out; omega)).mono (fun k hk => by have := HN.out; omega)⟩⟩
  · have HG := Lib.hid hg
    clear hg
    have hz : tCommand.zcells.toArray = #[.int .i64 0, .int .i64 0, .int .i64 0, .int .i64 0, .int .i64 0, .int .i64 0, .int .i64 0, .int .i64 0, .slice none 0 0, .slice none 0 0, .int .i64 0, .int .i64 0, .int .i64 0, .int .i64 0, .int .i64 0, .int .i64 0, .string ⟨#[]⟩, .string ⟨#[]⟩, .string ⟨#[]⟩, .string ⟨#[]⟩, .bool false, .int .i64 0, .int .i64 0, .int .i64 0, .string ⟨#[]⟩, .slice none 0 0, .int .i64 0, .int .i64 0, .string ⟨#[]⟩, .int .i64 0] := rfl
    rw [hz]
    clear hz
    go_wp2_with (first | ((with_reducible refine gate_store (t := 64) (p := .tmp 2) (x := .tmp 6) rfl ?_); refine wpList_store_whole (t := 64) rfl (.tmp 2) (.tmp 6) rfl (g := w.heap.size) (c := #[.int .i64 0, .int .i64 0, .int .i64 0, .int .i64 0, .int .i64 0, .int .i64 0, .int .i64 0, .int .i64 0, .slice none 0 0, .slice none 0 0, .int .i64 0, .int .i64 0, .int .i64 0, .int .i64 0, .int .i64 0, .int .i64 0, .string ⟨#[]⟩, .string ⟨#[]⟩, .string ⟨#[]⟩, .string ⟨#[]⟩, .bool false, .int .i64 0, .int .i64 0, .int .i64 0, .string ⟨#[]⟩, .slice none 0 0, .int .i64 0, .int .i64 0, .string ⟨#[]⟩, .int .i64 0]) #[.int .i64 0, .int .i64 0, .int .i64 0, .int .i64 0, .int .i64 0, .int .i64 0, .int .i64 0, .int .i64 0, .slice none 0 0, .slice none 0 0, .int .i64 0, .int .i64 0, .int .i64 0, .int .i64 0, .int .i64 0, .int .i64 0, .string ⟨#[]⟩, .string ⟨#[]⟩, .string ⟨#[]⟩, .string ⟨#[]⟩, .bool false, .int .i64 0, .int .i64 0, .int .i64 0, .string ⟨#[]⟩, .slice none 0 0, .int .i64 0, .int .i64 0, .string ⟨#[]⟩, .int .i64 0] (by rfl) (by rfl) (by kernel_rfl) rfl (by kernel_rfl) HRw.out ?_; intro w9 hk9 hf9; skip; have HK9 := Lib.hid hk9; have HF9 := Lib.hid hf9; clear hk9 hf9))
    refine bodyPost_ret (v := .tuple #[.agg #[.int .i64 0, .int .i64 0, .int .i64 0, .int .i64 0, .int .i64 0, .int .i64 0, .int .i64 0, .int .i64 0, .slice none 0 0, .slice none 0 0, .int .i64 0, .int .i64 0, .int .i64 0, .int .i64 0, .int .i64 0, .int .i64 0, .string ⟨#[]⟩, .string ⟨#[]⟩, .string ⟨#[]⟩, .string ⟨#[]⟩, .bool false, .int .i64 0, .int .i64 0, .int .i64 0, .string ⟨#[]⟩, .slice none 0 0, .int .i64 0, .int .i64 0, .string ⟨#[]⟩, .int .i64 0], .int .i64 100]) (results_cell_tmp (t := 64) (cs := #[.int .i64 0, .int .i64 0, .int .i64 0, .int .i64 0, .int .i64 0, .int .i64 0, .int .i64 0, .int .i64 0, .slice none 0 0, .slice none 0 0, .int .i64 0, .int .i64 0, .int .i64 0, .int .i64 0, .int .i64 0, .int .i64 0, .string ⟨#[]⟩, .string ⟨#[]⟩, .string ⟨#[]⟩, .string ⟨#[]⟩, .bool false, .int .i64 0, .int .i64 0, .int .i64 0, .string ⟨#[]⟩, .slice none 0 0, .int .i64 0, .int .i64 0, .string ⟨#[]⟩, .int .i64 0]) Try.results21 _ _ w.heap.size _ (by rfl) HK9.out Try.underlying64 rfl (by kernel_rfl) (by rfl)) rfl ?_
    exact ⟨below_fr HB1.out HF9.out, .inr ⟨HG.out, rfl⟩⟩
end Go.Proofs.Ytlcgkcmicklihaa.Wire
