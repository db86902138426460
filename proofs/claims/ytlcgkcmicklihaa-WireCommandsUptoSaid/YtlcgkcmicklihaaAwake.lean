/- awake, and the laws over messages. -/
import Derived.Test.YtlcgkcmicklihaaPut
import Derived.Test.YtlcgkcmicklihaaMMsg
import Derived.Test.YtlcgkcmicklihaaRLib
namespace Go.Proofs.Ytlcgkcmicklihaa.Wire
set_option linter.unusedVariables false
set_option linter.unusedSimpArgs false
open Go.RowKit Go.Proofs.YtlcgkcmicklihaaW.PrintWords Go.Proofs.YtlcgkcmicklihaaW.PrintLast Go.Proofs.YtlcgkcmicklihaaW.PrintMore
set_option maxRecDepth 100000 in
set_option maxHeartbeats 4000000 in
theorem put_msg (x : tMsg.T) (cs : List Value) (ok : Nat → Prop) (w : World) (hH : Holds w ok tMsg x cs) (hok : tMsg.cod.ok x) (hlen : (tMsg.cod.enc x).length ≤ 68719476736) :
    Calls Try.prog 26 #[.agg cs.toArray, .func (.func 27) #[] #[]] w fun e w' => e = .returned (.string (mkb (tMsg.cod.enc x))) ∧ Below w.heap.size w w' := by
  have HH := Lib.hid hH
  have HOK := Lib.hid hok
  have HL := Lib.hid hlen
  clear hH hok hlen
  go_enter Try.func26, Try.ntmps26
  go_wp2_with fail
  refine (codes_msg (Pre.put HH.out HOK.out HL.out) rfl).mono ?_
  rintro e w1 ⟨rfl, c', hd⟩
  obtain ⟨hb, A, n, c, h0, hcv⟩ := hd.put
  have HB := Lib.hid hb
  clear hd hb
  go_wp2_with fail
  go_ret
  exact ⟨rfl, HB.out⟩
set_option maxRecDepth 100000 in
set_option maxHeartbeats 8000000 in
theorem get_msg (s : ByteArray) (w : World) (hs : s.size ≤ 68719476736) :
    Calls Try.prog 28 #[.string s, .func (.func 27) #[] #[]] w (GetPost tMsg s w) := by
  obtain ⟨cp, W2, hcv, hsz, hbel, hcp, hct, hcl⟩ := conv_get (w.alloc (.cells #[.int .i64 0, .int .i64 0, .int .i64 0, .int .i64 0, .int .i64 0, .int .i64 0, .int .i64 0, .bool false, .slice none 0 0, .string ⟨#[]⟩] 24)) s hs
  have hN : (w.alloc (.cells #[.int .i64 0, .int .i64 0, .int .i64 0, .int .i64 0, .int .i64 0, .int .i64 0, .int .i64 0, .bool false, .slice none 0 0, .string ⟨#[]⟩] 24)).heap.size = w.heap.size + 1 := by simp
  have e0 := blk_new w (.cells #[.int .i64 0, .int .i64 0, .int .i64 0, .int .i64 0, .int .i64 0, .int .i64 0, .int .i64 0, .bool false, .slice none 0 0, .string ⟨#[]⟩] 24)
  have hb0 : Below w.heap.size w (w.alloc (.cells #[.int .i64 0, .int .i64 0, .int .i64 0, .int .i64 0, .int .i64 0, .int .i64 0, .int .i64 0, .bool false, .slice none 0 0, .string ⟨#[]⟩] 24)) := (Below.refl _ _).alloc (Nat.le_refl _) _
  rw [hN] at hsz hcv hbel
  have e1 := (hbel.block w.heap.size (by omega)).trans e0
  have hb1 := hb0.trans (hbel.mono (by omega))
  have hPre := Pre.get (t := tMsg) (T := 24) (W2 := W2) (cp := cp) (r := w.heap.size + 1) hs (by omega) hcp hct (by rw [← hN]; exact hcl)
  have HP := Lib.hid hPre
  have HB1 := Lib.hid hb1
  have HE1 := Lib.hid e1
  have HS := Lib.hid hsz
  clear hPre hbel hsz hN hcp hct hcl e0 hb0 e1 hb1
  go_enter Try.func28, Try.ntmps28
  go_wp2_with fail
  clear hcv
  refine (codes_msg HP.out rfl).mono ?_
  rintro e w1 ⟨rfl, c', hd⟩
  obtain ⟨bs, bad, hst, hbel2, ⟨r', off, cap, hR⟩, seg, hH, hB, hz⟩ := hd.get rfl (by have := HS.out; omega)
  have g0 := hR.c0
  have g2 := hR.c2
  have hl := hH.len
  have h1 := hH.one
  have hw1 : W2.heap.size + 2 < w1.heap.size := blk_lt hz
  have hres := (hbel2.block w.heap.size (by omega)).trans HE1.out
  have hbw := HB1.out.trans (hbel2.mono (by omega))
  obtain ⟨u0, u1, u2, u3, u4, u5, u6, u7, u8, u9, rfl⟩ : ∃ u0 u1 u2 u3 u4 u5 u6 u7 u8 u9, seg = [u0, u1, u2, u3, u4, u5, u6, u7, u8, u9] := by
    match seg, hl with
    | [u0, u1, u2, u3, u4, u5, u6, u7, u8, u9], _ => exact ⟨u0, u1, u2, u3, u4, u5, u6, u7, u8, u9, rfl⟩
  have x0 : w1.cell? ⟨W2.heap.size + 1, 0, none⟩ = some (u0) := (blk_cell hB 0).trans rfl
  have x1 : w1.cell? ⟨W2.heap.size + 1, 1, none⟩ = some (u1) := (blk_cell hB 1).trans rfl
  have x2 : w1.cell? ⟨W2.heap.size + 1, 2, none⟩ = some (u2) := (blk_cell hB 2).trans rfl
  have x3 : w1.cell? ⟨W2.heap.size + 1, 3, none⟩ = some (u3) := (blk_cell hB 3).trans rfl
  have x4 : w1.cell? ⟨W2.heap.size + 1, 4, none⟩ = some (u4) := (blk_cell hB 4).trans rfl
  have x5 : w1.cell? ⟨W2.heap.size + 1, 5, none⟩ = some (u5) := (blk_cell hB 5).trans rfl
  have x6 : w1.cell? ⟨W2.heap.size + 1, 6, none⟩ = some (u6) := (blk_cell hB 6).trans rfl
  have x7 : w1.cell? ⟨W2.heap.size + 1, 7, none⟩ = some (u7) := (blk_cell hB 7).trans rfl
  have x8 : w1.cell? ⟨W2.heap.size + 1, 8, none⟩ = some (u8) := (blk_cell hB 8).trans rfl
  have x9 : w1.cell? ⟨W2.heap.size + 1, 9, none⟩ = some (u9) := (blk_cell hB 9).trans rfl
  have HZw1 : Hid (w1.heap[W2.heap.size + 1 + 1]? = some (.cells #[.int .i64 0, .int .i64 0, .int .i64 0, .int .i64 0, .int .i64 0, .int .i64 0, .int .i64 0, .bool false, .slice none 0 0, .string ⟨#[]⟩] 24 (0, 0))) := Lib.hid hz
  have HKw1 : Hid (w1.heap[W2.heap.size + 1]? = some (.cells #[u0, u1, u2, u3, u4, u5, u6, u7, u8, u9] 24 (0, 0))) := Lib.hid hB
  have HW1 := Lib.hid hw1
  have HH := Lib.hid hH
  have HB2 := Lib.hid hbw
  have HST := Lib.hid hst
  have H1A : Hid ((#[u0, u1, u2, u3, u4, u5, u6, u7, u8, u9] : Array Value).all (·.oneCell') = true) := Lib.hid (all_one h1)
  have HRw1 := Lib.hid hres
  simp only [] at g0 g2
  clear hd hR hl h1 hH hB hz hbel2 hst hres hbw hw1
  by_cases hbad : bad = true ∨ bs ≠ []
  · have hn : get tMsg.cod s.data.toList = none := get_none (by rw [HST.out]; exact hbad)
    have HN := Lib.hid hn
    clear hn
    cases bad
    · obtain ⟨b0, bl, rfl⟩ : ∃ b0 bl, bs = b0 :: bl := by
        cases bs with
        | nil => exact absurd hbad (by simp)
        | cons b0 bl => exact ⟨b0, bl, rfl⟩
      have dl : decide ((0 : Int) < (bl.length : Int) + 1) = true := decide_eq_true (by omega)
      simp only [List.length_cons] at g0
      clear hbad
      go_wp2_with (first | ((with_reducible refine gate_load (t := 24) (p := .tmp 8) rfl ?_); refine wpList_load_whole (t := 24) rfl (.tmp 8) rfl (by rfl) Try.underlying24 (by kernel_rfl) HZw1.out ?_) | ((with_reducible refine gate_store (t := 24) (p := .tmp 4) (x := .tmp 35) rfl ?_); refine wpList_store_whole (t := 24) rfl (.tmp 4) (.tmp 35) rfl (g := w.heap.size) (c := #[.int .i64 0, .int .i64 0, .int .i64 0, .int .i64 0, .int .i64 0, .int .i64 0, .int .i64 0, .bool false, .slice none 0 0, .string ⟨#[]⟩]) #[.int .i64 0, .int .i64 0, .int .i64 0, .int .i64 0, .int .i64 0, .int .i64 0, .int .i64 0, .bool false, .slice none 0 0, .string ⟨#[]⟩] (by rfl) (by rfl) (by kernel_rfl) rfl (by kernel_rfl) HRw1.out ?_; intro w9 hk9 hf9; have r0 : w9.cell? ⟨w.heap.size, 0, none⟩ = some (.int .i64 0) := (blk_cell hk9 0).trans rfl; have r1 : w9.cell? ⟨w.heap.size, 1, none⟩ = some (.int .i64 0) := (blk_cell hk9 1).trans rfl; have r2 : w9.cell? ⟨w.heap.size, 2, none⟩ = some (.int .i64 0) := (blk_cell hk9 2).trans rfl; have r3 : w9.cell? ⟨w.heap.size, 3, none⟩ = some (.int .i64 0) := (blk_cell hk9 3).trans rfl; have r4 : w9.cell? ⟨w.heap.size, 4, none⟩ = some (.int .i64 0) := (blk_cell hk9 4).trans rfl; have r5 : w9.cell? ⟨w.heap.size, 5, none⟩ = some (.int .i64 0) := (blk_cell hk9 5).trans rfl; have r6 : w9.cell? ⟨w.heap.size, 6, none⟩ = some (.int .i64 0) := (blk_cell hk9 6).trans rfl; have r7 : w9.cell? ⟨w.heap.size, 7, none⟩ = some (.bool false) := (blk_cell hk9 7).trans rfl; have r8 : w9.cell? ⟨w.heap.size, 8, none⟩ = some (.slice none 0 0) := (blk_cell hk9 8).trans rfl; have r9 : w9.cell? ⟨w.heap.size, 9, none⟩ = some (.string ⟨#[]⟩) := (blk_cell hk9 9).trans rfl; have HK9 := Lib.hid hk9; have HF9 := Lib.hid hf9; clear hk9 hf9))
      refine bodyPost_ret (v := .tuple #[.agg #[.int .i64 0, .int .i64 0, .int .i64 0, .int .i64 0, .int .i64 0, .int .i64 0, .int .i64 0, .bool false, .slice none 0 0, .string ⟨#[]⟩], .int .i64 100]) (by simp [results, Try.results28, go_sem, r0, r1, r2, r3, r4, r5, r6, r7, r8, r9]) rfl ?_
      exact ⟨below_fr HB2.out HF9.out, .inr ⟨HN.out, rfl⟩⟩
    · clear hbad
      go_wp2_with (first | ((with_reducible refine gate_load (t := 24) (p := .tmp 8) rfl ?_); refine wpList_load_whole (t := 24) rfl (.tmp 8) rfl (by rfl) Try.underlying24 (by kernel_rfl) HZw1.out ?_) | ((with_reducible refine gate_store (t := 24) (p := .tmp 4) (x := .tmp 35) rfl ?_); refine wpList_store_whole (t := 24) rfl (.tmp 4) (.tmp 35) rfl (g := w.heap.size) (c := #[.int .i64 0, .int .i64 0, .int .i64 0, .int .i64 0, .int .i64 0, .int .i64 0, .int .i64 0, .bool false, .slice none 0 0, .string ⟨#[]⟩]) #[.int .i64 0, .int .i64 0, .int .i64 0, .int .i64 0, .int .i64 0, .int .i64 0, .int .i64 0, .bool false, .slice none 0 0, .string ⟨#[]⟩] (by rfl) (by rfl) (by kernel_rfl) rfl (by kernel_rfl) HRw1.out ?_; intro w9 hk9 hf9; have r0 : w9.cell? ⟨w.heap.size, 0, none⟩ = some (.int .i64 0) := (blk_cell hk9 0).trans rfl; have r1 : w9.cell? ⟨w.heap.size, 1, none⟩ = some (.int .i64 0) := (blk_cell hk9 1).trans rfl; have r2 : w9.cell? ⟨w.heap.size, 2, none⟩ = some (.int .i64 0) := (blk_cell hk9 2).trans rfl; have r3 : w9.cell? ⟨w.heap.size, 3, none⟩ = some (.int .i64 0) := (blk_cell hk9 3).trans rfl; have r4 : w9.cell? ⟨w.heap.size, 4, none⟩ = some (.int .i64 0) := (blk_cell hk9 4).trans rfl; have r5 : w9.cell? ⟨w.heap.size, 5, none⟩ = some (.int .i64 0) := (blk_cell hk9 5).trans rfl; have r6 : w9.cell? ⟨w.heap.size, 6, none⟩ = some (.int .i64 0) := (blk_cell hk9 6).trans rfl; have r7 : w9.cell? ⟨w.heap.size, 7, none⟩ = some (.bool false) := (blk_cell hk9 7).trans rfl; have r8 : w9.cell? ⟨w.heap.size, 8, none⟩ = some (.slice none 0 0) := (blk_cell hk9 8).trans rfl; have r9 : w9.cell? ⟨w.heap.size, 9, none⟩ = some (.string ⟨#[]⟩) := (blk_cell hk9 9).trans rfl; have HK9 := Lib.hid hk9; have HF9 := Lib.hid hf9; clear hk9 hf9))
      refine bodyPost_ret (v := .tuple #[.agg #[.int .i64 0, .int .i64 0, .int .i64 0, .int .i64 0, .int .i64 0, .int .i64 0, .int .i64 0, .bool false, .slice none 0 0, .string ⟨#[]⟩], .int .i64 100]) (by simp [results, Try.results28, go_sem, r0, r1, r2, r3, r4, r5, r6, r7, r8, r9]) rfl ?_
      exact ⟨below_fr HB2.out HF9.out, .inr ⟨HN.out, rfl⟩⟩
  · simp only [not_or, Bool.not_eq_true, Classical.not_not] at hbad
    obtain ⟨rfl, rfl⟩ := hbad
    have hsh := tMsg.short ⟨s.data.toList, false⟩ (by rw [HST.out])
    rw [HST.out] at hsh
    have hel : (tMsg.cod.enc (tMsg.cod.dec ⟨s.data.toList, false⟩).1).length ≤ 68719476736 := by
      have h2 := hsh.1
      have h3 : s.data.toList.length = s.size := by simp
      simp only [] at h2
      omega
    have hso := tMsg.cod.sound ⟨s.data.toList, false⟩ (by show s.data.toList.length ≤ top; have h3 : s.data.toList.length = s.size := by simp
                                                          rw [h3]; exact Nat.le_trans hs (by decide))
    have HEL := Lib.hid hel
    have HSO := Lib.hid hso
    clear hsh hel hso
    by_cases henc : tMsg.cod.enc (tMsg.cod.dec ⟨s.data.toList, false⟩).1 = s.data.toList
    · have HG := Lib.hid (get_same HST.out henc)
      have hms : mkb (tMsg.cod.enc (tMsg.cod.dec ⟨s.data.toList, false⟩).1) = s := by rw [henc, mkb_self]
      have HMS := Lib.hid hms
      clear henc hms
      go_wp2_with fail
      refine (put_msg _ [u0, u1, u2, u3, u4, u5, u6, u7, u8, u9] _ _ HH.out HSO.out HEL.out).mono ?_
      rintro e w3 ⟨rfl, hb3⟩
      rw [HMS.out]
      have HB3 := Lib.hid hb3
      have HKw3 := Lib.hid ((hb3.block (W2.heap.size + 1) (by have := HW1.out; omega)).trans HKw1.out)
      have HRw3 := Lib.hid ((hb3.block w.heap.size (by have := HS.out; have := HW1.out; omega)).trans HRw1.out)
      clear hb3
      go_wp2_with (first | ((with_reducible refine gate_load (t := 24) (p := .tmp 7) rfl ?_); refine wpList_load_whole (t := 24) rfl (.tmp 7) rfl (by rfl) Try.underlying24 (by kernel_rfl) HKw3.out ?_) | ((with_reducible refine gate_store (t := 24) (p := .tmp 4) (x := .tmp 36) rfl ?_); refine wpList_store_whole (t := 24) rfl (.tmp 4) (.tmp 36) rfl (g := w.heap.size) (c := #[.int .i64 0, .int .i64 0, .int .i64 0, .int .i64 0, .int .i64 0, .int .i64 0, .int .i64 0, .bool false, .slice none 0 0, .string ⟨#[]⟩]) #[u0, u1, u2, u3, u4, u5, u6, u7, u8, u9] (by rfl) (by rfl) (by kernel_rfl) rfl H1A.out HRw3.out ?_; intro w9 hk9 hf9; have r0 : w9.cell? ⟨w.heap.size, 0, none⟩ = some (u0) := (blk_cell hk9 0).trans rfl; have r1 : w9.cell? ⟨w.heap.size, 1, none⟩ = some (u1) := (blk_cell hk9 1).trans rfl; have r2 : w9.cell? ⟨w.heap.size, 2, none⟩ = some (u2) := (blk_cell hk9 2).trans rfl; have r3 : w9.cell? ⟨w.heap.size, 3, none⟩ = some (u3) := (blk_cell hk9 3).trans rfl; have r4 : w9.cell? ⟨w.heap.size, 4, none⟩ = some (u4) := (blk_cell hk9 4).trans rfl; have r5 : w9.cell? ⟨w.heap.size, 5, none⟩ = some (u5) := (blk_cell hk9 5).trans rfl; have r6 : w9.cell? ⟨w.heap.size, 6, none⟩ = some (u6) := (blk_cell hk9 6).trans rfl; have r7 : w9.cell? ⟨w.heap.size, 7, none⟩ = some (u7) := (blk_cell hk9 7).trans rfl; have r8 : w9.cell? ⟨w.heap.size, 8, none⟩ = some (u8) := (blk_cell hk9 8).trans rfl; have r9 : w9.cell? ⟨w.heap.size, 9, none⟩ = some (u9) := (blk_cell hk9 9).trans rfl; have HK9 := Lib.hid hk9; have HF9 := Lib.hid hf9; clear hk9 hf9))
      refine bodyPost_ret (v := .tuple #[.agg #[u0, u1, u2, u3, u4, u5, u6, u7, u8, u9], .int .i64 0]) (by simp [results, Try.results28, go_sem, r0, r1, r2, r3, r4, r5, r6, r7, r8, r9]) rfl ?_
      exact ⟨below_fr (below_then HB2.out (by have := HS.out; have := HW1.out; omega) HB3.out) HF9.out, .inl ⟨_, [u0, u1, u2, u3, u4, u5, u6, u7, u8, u9], HG.out, rfl, ((HH.out.below HB3.out).fr HF9.out (fun k hk he => by have := HS.out; omega)).mono (fun k hk => by have := HS.out; omega)⟩⟩
    · have HG := Lib.hid (get_other HST.out henc)
      have hms : ¬ mkb (tMsg.cod.enc (tMsg.cod.dec ⟨s.data.toList, false⟩).1) = s := mkb_ne henc
      obtain ⟨other, hot⟩ : ∃ o, mkb (tMsg.cod.enc (tMsg.cod.dec ⟨s.data.toList, false⟩).1) = o := ⟨_, rfl⟩
      rw [hot] at hms
      have hq1 := str_ne hms
      have HOT := Lib.hid hot
      clear henc hot
      go_wp2_with fail
      refine (put_msg _ [u0, u1, u2, u3, u4, u5, u6, u7, u8, u9] _ _ HH.out HSO.out HEL.out).mono ?_
      rintro e w3 ⟨rfl, hb3⟩
      rw [HOT.out]
      have HB3 := Lib.hid hb3
      have HZw3 := Lib.hid ((hb3.block (W2.heap.size + 1 + 1) (by have := HW1.out; omega)).trans HZw1.out)
      have HRw3 := Lib.hid ((hb3.block w.heap.size (by have := HS.out; have := HW1.out; omega)).trans HRw1.out)
      clear hb3
      go_wp2_with (first | ((with_reducible refine gate_load (t := 24) (p := .tmp 8) rfl ?_); refine wpList_load_whole (t := 24) rfl (.tmp 8) rfl (by rfl) Try.underlying24 (by kernel_rfl) HZw3.out ?_) | ((with_reducible refine gate_store (t := 24) (p := .tmp 4) (x := .tmp 35) rfl ?_); refine wpList_store_whole (t := 24) rfl (.tmp 4) (.tmp 35) rfl (g := w.heap.size) (c := #[.int .i64 0, .int .i64 0, .int .i64 0, .int .i64 0, .int .i64 0, .int .i64 0, .int .i64 0, .bool false, .slice none 0 0, .string ⟨#[]⟩]) #[.int .i64 0, .int .i64 0, .int .i64 0, .int .i64 0, .int .i64 0, .int .i64 0, .int .i64 0, .bool false, .slice none 0 0, .string ⟨#[]⟩] (by rfl) (by rfl) (by kernel_rfl) rfl (by kernel_rfl) HRw3.out ?_; intro w9 hk9 hf9; have r0 : w9.cell? ⟨w.heap.size, 0, none⟩ = some (.int .i64 0) := (blk_cell hk9 0).trans rfl; have r1 : w9.cell? ⟨w.heap.size, 1, none⟩ = some (.int .i64 0) := (blk_cell hk9 1).trans rfl; have r2 : w9.cell? ⟨w.heap.size, 2, none⟩ = some (.int .i64 0) := (blk_cell hk9 2).trans rfl; have r3 : w9.cell? ⟨w.heap.size, 3, none⟩ = some (.int .i64 0) := (blk_cell hk9 3).trans rfl; have r4 : w9.cell? ⟨w.heap.size, 4, none⟩ = some (.int .i64 0) := (blk_cell hk9 4).trans rfl; have r5 : w9.cell? ⟨w.heap.size, 5, none⟩ = some (.int .i64 0) := (blk_cell hk9 5).trans rfl; have r6 : w9.cell? ⟨w.heap.size, 6, none⟩ = some (.int .i64 0) := (blk_cell hk9 6).trans rfl; have r7 : w9.cell? ⟨w.heap.size, 7, none⟩ = some (.bool false) := (blk_cell hk9 7).trans rfl; have r8 : w9.cell? ⟨w.heap.size, 8, none⟩ = some (.slice none 0 0) := (blk_cell hk9 8).trans rfl; have r9 : w9.cell? ⟨w.heap.size, 9, none⟩ = some (.string ⟨#[]⟩) := (blk_cell hk9 9).trans rfl; have HK9 := Lib.hid hk9; have HF9 := Lib.hid hf9; clear hk9 hf9))
      refine bodyPost_ret (v := .tuple #[.agg #[.int .i64 0, .int .i64 0, .int .i64 0, .int .i64 0, .int .i64 0, .int .i64 0, .int .i64 0, .bool false, .slice none 0 0, .string ⟨#[]⟩], .int .i64 100]) (by simp [results, Try.results28, go_sem, r0, r1, r2, r3, r4, r5, r6, r7, r8, r9]) rfl ?_
      exact ⟨below_fr (below_then HB2.out (by have := HS.out; have := HW1.out; omega) HB3.out) HF9.out, .inr ⟨HG.out, rfl⟩⟩
end Go.Proofs.Ytlcgkcmicklihaa.Wire
namespace Go.Proofs.Ytlcgkcmicklihaa.Wire
set_option linter.unusedVariables false
set_option linter.unusedSimpArgs false
open Go.RowKit Go.Proofs.YtlcgkcmicklihaaW.PrintWords Go.Proofs.YtlcgkcmicklihaaW.PrintLast Go.Proofs.YtlcgkcmicklihaaW.PrintMore
set_option maxRecDepth 100000 in
set_option maxHeartbeats 4000000 in
theorem Put_msg (x : tMsg.T) (cs : List Value) (ok : Nat → Prop) (w : World) (hH : Holds w ok tMsg x cs) (hok : tMsg.cod.ok x) (hlen : (tMsg.cod.enc x).length ≤ 68719476736) :
    Calls Try.prog 11 #[.agg cs.toArray] w fun e w' => e = .returned (.string (mkb (tMsg.cod.enc x))) ∧ Below w.heap.size w w' := by
  have hb : Below w.heap.size w (w.alloc (.cells cs.toArray 24)) := (Below.refl _ _).alloc (Nat.le_refl _) _
  have HH := Lib.hid (hH.below hb)
  have HB := Lib.hid hb
  have HOK := Lib.hid hok
  have HL := Lib.hid hlen
  have hsz : (Try.prog.info? 24).map (·.size) = some cs.toArray.size := by
    rw [List.size_toArray, hH.len]
    kernel_rfl
  have HSZ := Lib.hid hsz
  have HK := Lib.hid (blk_new w (.cells cs.toArray 24))
  clear hH hok hlen hb hsz
  go_enter Try.func11, Try.ntmps11
  go_wp2_with ((with_reducible refine gate_load (t := 24) (p := .tmp 1) rfl ?_); refine wpList_load_whole (t := 24) rfl (.tmp 1) rfl (by rfl) Try.underlying24 HSZ.out HK.out ?_)
  refine (put_msg x cs ok _ HH.out HOK.out HL.out).mono ?_
  rintro e w1 ⟨rfl, hb1⟩
  have HB1 := Lib.hid hb1
  clear hb1
  go_wp2_with fail
  go_ret
  exact ⟨rfl, below_step HB.out HB1.out⟩
set_option maxRecDepth 100000 in
set_option maxHeartbeats 8000000 in
theorem Get_msg (s : ByteArray) (w : World) (hs : s.size ≤ 68719476736) :
    Calls Try.prog 12 #[.string s] w (GetPost tMsg s w) := by
  have e0 := blk_new w (.cells #[.int .i64 0, .int .i64 0, .int .i64 0, .int .i64 0, .int .i64 0, .int .i64 0, .int .i64 0, .bool false, .slice none 0 0, .string ⟨#[]⟩] 24)
  have hb0 : Below w.heap.size w (w.alloc (.cells #[.int .i64 0, .int .i64 0, .int .i64 0, .int .i64 0, .int .i64 0, .int .i64 0, .int .i64 0, .bool false, .slice none 0 0, .string ⟨#[]⟩] 24)) := (Below.refl _ _).alloc (Nat.le_refl _) _
  have hN : (w.alloc (.cells #[.int .i64 0, .int .i64 0, .int .i64 0, .int .i64 0, .int .i64 0, .int .i64 0, .int .i64 0, .bool false, .slice none 0 0, .string ⟨#[]⟩] 24)).heap.size = w.heap.size + 1 := by simp
  have HE := Lib.hid e0
  have HB0 := Lib.hid hb0
  have HN := Lib.hid hN
  clear e0 hb0 hN
  go_enter Try.func12, Try.ntmps12
  go_wp2_with fail
  refine (get_msg s _ hs).mono ?_
  rintro e w1 ⟨hb1, hr⟩
  have HRw := Lib.hid ((hb1.block w.heap.size (by rw [HN.out]; omega)).trans HE.out)
  have HB1 := Lib.hid (below_step HB0.out hb1)
  clear hb1
  rcases hr with ⟨x, cs, hg, rfl, hH⟩ | ⟨hg, rfl⟩
  · have HG := Lib.hid hg
    have hl := hH.len
    have H1A := Lib.hid (all_one hH.one)
    obtain ⟨u0, u1, u2, u3, u4, u5, u6, u7, u8, u9, rfl⟩ : ∃ u0 u1 u2 u3 u4 u5 u6 u7 u8 u9, cs = [u0, u1, u2, u3, u4, u5, u6, u7, u8, u9] := by
      match cs, hl with
      | [u0, u1, u2, u3, u4, u5, u6, u7, u8, u9], _ => exact ⟨u0, u1, u2, u3, u4, u5, u6, u7, u8, u9, rfl⟩
    have HH := Lib.hid hH
    clear hg hH hl
    go_wp2_with (first | ((with_reducible refine gate_store (t := 24) (p := .tmp 2) (x := .tmp 6) rfl ?_); refine wpList_store_whole (t := 24) rfl (.tmp 2) (.tmp 6) rfl (g := w.heap.size) (c := #[.int .i64 0, .int .i64 0, .int .i64 0, .int .i64 0, .int .i64 0, .int .i64 0, .int .i64 0, .bool false, .slice none 0 0, .string ⟨#[]⟩]) #[u0, u1, u2, u3, u4, u5, u6, u7, u8, u9] (by rfl) (by rfl) (by kernel_rfl) rfl H1A.out HRw.out ?_; intro w9 hk9 hf9; have r0 : w9.cell? ⟨w.heap.size, 0, none⟩ = some (u0) := (blk_cell hk9 0).trans rfl; have r1 : w9.cell? ⟨w.heap.size, 1, none⟩ = some (u1) := (blk_cell hk9 1).trans rfl; have r2 : w9.cell? ⟨w.heap.size, 2, none⟩ = some (u2) := (blk_cell hk9 2).trans rfl; have r3 : w9.cell? ⟨w.heap.size, 3, none⟩ = some (u3) := (blk_cell hk9 3).trans rfl; have r4 : w9.cell? ⟨w.heap.size, 4, none⟩ = some (u4) := (blk_cell hk9 4).trans rfl; have r5 : w9.cell? ⟨w.heap.size, 5, none⟩ = some (u5) := (blk_cell hk9 5).trans rfl; have r6 : w9.cell? ⟨w.heap.size, 6, none⟩ = some (u6) := (blk_cell hk9 6).trans rfl; have r7 : w9.cell? ⟨w.heap.size, 7, none⟩ = some (u7) := (blk_cell hk9 7).trans rfl; have r8 : w9.cell? ⟨w.heap.size, 8, none⟩ = some (u8) := (blk_cell hk9 8).trans rfl; have r9 : w9.cell? ⟨w.heap.size, 9, none⟩ = some (u9) := (blk_cell hk9 9).trans rfl; have HK9 := Lib.hid hk9; have HF9 := Lib.hid hf9; clear hk9 hf9))
    refine bodyPost_ret (v := .tuple #[.agg #[u0, u1, u2, u3, u4, u5, u6, u7, u8, u9], .int .i64 0]) (by simp [results, Try.results12, go_sem, r0, r1, r2, r3, r4, r5, r6, r7, r8, r9]) rfl ?_
    exact ⟨below_fr HB1.out HF9.out, .inl ⟨_, [u0, u1, u2, u3, u4, u5, u6, u7, u8, u9], HG.out, rfl, (HH.out.fr HF9.out (fun k hk he => by have := HN.out; omega)).mono (fun k hk => by have := HN.out; omega)⟩⟩
  · have HG := Lib.hid hg
    clear hg
    have hz : tMsg.zcells.toArray = #[.int .i64 0, .int .i64 0, .int .i64 0, .int .i64 0, .int .i64 0, .int .i64 0, .int .i64 0, .bool false, .slice none 0 0, .string ⟨#[]⟩] := rfl
    rw [hz]
    clear hz
    go_wp2_with (first | ((with_reducible refine gate_store (t := 24) (p := .tmp 2) (x := .tmp 6) rfl ?_); refine wpList_store_whole (t := 24) rfl (.tmp 2) (.tmp 6) rfl (g := w.heap.size) (c := #[.int .i64 0, .int .i64 0, .int .i64 0, .int .i64 0, .int .i64 0, .int .i64 0, .int .i64 0, .bool false, .slice none 0 0, .string ⟨#[]⟩]) #[.int .i64 0, .int .i64 0, .int .i64 0, .int .i64 0, .int .i64 0, .int .i64 0, .int .i64 0, .bool false, .slice none 0 0, .string ⟨#[]⟩] (by rfl) (by rfl) (by kernel_rfl) rfl (by kernel_rfl) HRw.out ?_; intro w9 hk9 hf9; have r0 : w9.cell? ⟨w.heap.size, 0, none⟩ = some (.int .i64 0) := (blk_cell hk9 0).trans rfl; have r1 : w9.cell? ⟨w.heap.size, 1, none⟩ = some (.int .i64 0) := (blk_cell hk9 1).trans rfl; have r2 : w9.cell? ⟨w.heap.size, 2, none⟩ = some (.int .i64 0) := (blk_cell hk9 2).trans rfl; have r3 : w9.cell? ⟨w.heap.size, 3, none⟩ = some (.int .i64 0) := (blk_cell hk9 3).trans rfl; have r4 : w9.cell? ⟨w.heap.size, 4, none⟩ = some (.int .i64 0) := (blk_cell hk9 4).trans rfl; have r5 : w9.cell? ⟨w.heap.size, 5, none⟩ = some (.int .i64 0) := (blk_cell hk9 5).trans rfl; have r6 : w9.cell? ⟨w.heap.size, 6, none⟩ = some (.int .i64 0) := (blk_cell hk9 6).trans rfl; have r7 : w9.cell? ⟨w.heap.size, 7, none⟩ = some (.bool false) := (blk_cell hk9 7).trans rfl; have r8 : w9.cell? ⟨w.heap.size, 8, none⟩ = some (.slice none 0 0) := (blk_cell hk9 8).trans rfl; have r9 : w9.cell? ⟨w.heap.size, 9, none⟩ = some (.string ⟨#[]⟩) := (blk_cell hk9 9).trans rfl; have HK9 := Lib.hid hk9; have HF9 := Lib.hid hf9; clear hk9 hf9))
    refine bodyPost_ret (v := .tuple #[.agg #[.int .i64 0, .int .i64 0, .int .i64 0, .int .i64 0, .int .i64 0, .int .i64 0, .int .i64 0, .bool false, .slice none 0 0, .string ⟨#[]⟩], .int .i64 100]) (by simp [results, Try.results12, go_sem, r0, r1, r2, r3, r4, r5, r6, r7, r8, r9]) rfl ?_
    exact ⟨below_fr HB1.out HF9.out, .inr ⟨HG.out, rfl⟩⟩
end Go.Proofs.Ytlcgkcmicklihaa.Wire
namespace Go.Proofs.Ytlcgkcmicklihaa.Wire
set_option linter.unusedVariables false
set_option linter.unusedSimpArgs false
open Go.RowKit Go.Proofs.YtlcgkcmicklihaaW.PrintWords Go.Proofs.YtlcgkcmicklihaaW.PrintLast Go.Proofs.YtlcgkcmicklihaaW.PrintMore
set_option maxRecDepth 100000 in
set_option maxHeartbeats 8000000 in
theorem msg_refL (y0 : Int) (y1 : Int) (y2 : Int) (y3 : Int) (y4 : Int) (y5 : Int) (y6 : Int) (y7 : Bool) (y8 : List tEntry.T) (y9 : ByteArray) (cs : List Value) (ok : Nat → Prop) (w : World) (hH : Holds w ok tMsg ((y0, (y1, (y2, (y3, (y4, (y5, y6)))))), (y7, (y8, y9))) cs) (hok : tMsg.cod.ok ((y0, (y1, (y2, (y3, (y4, (y5, y6)))))), (y7, (y8, y9)))) (hlen : (tMsg.cod.enc ((y0, (y1, (y2, (y3, (y4, (y5, y6)))))), (y7, (y8, y9)))).length ≤ 68719476736) :
    Calls Try.prog 13 #[.agg cs.toArray] w fun e w' => e = .returned (.string (mkb (tMsg.cod.enc ((y0, (y1, (y2, (y3, (y4, (y5, y6)))))), (y7, (y8, y9)))))) ∧ Below w.heap.size w w' := by
  obtain ⟨ca1, cb1, rfl, ha1, hb1⟩ := Holds.pair_cell hH
  obtain ⟨ca2, cb2, rfl, ha2, hb2⟩ := Holds.pair_cell ha1
  obtain rfl := Holds.int_cell ha2
  obtain ⟨ca3, cb3, rfl, ha3, hb3⟩ := Holds.pair_cell hb2
  obtain rfl := Holds.int_cell ha3
  obtain ⟨ca4, cb4, rfl, ha4, hb4⟩ := Holds.pair_cell hb3
  obtain rfl := Holds.int_cell ha4
  obtain ⟨ca5, cb5, rfl, ha5, hb5⟩ := Holds.pair_cell hb4
  obtain rfl := Holds.int_cell ha5
  obtain ⟨ca6, cb6, rfl, ha6, hb6⟩ := Holds.pair_cell hb5
  obtain rfl := Holds.int_cell ha6
  obtain ⟨ca7, cb7, rfl, ha7, hb7⟩ := Holds.pair_cell hb6
  obtain rfl := Holds.int_cell ha7
  obtain rfl := Holds.int_cell hb7
  obtain ⟨ca8, cb8, rfl, ha8, hb8⟩ := Holds.pair_cell hb1
  obtain rfl := Holds.bool_cell ha8
  obtain ⟨ca9, cb9, rfl, ha9, hb9⟩ := Holds.pair_cell hb8
  obtain ⟨A8, cap8, rfl, hh8⟩ := Holds.list_cell ha9
  obtain rfl := Holds.str_cell hb9
  clear ha1 ha2 hb2 ha3 hb3 ha4 hb4 ha5 hb5 ha6 hb6 ha7 hb7 hb1 ha8 hb8 ha9 hb9
  obtain ⟨R0, hR0⟩ : ∃ R, [y0, y1, y2, y3, y4, y5, y6].flatMap num = R := ⟨_, rfl⟩
  obtain ⟨R1, hR1⟩ : ∃ R, cFlag.enc y7 = R := ⟨_, rfl⟩
  obtain ⟨R2, hR2⟩ : ∃ R, (Ty.list tEntry).cod.enc y8 = R := ⟨_, rfl⟩
  obtain ⟨R3, hR3⟩ : ∃ R, cStr.enc y9 = R := ⟨_, rfl⟩
  obtain ⟨P1, hP1⟩ : ∃ P, R0 ++ R1 = P := ⟨_, rfl⟩
  obtain ⟨P2, hP2⟩ : ∃ P, P1 ++ R2 = P := ⟨_, rfl⟩
  obtain ⟨P3, hP3⟩ : ∃ P, P2 ++ R3 = P := ⟨_, rfl⟩
  have hE : tMsg.cod.enc ((y0, (y1, (y2, (y3, (y4, (y5, y6)))))), (y7, (y8, y9))) = P3 := by
    have h1 : tMsg.cod.enc ((y0, (y1, (y2, (y3, (y4, (y5, y6)))))), (y7, (y8, y9))) = ((num y0 ++ (num y1 ++ (num y2 ++ (num y3 ++ (num y4 ++ (num y5 ++ num y6)))))) ++ (cFlag.enc y7 ++ ((Ty.list tEntry).cod.enc y8 ++ cStr.enc y9))) := rfl
    rw [h1, ← hP3, ← hP2, ← hP1, ← hR0, ← hR1, ← hR2, ← hR3]
    simp only [List.append_assoc, List.flatMap_cons, List.flatMap_nil, List.append_nil]
  rw [hE] at hlen
  rw [hE]
  have hl3 : P2.length + R3.length ≤ 68719476736 := by rw [← List.length_append, hP3]; exact hlen
  have hl2 : P1.length + R2.length ≤ 68719476736 := by rw [← List.length_append, hP2]; omega
  have hl1 : R0.length + R1.length ≤ 68719476736 := by rw [← List.length_append, hP1]; omega
  have HF0 := Lib.hid (show ∀ n ∈ [y0, y1, y2, y3, y4, y5, y6], Fits n from fits_cons hok.1.1 (fits_cons hok.1.2.1 (fits_cons hok.1.2.2.1 (fits_cons hok.1.2.2.2.1 (fits_cons hok.1.2.2.2.2.1 (fits_cons hok.1.2.2.2.2.2.1 (fits_cons hok.1.2.2.2.2.2.2 (fits_nil))))))))
  have HO2 := Lib.hid hok.2.2.1
  have HLn2 := Lib.hid (show ((Ty.list tEntry).cod.enc y8).length ≤ 68719476736 by rw [hR2]; omega)
  have hll2 : y8.length ≤ 9223372036854775807 := hok.2.2.1.1
  have hs3 : y9.size ≤ 281474976710656 := str_size hR3 (by omega)
  have sa1 : ¬ 9223372036854775807 < (mkb R0).size + (mkb R1).size := by simp only [mkb_size]; omega
  have sc1 : mkb R0 ++ mkb R1 = mkb P1 := by rw [mkb_append, hP1]
  have sa2 : ¬ 9223372036854775807 < (mkb P1).size + (mkb R2).size := by simp only [mkb_size]; omega
  have sc2 : mkb P1 ++ mkb R2 = mkb P2 := by rw [mkb_append, hP2]
  have sa3 : ¬ 9223372036854775807 < (mkb P2).size + (mkb R3).size := by simp only [mkb_size]; omega
  have sc3 : mkb P2 ++ mkb R3 = mkb P3 := by rw [mkb_append, hP3]
  obtain ⟨wb, hwb⟩ : ∃ wb, w.alloc (.cells #[.int .i64 y0, .int .i64 y1, .int .i64 y2, .int .i64 y3, .int .i64 y4, .int .i64 y5, .int .i64 y6, .bool y7, .slice A8 y8.length cap8, .string y9] 24) = wb := ⟨_, rfl⟩
  have hbb : Below w.heap.size w wb := by rw [← hwb]; exact (Below.refl _ _).alloc (Nat.le_refl _) _
  have q0 : wb.cell? ⟨w.heap.size, 0, none⟩ = some (.int .i64 y0) := by rw [← hwb]; exact (blk_cell (blk_new w _) 0).trans rfl
  have q1 : wb.cell? ⟨w.heap.size, 1, none⟩ = some (.int .i64 y1) := by rw [← hwb]; exact (blk_cell (blk_new w _) 1).trans rfl
  have q2 : wb.cell? ⟨w.heap.size, 2, none⟩ = some (.int .i64 y2) := by rw [← hwb]; exact (blk_cell (blk_new w _) 2).trans rfl
  have q3 : wb.cell? ⟨w.heap.size, 3, none⟩ = some (.int .i64 y3) := by rw [← hwb]; exact (blk_cell (blk_new w _) 3).trans rfl
  have q4 : wb.cell? ⟨w.heap.size, 4, none⟩ = some (.int .i64 y4) := by rw [← hwb]; exact (blk_cell (blk_new w _) 4).trans rfl
  have q5 : wb.cell? ⟨w.heap.size, 5, none⟩ = some (.int .i64 y5) := by rw [← hwb]; exact (blk_cell (blk_new w _) 5).trans rfl
  have q6 : wb.cell? ⟨w.heap.size, 6, none⟩ = some (.int .i64 y6) := by rw [← hwb]; exact (blk_cell (blk_new w _) 6).trans rfl
  have q7 : wb.cell? ⟨w.heap.size, 7, none⟩ = some (.bool y7) := by rw [← hwb]; exact (blk_cell (blk_new w _) 7).trans rfl
  have q8 : wb.cell? ⟨w.heap.size, 8, none⟩ = some (.slice A8 y8.length cap8) := by rw [← hwb]; exact (blk_cell (blk_new w _) 8).trans rfl
  have q9 : wb.cell? ⟨w.heap.size, 9, none⟩ = some (.string y9) := by rw [← hwb]; exact (blk_cell (blk_new w _) 9).trans rfl
  have hNb : w.heap.size < wb.heap.size := by rw [← hwb]; simp
  have HH2 := Lib.hid (hh8.below hbb)
  have HBB := Lib.hid hbb
  have HR0 := Lib.hid hR0
  have HR1 := Lib.hid hR1
  have HR2 := Lib.hid hR2
  have HR3 := Lib.hid hR3
  clear hE hlen hok hbb hR0 hR1 hR2 hR3 hP1 hP2 hP3 hh8
  show Calls Try.prog 13 #[.agg #[.int .i64 y0, .int .i64 y1, .int .i64 y2, .int .i64 y3, .int .i64 y4, .int .i64 y5, .int .i64 y6, .bool y7, .slice A8 y8.length cap8, .string y9]] w _
  go_enter Try.func13, Try.ntmps13
  go_wp2_with fail
  clear hwb
  have hB0 : Below wb.heap.size wb wb := Below.refl _ _
  have KK : Hid (∀ w', Below wb.heap.size wb w' → (Below wb.heap.size wb w' ∧ w'.cell? ⟨w.heap.size, 0, none⟩ = some (.int .i64 y0) ∧ w'.cell? ⟨w.heap.size, 1, none⟩ = some (.int .i64 y1) ∧ w'.cell? ⟨w.heap.size, 2, none⟩ = some (.int .i64 y2) ∧ w'.cell? ⟨w.heap.size, 3, none⟩ = some (.int .i64 y3) ∧ w'.cell? ⟨w.heap.size, 4, none⟩ = some (.int .i64 y4) ∧ w'.cell? ⟨w.heap.size, 5, none⟩ = some (.int .i64 y5) ∧ w'.cell? ⟨w.heap.size, 6, none⟩ = some (.int .i64 y6) ∧ w'.cell? ⟨w.heap.size, 7, none⟩ = some (.bool y7) ∧ w'.cell? ⟨w.heap.size, 8, none⟩ = some (.slice A8 y8.length cap8) ∧ w'.cell? ⟨w.heap.size, 9, none⟩ = some (.string y9))) := Lib.hid (fun w' hX => ⟨hX, keep1 q0 hX, keep1 q1 hX, keep1 q2 hX, keep1 q3 hX, keep1 q4 hX, keep1 q5 hX, keep1 q6 hX, keep1 q7 hX, keep1 q8 hX, keep1 q9 hX⟩)
  go_region_held3 (fun w' => Below wb.heap.size wb w' ∧ w'.cell? ⟨w.heap.size, 0, none⟩ = some (.int .i64 y0) ∧ w'.cell? ⟨w.heap.size, 1, none⟩ = some (.int .i64 y1) ∧ w'.cell? ⟨w.heap.size, 2, none⟩ = some (.int .i64 y2) ∧ w'.cell? ⟨w.heap.size, 3, none⟩ = some (.int .i64 y3) ∧ w'.cell? ⟨w.heap.size, 4, none⟩ = some (.int .i64 y4) ∧ w'.cell? ⟨w.heap.size, 5, none⟩ = some (.int .i64 y5) ∧ w'.cell? ⟨w.heap.size, 6, none⟩ = some (.int .i64 y6) ∧ w'.cell? ⟨w.heap.size, 7, none⟩ = some (.bool y7) ∧ w'.cell? ⟨w.heap.size, 8, none⟩ = some (.slice A8 y8.length cap8) ∧ w'.cell? ⟨w.heap.size, 9, none⟩ = some (.string y9))
    (first | ((with_reducible refine KK.out _ ?_); (repeat (first | with_reducible refine bel_drew ?_ | with_reducible refine bel_alloc ?_)); first | with_reducible exact hB4 | with_reducible exact hB3 | with_reducible exact hB2 | with_reducible exact hB1 | with_reducible exact hB0))
    (first | (go_at_call 32; have hp := hB3; refine (text_ref' y9 R3 HR3.out _ hs3).mono ?_; rintro e w4 ⟨rfl, hr4⟩; have hB4 : Below wb.heap.size wb w4 := below_step (by (repeat (first | with_reducible refine bel_drew ?_ | with_reducible refine bel_alloc ?_)); with_reducible exact hp) hr4) | (go_at_call 31; have hp := hB2; refine (list_ref' entries_all y8 _ _ _ R2 HR2.out _ (HH2.out.below (by (repeat (first | with_reducible refine bel_drew ?_ | with_reducible refine bel_alloc ?_)); with_reducible exact hp)) HO2.out HLn2.out).mono ?_; rintro e w3 ⟨rfl, hr3⟩; have hB3 : Below wb.heap.size wb w3 := below_step (by (repeat (first | with_reducible refine bel_drew ?_ | with_reducible refine bel_alloc ?_)); with_reducible exact hp) hr3) | (go_at_call 30; have hp := hB1; refine (flag_ref' y7 R1 HR1.out _).mono ?_; rintro e w2 ⟨rfl, hr2⟩; have hB2 : Below wb.heap.size wb w2 := below_step (by (repeat (first | with_reducible refine bel_drew ?_ | with_reducible refine bel_alloc ?_)); with_reducible exact hp) hr2) | (go_at_call 29; have hp := hB0; refine (nums_at [y0, y1, y2, y3, y4, y5, y6] R0 HR0.out 7 rfl _ 7 _ (by decide) HF0.out (by repeat (first | ((with_reducible refine rowB ?_ ?_); rfl; (first | (with_reducible rfl) | (simp; done)); done) | with_reducible refine row_drew ?_ | with_reducible refine row_alloc ?_ | with_reducible refine row_below hr4 ?_ | with_reducible refine row_below hr3 ?_ | with_reducible refine row_below hr2 ?_ | with_reducible refine row_below hr1 ?_))).mono ?_; rintro e w1 ⟨rfl, hr1⟩; have hB1 : Below wb.heap.size wb w1 := below_step (by (repeat (first | with_reducible refine bel_drew ?_ | with_reducible refine bel_alloc ?_)); with_reducible exact hp) hr1))
  all_goals
    go_wp2_with fail
    go_ret
    exact ⟨rfl, below_then' HBB.out hB4⟩
theorem msg_ref (x : tMsg.T) (cs : List Value) (ok : Nat → Prop) (w : World) (hH : Holds w ok tMsg x cs) (hok : tMsg.cod.ok x) (hlen : (tMsg.cod.enc x).length ≤ 68719476736) :
    Calls Try.prog 13 #[.agg cs.toArray] w fun e w' => e = .returned (.string (mkb (tMsg.cod.enc x))) ∧ Below w.heap.size w w' := by
  obtain ⟨⟨y0, ⟨y1, ⟨y2, ⟨y3, ⟨y4, ⟨y5, y6⟩⟩⟩⟩⟩⟩, ⟨y7, ⟨y8, y9⟩⟩⟩ := x
  exact msg_refL y0 y1 y2 y3 y4 y5 y6 y7 y8 y9 cs ok w hH hok hlen
end Go.Proofs.Ytlcgkcmicklihaa.Wire
namespace Go.Proofs.Ytlcgkcmicklihaa.Wire
set_option linter.unusedVariables false
set_option linter.unusedSimpArgs false
open Go.RowKit Go.Proofs.YtlcgkcmicklihaaW.PrintWords Go.Proofs.YtlcgkcmicklihaaW.PrintLast Go.Proofs.YtlcgkcmicklihaaW.PrintMore
theorem leb_small (z : Nat) (h : z < 128) : leb z = [UInt8.ofNat z] := by
  rw [leb.eq_def, dif_pos h]
def awakeMsg : tMsg.T := (((2 : Int), (1 : Int), (0 : Int), (3 : Int), (0 : Int), (0 : Int), (0 : Int)), true, ([] : List tEntry.T), (⟨#[]⟩ : ByteArray))
theorem awake_enc : tMsg.cod.enc awakeMsg = [4, 2, 0, 6, 0, 0, 0, 2, 0, 0] := by
  have h : tMsg.cod.enc awakeMsg = ((num 2 ++ (num 1 ++ (num 0 ++ (num 3 ++ (num 0 ++ (num 0 ++ num 0)))))) ++ (num 1 ++ ((num 0 ++ []) ++ (num 0 ++ [])))) := rfl
  rw [h]
  have e0 : num 0 = [0] := by unfold num; rw [show zz 0 = 0 by decide, leb_small 0 (by decide)]; rfl
  have e1 : num 1 = [2] := by unfold num; rw [show zz 1 = 2 by decide, leb_small 2 (by decide)]; rfl
  have e2 : num 2 = [4] := by unfold num; rw [show zz 2 = 4 by decide, leb_small 4 (by decide)]; rfl
  have e3 : num 3 = [6] := by unfold num; rw [show zz 3 = 6 by decide, leb_small 6 (by decide)]; rfl
  rw [e0, e1, e2, e3]
  rfl
theorem awake_ok : tMsg.cod.ok awakeMsg := by
  have f : ∀ n : Int, -9223372036854775808 ≤ n → n ≤ 9223372036854775807 → Fits n := fun n a b => ⟨a, b⟩
  exact ⟨⟨f 2 (by decide) (by decide), f 1 (by decide) (by decide), f 0 (by decide) (by decide), f 3 (by decide) (by decide), f 0 (by decide) (by decide), f 0 (by decide) (by decide), f 0 (by decide) (by decide)⟩, trivial, ⟨Nat.zero_le _, fun x h => by cases h⟩, Nat.zero_le _⟩
/-- The cells of awake's message. -/
def awakeCells : List Value := [.int .i64 2, .int .i64 1, .int .i64 0, .int .i64 3, .int .i64 0, .int .i64 0, .int .i64 0, .bool true, .slice none 0 0, .string ⟨#[]⟩]
theorem awake_holds (w : World) (ok : Nat → Prop) : Holds w ok tMsg awakeMsg awakeCells :=
  ⟨[.int .i64 2, .int .i64 1, .int .i64 0, .int .i64 3, .int .i64 0, .int .i64 0, .int .i64 0], [.bool true, .slice none 0 0, .string ⟨#[]⟩], rfl,
    ⟨_, [.int .i64 1, .int .i64 0, .int .i64 3, .int .i64 0, .int .i64 0, .int .i64 0], rfl, rfl, _, [.int .i64 0, .int .i64 3, .int .i64 0, .int .i64 0, .int .i64 0], rfl, rfl, _, [.int .i64 3, .int .i64 0, .int .i64 0, .int .i64 0], rfl, rfl, _, [.int .i64 0, .int .i64 0, .int .i64 0], rfl, rfl, _, [.int .i64 0, .int .i64 0], rfl, rfl, _, [.int .i64 0], rfl, rfl, rfl⟩,
    ⟨_, [.slice none 0 0, .string ⟨#[]⟩], rfl, rfl, [.slice none 0 0], [.string ⟨#[]⟩], rfl, ⟨none, 0, rfl, Nat.le_refl _, fun i x h => by cases h⟩, rfl⟩⟩
theorem awake_cells {w : World} {ok : Nat → Prop} {cs : List Value} (h : Holds w ok tMsg awakeMsg cs) : ∃ A cap, cs = [.int .i64 2, .int .i64 1, .int .i64 0, .int .i64 3, .int .i64 0, .int .i64 0, .int .i64 0, .bool true, .slice A 0 cap, .string ⟨#[]⟩] := by
  obtain ⟨c1, c2, rfl, h1, h2⟩ := h
  obtain ⟨d1, d2, rfl, g1, g2⟩ := h1
  obtain ⟨d3, d4, rfl, g3, g4⟩ := g2
  obtain ⟨d5, d6, rfl, g5, g6⟩ := g4
  obtain ⟨d7, d8, rfl, g7, g8⟩ := g6
  obtain ⟨d9, d10, rfl, g9, g10⟩ := g8
  obtain ⟨d11, d12, rfl, g11, g12⟩ := g10
  obtain ⟨e1, e2, rfl, k1, k2⟩ := h2
  obtain ⟨e3, e4, rfl, k3, k4⟩ := k2
  obtain ⟨A, cap, rfl, _⟩ := Holds.list_cell k3
  rw [Holds.int_cell g1, Holds.int_cell g3, Holds.int_cell g5, Holds.int_cell g7, Holds.int_cell g9, Holds.int_cell g11, Holds.int_cell g12, Holds.bool_cell k1, Holds.str_cell k4]
  exact ⟨A, cap, rfl⟩
theorem awake_more : get tMsg.cod ((⟨#[4, 2, 0, 6, 0, 0, 0, 2, 0, 0]⟩ : ByteArray) ++ (⟨#[0]⟩ : ByteArray)).data.toList = none := by
  have h := get_more tMsg.cod awakeMsg awake_ok [0]
  rw [awake_enc] at h
  have e : ((⟨#[4, 2, 0, 6, 0, 0, 0, 2, 0, 0]⟩ : ByteArray) ++ (⟨#[0]⟩ : ByteArray)).data.toList = [4, 2, 0, 6, 0, 0, 0, 2, 0, 0] ++ [0] := by
    rw [ByteArray.data_append]
    rfl
  rw [e]
  cases hg : get tMsg.cod ([4, 2, 0, 6, 0, 0, 0, 2, 0, 0] ++ [0]) with
  | none => rfl
  | some x => rw [hg] at h; simp at h
set_option maxRecDepth 100000 in
set_option maxHeartbeats 4000000 in
theorem awake_calls (w : World) : Calls Try.prog 10 #[] w fun e w' => e = .returned (.bool true) ∧ Below w.heap.size w w' := by
  have hs : mkb (tMsg.cod.enc awakeMsg) = (⟨#[4, 2, 0, 6, 0, 0, 0, 2, 0, 0]⟩ : ByteArray) := by rw [awake_enc]; rfl
  have HS := Lib.hid hs
  clear hs
  go_enter Try.func10, Try.ntmps10
  go_wp2_with fail
  refine (Put_msg awakeMsg awakeCells (fun _ => False) _ (awake_holds _ _) awake_ok (by rw [awake_enc]; decide)).mono ?_
  rintro e w1 ⟨rfl, hb1⟩
  rw [HS.out]
  have HB1 := Lib.hid hb1
  clear hb1
  go_wp2_with fail
  refine (Get_msg _ _ (by decide)).mono ?_
  rintro e w2 ⟨hb2, hr⟩
  have HB2 := Lib.hid (below_step HB1.out hb2)
  clear hb2
  have hg : get tMsg.cod (⟨#[4, 2, 0, 6, 0, 0, 0, 2, 0, 0]⟩ : ByteArray).data.toList = some awakeMsg := by
    have := get_enc tMsg.cod awakeMsg awake_ok
    rw [awake_enc] at this
    exact this
  rcases hr with ⟨x, cs, hx, rfl, hH⟩ | ⟨hx, rfl⟩
  · rw [hg] at hx
    injection hx with hx
    subst hx
    obtain ⟨A, cap, rfl⟩ := awake_cells hH
    clear hH hg
    go_wp2_with fail
    all_goals
      refine (Get_msg _ _ (by decide)).mono ?_
      rintro e w3 ⟨hb3, hr⟩
      have HB3 := Lib.hid (below_step (HB2.out.alloc HB2.out.size _) hb3)
      have hlt : w2.heap.size < w3.heap.size := by have := hb3.size; simp at this; omega
      have hk3 := (hb3.block w2.heap.size (by simp)).trans (blk_new w2 _)
      have r3 : w3.cell? ⟨w2.heap.size, 3, none⟩ = some (.int .i64 3) := (blk_cell hk3 3).trans rfl
      have r7 : w3.cell? ⟨w2.heap.size, 7, none⟩ = some (.bool true) := (blk_cell hk3 7).trans rfl
      clear hb3 hk3
      rcases hr with ⟨x, cs, hx, rfl, hH⟩ | ⟨hx, rfl⟩
      · rw [awake_more] at hx
        cases hx
      · have hz : tMsg.zcells.toArray = #[.int .i64 0, .int .i64 0, .int .i64 0, .int .i64 0, .int .i64 0, .int .i64 0, .int .i64 0, .bool false, .slice none 0 0, .string ⟨#[]⟩] := rfl
        rw [hz]
        clear hz hx
        go_wp2_with fail
        go_ret
        exact ⟨rfl, HB3.out.alloc HB3.out.size _⟩
  · rw [hg] at hx
    cases hx
end Go.Proofs.Ytlcgkcmicklihaa.Wire
