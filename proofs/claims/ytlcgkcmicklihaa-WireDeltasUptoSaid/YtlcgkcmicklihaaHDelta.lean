/- PutDelta and GetDelta. -/
import Derived.Test.YtlcgkcmicklihaaPut
import Derived.Test.YtlcgkcmicklihaaMMsg
namespace Go.Proofs.Ytlcgkcmicklihaa.Wire
set_option linter.unusedVariables false
set_option linter.unusedSimpArgs false
open Go.RowKit Go.Proofs.YtlcgkcmicklihaaW.PrintWords Go.Proofs.YtlcgkcmicklihaaW.PrintLast Go.Proofs.YtlcgkcmicklihaaW.PrintMore
set_option maxRecDepth 100000 in
set_option maxHeartbeats 4000000 in
theorem put_delta (x : tDelta.T) (cs : List Value) (ok : Nat → Prop) (w : World) (hH : Holds w ok tDelta x cs) (hok : tDelta.cod.ok x) (hlen : (tDelta.cod.enc x).length ≤ 68719476736) :
    Calls Try.prog 33 #[.agg cs.toArray, .func (.func 34) #[] #[]] w fun e w' => e = .returned (.string (mkb (tDelta.cod.enc x))) ∧ Below w.heap.size w w' := by
  have HH := Lib.hid hH
  have HOK := Lib.hid hok
  have HL := Lib.hid hlen
  clear hH hok hlen
  go_enter Try.func33, Try.ntmps33
  go_wp2_with fail
  refine (codes_delta (Pre.put HH.out HOK.out HL.out) rfl).mono ?_
  rintro e w1 ⟨rfl, c', hd⟩
  obtain ⟨hb, A, n, c, h0, hcv⟩ := hd.put
  have HB := Lib.hid hb
  clear hd hb
  go_wp2_with fail
  go_ret
  exact ⟨rfl, HB.out⟩
set_option maxRecDepth 100000 in
set_option maxHeartbeats 8000000 in
theorem get_delta (s : ByteArray) (w : World) (hs : s.size ≤ 68719476736) :
    Calls Try.prog 35 #[.string s, .func (.func 34) #[] #[]] w (GetPost tDelta s w) := by
  obtain ⟨cp, W2, hcv, hsz, hbel, hcp, hct, hcl⟩ := conv_get (w.alloc (.cells #[.int .i64 0, .int .i64 0, .bool false, .int .i64 0, .int .i64 0, .string ⟨#[]⟩, .int .i64 0, .slice none 0 0] 33)) s hs
  have hN : (w.alloc (.cells #[.int .i64 0, .int .i64 0, .bool false, .int .i64 0, .int .i64 0, .string ⟨#[]⟩, .int .i64 0, .slice none 0 0] 33)).heap.size = w.heap.size + 1 := by simp
  have e0 := blk_new w (.cells #[.int .i64 0, .int .i64 0, .bool false, .int .i64 0, .int .i64 0, .string ⟨#[]⟩, .int .i64 0, .slice none 0 0] 33)
  have hb0 : Below w.heap.size w (w.alloc (.cells #[.int .i64 0, .int .i64 0, .bool false, .int .i64 0, .int .i64 0, .string ⟨#[]⟩, .int .i64 0, .slice none 0 0] 33)) := (Below.refl _ _).alloc (Nat.le_refl _) _
  rw [hN] at hsz hcv hbel
  have e1 := (hbel.block w.heap.size (by omega)).trans e0
  have hb1 := hb0.trans (hbel.mono (by omega))
  have hPre := Pre.get (t := tDelta) (T := 33) (W2 := W2) (cp := cp) (r := w.heap.size + 1) hs (by omega) hcp hct (by rw [← hN]; exact hcl)
  have HP := Lib.hid hPre
  have HB1 := Lib.hid hb1
  have HE1 := Lib.hid e1
  have HS := Lib.hid hsz
  clear hPre hbel hsz hN hcp hct hcl e0 hb0 e1 hb1
  go_enter Try.func35, Try.ntmps35
  go_wp2_with fail
  clear hcv
  refine (codes_delta HP.out rfl).mono ?_
  rintro e w1 ⟨rfl, c', hd⟩
  obtain ⟨bs, bad, hst, hbel2, ⟨r', off, cap, hR⟩, seg, hH, hB, hz⟩ := hd.get rfl (by have := HS.out; omega)
  have g0 := hR.c0
  have g2 := hR.c2
  have hl := hH.len
  have h1 := hH.one
  have hw1 : W2.heap.size + 2 < w1.heap.size := blk_lt hz
  have hres := (hbel2.block w.heap.size (by omega)).trans HE1.out
  have hbw := HB1.out.trans (hbel2.mono (by omega))
  obtain ⟨u0, u1, u2, u3, u4, u5, u6, u7, rfl⟩ : ∃ u0 u1 u2 u3 u4 u5 u6 u7, seg = [u0, u1, u2, u3, u4, u5, u6, u7] := by
    match seg, hl with
    | [u0, u1, u2, u3, u4, u5, u6, u7], _ => exact ⟨u0, u1, u2, u3, u4, u5, u6, u7, rfl⟩
  have x0 : w1.cell? ⟨W2.heap.size + 1, 0, none⟩ = some (u0) := (blk_cell hB 0).trans rfl
  have x1 : w1.cell? ⟨W2.heap.size + 1, 1, none⟩ = some (u1) := (blk_cell hB 1).trans rfl
  have x2 : w1.cell? ⟨W2.heap.size + 1, 2, none⟩ = some (u2) := (blk_cell hB 2).trans rfl
  have x3 : w1.cell? ⟨W2.heap.size + 1, 3, none⟩ = some (u3) := (blk_cell hB 3).trans rfl
  have x4 : w1.cell? ⟨W2.heap.size + 1, 4, none⟩ = some (u4) := (blk_cell hB 4).trans rfl
  have x5 : w1.cell? ⟨W2.heap.size + 1, 5, none⟩ = some (u5) := (blk_cell hB 5).trans rfl
  have x6 : w1.cell? ⟨W2.heap.size + 1, 6, none⟩ = some (u6) := (blk_cell hB 6).trans rfl
  have x7 : w1.cell? ⟨W2.heap.size + 1, 7, none⟩ = some (u7) := (blk_cell hB 7).trans rfl
  have HZw1 : Hid (w1.heap[W2.heap.size + 1 + 1]? = some (.cells #[.int .i64 0, .int .i64 0, .bool false, .int .i64 0, .int .i64 0, .string ⟨#[]⟩, .int .i64 0, .slice none 0 0] 33 (0, 0))) := Lib.hid hz
  have HKw1 : Hid (w1.heap[W2.heap.size + 1]? = some (.cells #[u0, u1, u2, u3, u4, u5, u6, u7] 33 (0, 0))) := Lib.hid hB
  have HW1 := Lib.hid hw1
  have HH := Lib.hid hH
  have HB2 := Lib.hid hbw
  have HST := Lib.hid hst
  have H1A : Hid ((#[u0, u1, u2, u3, u4, u5, u6, u7] : Array Value).all (·.oneCell') = true) := Lib.hid (all_one h1)
  have HRw1 := Lib.hid hres
  simp only [] at g0 g2
  clear hd hR hl h1 hH hB hz hbel2 hst hres hbw hw1
  by_cases hbad : bad = true ∨ bs ≠ []
  · have hn : get tDelta.cod s.data.toList = none := get_none (by rw [HST.out]; exact hbad)
    have HN := Lib.hid hn
    clear hn
    cases bad
    · obtain ⟨b0, bl, rfl⟩ : ∃ b0 bl, bs = b0 :: bl := by
        cases bs with
        | nil => exact absurd hbad (by simp)
        | cons b0 bl => exact ⟨b0, bl, rfl⟩
      have dl : decide ((0 : Int) < (bl.length : Int) + 1) = true := decide_eq_true (by omega)
      simp only [List.length_cons] at g0
      clear hbad
      go_wp2_with (first | ((with_reducible refine gate_load (t := 33) (p := .tmp 8) rfl ?_); refine wpList_load_whole (t := 33) rfl (.tmp 8) rfl (by rfl) Try.underlying33 (by kernel_rfl) HZw1.out ?_) | ((with_reducible refine gate_store (t := 33) (p := .tmp 4) (x := .tmp 35) rfl ?_); refine wpList_store_whole (t := 33) rfl (.tmp 4) (.tmp 35) rfl (g := w.heap.size) (c := #[.int .i64 0, .int .i64 0, .bool false, .int .i64 0, .int .i64 0, .string ⟨#[]⟩, .int .i64 0, .slice none 0 0]) #[.int .i64 0, .int .i64 0, .bool false, .int .i64 0, .int .i64 0, .string ⟨#[]⟩, .int .i64 0, .slice none 0 0] (by rfl) (by rfl) (by kernel_rfl) rfl (by kernel_rfl) HRw1.out ?_; intro w9 hk9 hf9; have r0 : w9.cell? ⟨w.heap.size, 0, none⟩ = some (.int .i64 0) := (blk_cell hk9 0).trans rfl; have r1 : w9.cell? ⟨w.heap.size, 1, none⟩ = some (.int .i64 0) := (blk_cell hk9 1).trans rfl; have r2 : w9.cell? ⟨w.heap.size, 2, none⟩ = some (.bool false) := (blk_cell hk9 2).trans rfl; have r3 : w9.cell? ⟨w.heap.size, 3, none⟩ = some (.int .i64 0) := (blk_cell hk9 3).trans rfl; have r4 : w9.cell? ⟨w.heap.size, 4, none⟩ = some (.int .i64 0) := (blk_cell hk9 4).trans rfl; have r5 : w9.cell? ⟨w.heap.size, 5, none⟩ = some (.string ⟨#[]⟩) := (blk_cell hk9 5).trans rfl; have r6 : w9.cell? ⟨w.heap.size, 6, none⟩ = some (.int .i64 0) := (blk_cell hk9 6).trans rfl; have r7 : w9.cell? ⟨w.heap.size, 7, none⟩ = some (.slice none 0 0) := (blk_cell hk9 7).trans rfl; have HK9 := Lib.hid hk9; have HF9 := Lib.hid hf9; clear hk9 hf9))
      refine bodyPost_ret (v := .tuple #[.agg #[.int .i64 0, .int .i64 0, .bool false, .int .i64 0, .int .i64 0, .string ⟨#[]⟩, .int .i64 0, .slice none 0 0], .int .i64 100]) (by simp [results, Try.results35, go_sem, r0, r1, r2, r3, r4, r5, r6, r7]) rfl ?_
      exact ⟨below_fr HB2.out HF9.out, .inr ⟨HN.out, rfl⟩⟩
    · clear hbad
      go_wp2_with (first | ((with_reducible refine gate_load (t := 33) (p := .tmp 8) rfl ?_); refine wpList_load_whole (t := 33) rfl (.tmp 8) rfl (by rfl) Try.underlying33 (by kernel_rfl) HZw1.out ?_) | ((with_reducible refine gate_store (t := 33) (p := .tmp 4) (x := .tmp 35) rfl ?_); refine wpList_store_whole (t := 33) rfl (.tmp 4) (.tmp 35) rfl (g := w.heap.size) (c := #[.int .i64 0, .int .i64 0, .bool false, .int .i64 0, .int .i64 0, .string ⟨#[]⟩, .int .i64 0, .slice none 0 0]) #[.int .i64 0, .int .i64 0, .bool false, .int .i64 0, .int .i64 0, .string ⟨#[]⟩, .int .i64 0, .slice none 0 0] (by rfl) (by rfl) (by kernel_rfl) rfl (by kernel_rfl) HRw1.out ?_; intro w9 hk9 hf9; have r0 : w9.cell? ⟨w.heap.size, 0, none⟩ = some (.int .i64 0) := (blk_cell hk9 0).trans rfl; have r1 : w9.cell? ⟨w.heap.size, 1, none⟩ = some (.int .i64 0) := (blk_cell hk9 1).trans rfl; have r2 : w9.cell? ⟨w.heap.size, 2, none⟩ = some (.bool false) := (blk_cell hk9 2).trans rfl; have r3 : w9.cell? ⟨w.heap.size, 3, none⟩ = some (.int .i64 0) := (blk_cell hk9 3).trans rfl; have r4 : w9.cell? ⟨w.heap.size, 4, none⟩ = some (.int .i64 0) := (blk_cell hk9 4).trans rfl; have r5 : w9.cell? ⟨w.heap.size, 5, none⟩ = some (.string ⟨#[]⟩) := (blk_cell hk9 5).trans rfl; have r6 : w9.cell? ⟨w.heap.size, 6, none⟩ = some (.int .i64 0) := (blk_cell hk9 6).trans rfl; have r7 : w9.cell? ⟨w.heap.size, 7, none⟩ = some (.slice none 0 0) := (blk_cell hk9 7).trans rfl; have HK9 := Lib.hid hk9; have HF9 := Lib.hid hf9; clear hk9 hf9))
      refine bodyPost_ret (v := .tuple #[.agg #[.int .i64 0, .int .i64 0, .bool false, .int .i64 0, .int .i64 0, .string ⟨#[]⟩, .int .i64 0, .slice none 0 0], .int .i64 100]) (by simp [results, Try.results35, go_sem, r0, r1, r2, r3, r4, r5, r6, r7]) rfl ?_
      exact ⟨below_fr HB2.out HF9.out, .inr ⟨HN.out, rfl⟩⟩
  · simp only [not_or, Bool.not_eq_true, Classical.not_not] at hbad
    obtain ⟨rfl, rfl⟩ := hbad
    have hsh := tDelta.short ⟨s.data.toList, false⟩ (by rw [HST.out])
    rw [HST.out] at hsh
    have hel : (tDelta.cod.enc (tDelta.cod.dec ⟨s.data.toList, false⟩).1).length ≤ 68719476736 := by
      have h2 := hsh.1
      have h3 : s.data.toList.length = s.size := by simp
      simp only [] at h2
      omega
    have h3 : s.data.toList.length = s.size := by simp
    have hso := tDelta.cod.sound ⟨s.data.toList, false⟩ (by show s.data.toList.length ≤ top; rw [h3]; exact Nat.le_trans hs (by decide))
    clear h3
    have HEL := Lib.hid hel
    have HSO := Lib.hid hso
    clear hsh hel hso
    by_cases henc : tDelta.cod.enc (tDelta.cod.dec ⟨s.data.toList, false⟩).1 = s.data.toList
    · have HG := Lib.hid (get_same HST.out henc)
      have hms : mkb (tDelta.cod.enc (tDelta.cod.dec ⟨s.data.toList, false⟩).1) = s := by rw [henc, mkb_self]
      have HMS := Lib.hid hms
      clear henc hms
      go_wp2_with fail
      refine (put_delta _ [u0, u1, u2, u3, u4, u5, u6, u7] _ _ HH.out HSO.out HEL.out).mono ?_
      rintro e w3 ⟨rfl, hb3⟩
      rw [HMS.out]
      have HB3 := Lib.hid hb3
      have HKw3 := Lib.hid ((hb3.block (W2.heap.size + 1) (by have := HW1.out; omega)).trans HKw1.out)
      have HRw3 := Lib.hid ((hb3.block w.heap.size (by have := HS.out; have := HW1.out; omega)).trans HRw1.out)
      clear hb3
      go_wp2_with (first | ((with_reducible refine gate_load (t := 33) (p := .tmp 7) rfl ?_); refine wpList_load_whole (t := 33) rfl (.tmp 7) rfl (by rfl) Try.underlying33 (by kernel_rfl) HKw3.out ?_) | ((with_reducible refine gate_store (t := 33) (p := .tmp 4) (x := .tmp 36) rfl ?_); refine wpList_store_whole (t := 33) rfl (.tmp 4) (.tmp 36) rfl (g := w.heap.size) (c := #[.int .i64 0, .int .i64 0, .bool false, .int .i64 0, .int .i64 0, .string ⟨#[]⟩, .int .i64 0, .slice none 0 0]) #[u0, u1, u2, u3, u4, u5, u6, u7] (by rfl) (by rfl) (by kernel_rfl) rfl H1A.out HRw3.out ?_; intro w9 hk9 hf9; have r0 : w9.cell? ⟨w.heap.size, 0, none⟩ = some (u0) := (blk_cell hk9 0).trans rfl; have r1 : w9.cell? ⟨w.heap.size, 1, none⟩ = some (u1) := (blk_cell hk9 1).trans rfl; have r2 : w9.cell? ⟨w.heap.size, 2, none⟩ = some (u2) := (blk_cell hk9 2).trans rfl; have r3 : w9.cell? ⟨w.heap.size, 3, none⟩ = some (u3) := (blk_cell hk9 3).trans rfl; have r4 : w9.cell? ⟨w.heap.size, 4, none⟩ = some (u4) := (blk_cell hk9 4).trans rfl; have r5 : w9.cell? ⟨w.heap.size, 5, none⟩ = some (u5) := (blk_cell hk9 5).trans rfl; have r6 : w9.cell? ⟨w.heap.size, 6, none⟩ = some (u6) := (blk_cell hk9 6).trans rfl; have r7 : w9.cell? ⟨w.heap.size, 7, none⟩ = some (u7) := (blk_cell hk9 7).trans rfl; have HK9 := Lib.hid hk9; have HF9 := Lib.hid hf9; clear hk9 hf9))
      refine bodyPost_ret (v := .tuple #[.agg #[u0, u1, u2, u3, u4, u5, u6, u7], .int .i64 0]) (by simp [results, Try.results35, go_sem, r0, r1, r2, r3, r4, r5, r6, r7]) rfl ?_
      exact ⟨below_fr (below_then HB2.out (by have := HS.out; have := HW1.out; omega) HB3.out) HF9.out, .inl ⟨_, [u0, u1, u2, u3, u4, u5, u6, u7], HG.out, rfl, ((HH.out.below HB3.out).fr HF9.out (fun k hk he => by have := HS.out; omega)).mono (fun k hk => by have := HS.out; omega)⟩⟩
    · have HG := Lib.hid (get_other HST.out henc)
      have hms : ¬ mkb (tDelta.cod.enc (tDelta.cod.dec ⟨s.data.toList, false⟩).1) = s := mkb_ne henc
      obtain ⟨other, hot⟩ : ∃ o, mkb (tDelta.cod.enc (tDelta.cod.dec ⟨s.data.toList, false⟩).1) = o := ⟨_, rfl⟩
      rw [hot] at hms
      have hq1 := str_ne hms
      have HOT := Lib.hid hot
      clear henc hot
      go_wp2_with fail
      refine (put_delta _ [u0, u1, u2, u3, u4, u5, u6, u7] _ _ HH.out HSO.out HEL.out).mono ?_
      rintro e w3 ⟨rfl, hb3⟩
      rw [HOT.out]
      have HB3 := Lib.hid hb3
      have HZw3 := Lib.hid ((hb3.block (W2.heap.size + 1 + 1) (by have := HW1.out; omega)).trans HZw1.out)
      have HRw3 := Lib.hid ((hb3.block w.heap.size (by have := HS.out; have := HW1.out; omega)).trans HRw1.out)
      clear hb3
      go_wp2_with (first | ((with_reducible refine gate_load (t := 33) (p := .tmp 8) rfl ?_); refine wpList_load_whole (t := 33) rfl (.tmp 8) rfl (by rfl) Try.underlying33 (by kernel_rfl) HZw3.out ?_) | ((with_reducible refine gate_store (t := 33) (p := .tmp 4) (x := .tmp 35) rfl ?_); refine wpList_store_whole (t := 33) rfl (.tmp 4) (.tmp 35) rfl (g := w.heap.size) (c := #[.int .i64 0, .int .i64 0, .bool false, .int .i64 0, .int .i64 0, .string ⟨#[]⟩, .int .i64 0, .slice none 0 0]) #[.int .i64 0, .int .i64 0, .bool false, .int .i64 0, .int .i64 0, .string ⟨#[]⟩, .int .i64 0, .slice none 0 0] (by rfl) (by rfl) (by kernel_rfl) rfl (by kernel_rfl) HRw3.out ?_; intro w9 hk9 hf9; have r0 : w9.cell? ⟨w.heap.size, 0, none⟩ = some (.int .i64 0) := (blk_cell hk9 0).trans rfl; have r1 : w9.cell? ⟨w.heap.size, 1, none⟩ = some (.int .i64 0) := (blk_cell hk9 1).trans rfl; have r2 : w9.cell? ⟨w.heap.size, 2, none⟩ = some (.bool false) := (blk_cell hk9 2).trans rfl; have r3 : w9.cell? ⟨w.heap.size, 3, none⟩ = some (.int .i64 0) := (blk_cell hk9 3).trans rfl; have r4 : w9.cell? ⟨w.heap.size, 4, none⟩ = some (.int .i64 0) := (blk_cell hk9 4).trans rfl; have r5 : w9.cell? ⟨w.heap.size, 5, none⟩ = some (.string ⟨#[]⟩) := (blk_cell hk9 5).trans rfl; have r6 : w9.cell? ⟨w.heap.size, 6, none⟩ = some (.int .i64 0) := (blk_cell hk9 6).trans rfl; have r7 : w9.cell? ⟨w.heap.size, 7, none⟩ = some (.slice none 0 0) := (blk_cell hk9 7).trans rfl; have HK9 := Lib.hid hk9; have HF9 := Lib.hid hf9; clear hk9 hf9))
      refine bodyPost_ret (v := .tuple #[.agg #[.int .i64 0, .int .i64 0, .bool false, .int .i64 0, .int .i64 0, .string ⟨#[]⟩, .int .i64 0, .slice none 0 0], .int .i64 100]) (by simp [results, Try.results35, go_sem, r0, r1, r2, r3, r4, r5, r6, r7]) rfl ?_
      exact ⟨below_fr (below_then HB2.out (by have := HS.out; have := HW1.out; omega) HB3.out) HF9.out, .inr ⟨HG.out, rfl⟩⟩
end Go.Proofs.Ytlcgkcmicklihaa.Wire
namespace Go.Proofs.Ytlcgkcmicklihaa.Wire
set_option linter.unusedVariables false
set_option linter.unusedSimpArgs false
open Go.RowKit Go.Proofs.YtlcgkcmicklihaaW.PrintWords Go.Proofs.YtlcgkcmicklihaaW.PrintLast Go.Proofs.YtlcgkcmicklihaaW.PrintMore
set_option maxRecDepth 100000 in
set_option maxHeartbeats 4000000 in
theorem Put_delta (x : tDelta.T) (cs : List Value) (ok : Nat → Prop) (w : World) (hH : Holds w ok tDelta x cs) (hok : tDelta.cod.ok x) (hlen : (tDelta.cod.enc x).length ≤ 68719476736) :
    Calls Try.prog 14 #[.agg cs.toArray] w fun e w' => e = .returned (.string (mkb (tDelta.cod.enc x))) ∧ Below w.heap.size w w' := by
  have hb : Below w.heap.size w (w.alloc (.cells cs.toArray 33)) := (Below.refl _ _).alloc (Nat.le_refl _) _
  have HH := Lib.hid (hH.below hb)
  have HB := Lib.hid hb
  have HOK := Lib.hid hok
  have HL := Lib.hid hlen
  have hsz : (Try.prog.info? 33).map (·.size) = some cs.toArray.size := by
    rw [List.size_toArray, hH.len]
    kernel_rfl
  have HSZ := Lib.hid hsz
  have HK := Lib.hid (blk_new w (.cells cs.toArray 33))
  clear hH hok hlen hb hsz
  go_enter Try.func14, Try.ntmps14
  go_wp2_with ((with_reducible refine gate_load (t := 33) (p := .tmp 1) rfl ?_); refine wpList_load_whole (t := 33) rfl (.tmp 1) rfl (by rfl) Try.underlying33 HSZ.out HK.out ?_)
  refine (put_delta x cs ok _ HH.out HOK.out HL.out).mono ?_
  rintro e w1 ⟨rfl, hb1⟩
  have HB1 := Lib.hid hb1
  clear hb1
  go_wp2_with fail
  go_ret
  exact ⟨rfl, below_step HB.out HB1.out⟩
set_option maxRecDepth 100000 in
set_option maxHeartbeats 8000000 in
theorem Get_delta (s : ByteArray) (w : World) (hs : s.size ≤ 68719476736) :
    Calls Try.prog 15 #[.string s] w (GetPost tDelta s w) := by
  have e0 := blk_new w (.cells #[.int .i64 0, .int .i64 0, .bool false, .int .i64 0, .int .i64 0, .string ⟨#[]⟩, .int .i64 0, .slice none 0 0] 33)
  have hb0 : Below w.heap.size w (w.alloc (.cells #[.int .i64 0, .int .i64 0, .bool false, .int .i64 0, .int .i64 0, .string ⟨#[]⟩, .int .i64 0, .slice none 0 0] 33)) := (Below.refl _ _).alloc (Nat.le_refl _) _
  have hN : (w.alloc (.cells #[.int .i64 0, .int .i64 0, .bool false, .int .i64 0, .int .i64 0, .string ⟨#[]⟩, .int .i64 0, .slice none 0 0] 33)).heap.size = w.heap.size + 1 := by simp
  have HE := Lib.hid e0
  have HB0 := Lib.hid hb0
  have HN := Lib.hid hN
  clear e0 hb0 hN
  go_enter Try.func15, Try.ntmps15
  go_wp2_with fail
  refine (get_delta s _ hs).mono ?_
  rintro e w1 ⟨hb1, hr⟩
  have HRw := Lib.hid ((hb1.block w.heap.size (by rw [HN.out]; omega)).trans HE.out)
  have HB1 := Lib.hid (below_step HB0.out hb1)
  clear hb1
  rcases hr with ⟨x, cs, hg, rfl, hH⟩ | ⟨hg, rfl⟩
  · have HG := Lib.hid hg
    have hl := hH.len
    have H1A := Lib.hid (all_one hH.one)
    obtain ⟨u0, u1, u2, u3, u4, u5, u6, u7, rfl⟩ : ∃ u0 u1 u2 u3 u4 u5 u6 u7, cs = [u0, u1, u2, u3, u4, u5, u6, u7] := by
      match cs, hl with
      | [u0, u1, u2, u3, u4, u5, u6, u7], _ => exact ⟨u0, u1, u2, u3, u4, u5, u6, u7, rfl⟩
    have HH := Lib.hid hH
    clear hg hH hl
    go_wp2_with (first | ((with_reducible refine gate_store (t := 33) (p := .tmp 2) (x := .tmp 6) rfl ?_); refine wpList_store_whole (t := 33) rfl (.tmp 2) (.tmp 6) rfl (g := w.heap.size) (c := #[.int .i64 0, .int .i64 0, .bool false, .int .i64 0, .int .i64 0, .string ⟨#[]⟩, .int .i64 0, .slice none 0 0]) #[u0, u1, u2, u3, u4, u5, u6, u7] (by rfl) (by rfl) (by kernel_rfl) rfl H1A.out HRw.out ?_; intro w9 hk9 hf9; have r0 : w9.cell? ⟨w.heap.size, 0, none⟩ = some (u0) := (blk_cell hk9 0).trans rfl; have r1 : w9.cell? ⟨w.heap.size, 1, none⟩ = some (u1) := (blk_cell hk9 1).trans rfl; have r2 : w9.cell? ⟨w.heap.size, 2, none⟩ = some (u2) := (blk_cell hk9 2).trans rfl; have r3 : w9.cell? ⟨w.heap.size, 3, none⟩ = some (u3) := (blk_cell hk9 3).trans rfl; have r4 : w9.cell? ⟨w.heap.size, 4, none⟩ = some (u4) := (blk_cell hk9 4).trans rfl; have r5 : w9.cell? ⟨w.heap.size, 5, none⟩ = some (u5) := (blk_cell hk9 5).trans rfl; have r6 : w9.cell? ⟨w.heap.size, 6, none⟩ = some (u6) := (blk_cell hk9 6).trans rfl; have r7 : w9.cell? ⟨w.heap.size, 7, none⟩ = some (u7) := (blk_cell hk9 7).trans rfl; have HK9 := Lib.hid hk9; have HF9 := Lib.hid hf9; clear hk9 hf9))
    refine bodyPost_ret (v := .tuple #[.agg #[u0, u1, u2, u3, u4, u5, u6, u7], .int .i64 0]) (by simp [results, Try.results15, go_sem, r0, r1, r2, r3, r4, r5, r6, r7]) rfl ?_
    exact ⟨below_fr HB1.out HF9.out, .inl ⟨_, [u0, u1, u2, u3, u4, u5, u6, u7], HG.out, rfl, (HH.out.fr HF9.out (fun k hk he => by have := HN.out; omega)).mono (fun k hk => by have := HN.out; omega)⟩⟩
  · have HG := Lib.hid hg
    clear hg
    have hz : tDelta.zcells.toArray = #[.int .i64 0, .int .i64 0, .bool false, .int .i64 0, .int .i64 0, .string ⟨#[]⟩, .int .i64 0, .slice none 0 0] := rfl
    rw [hz]
    clear hz
    go_wp2_with (first | ((with_reducible refine gate_store (t := 33) (p := .tmp 2) (x := .tmp 6) rfl ?_); refine wpList_store_whole (t := 33) rfl (.tmp 2) (.tmp 6) rfl (g := w.heap.size) (c := #[.int .i64 0, .int .i64 0, .bool false, .int .i64 0, .int .i64 0, .string ⟨#[]⟩, .int .i64 0, .slice none 0 0]) #[.int .i64 0, .int .i64 0, .bool false, .int .i64 0, .int .i64 0, .string ⟨#[]⟩, .int .i64 0, .slice none 0 0] (by rfl) (by rfl) (by kernel_rfl) rfl (by kernel_rfl) HRw.out ?_; intro w9 hk9 hf9; have r0 : w9.cell? ⟨w.heap.size, 0, none⟩ = some (.int .i64 0) := (blk_cell hk9 0).trans rfl; have r1 : w9.cell? ⟨w.heap.size, 1, none⟩ = some (.int .i64 0) := (blk_cell hk9 1).trans rfl; have r2 : w9.cell? ⟨w.heap.size, 2, none⟩ = some (.bool false) := (blk_cell hk9 2).trans rfl; have r3 : w9.cell? ⟨w.heap.size, 3, none⟩ = some (.int .i64 0) := (blk_cell hk9 3).trans rfl; have r4 : w9.cell? ⟨w.heap.size, 4, none⟩ = some (.int .i64 0) := (blk_cell hk9 4).trans rfl; have r5 : w9.cell? ⟨w.heap.size, 5, none⟩ = some (.string ⟨#[]⟩) := (blk_cell hk9 5).trans rfl; have r6 : w9.cell? ⟨w.heap.size, 6, none⟩ = some (.int .i64 0) := (blk_cell hk9 6).trans rfl; have r7 : w9.cell? ⟨w.heap.size, 7, none⟩ = some (.slice none 0 0) := (blk_cell hk9 7).trans rfl; have HK9 := Lib.hid hk9; have HF9 := Lib.hid hf9; clear hk9 hf9))
    refine bodyPost_ret (v := .tuple #[.agg #[.int .i64 0, .int .i64 0, .bool false, .int .i64 0, .int .i64 0, .string ⟨#[]⟩, .int .i64 0, .slice none 0 0], .int .i64 100]) (by simp [results, Try.results15, go_sem, r0, r1, r2, r3, r4, r5, r6, r7]) rfl ?_
    exact ⟨below_fr HB1.out HF9.out, .inr ⟨HG.out, rfl⟩⟩
end Go.Proofs.Ytlcgkcmicklihaa.Wire
