/- PutMsg and GetMsg. -/
import Derived.Test.YtlcgkcmicklihaaGMsg
namespace Go.Proofs.Ytlcgkcmicklihaa.Wire
set_option linter.unusedVariables false
set_option linter.unusedSimpArgs false
open Go.RowKit Go.Proofs.YtlcgkcmicklihaaW.PrintWords Go.Proofs.YtlcgkcmicklihaaW.PrintLast Go.Proofs.YtlcgkcmicklihaaW.PrintMore
set_option maxRecDepth 100000 in
set_option maxHeartbeats 4000000 in
theorem Put_msg (x : tMsg.T) (cs : List Value) (ok : Nat → Prop) (w : World) (hH : Holds w ok tMsg x cs) (hok : tMsg.cod.ok x) (hlen : (tMsg.cod.enc x).length ≤ 68719476736) :
    Calls Try.prog 11 #[.agg cs.toArray] w fun e w' => e = .returned (.string (mkb (tMsg.cod.enc x))) ∧ Below w.heap.size w w' := by
  have hb : Below w.heap.size w (w.alloc (.cells cs.toArray 24)) := (Below.refl _ _).alloc (Nat.le_refl _) _
  have HH := Lib.hid (hH.below hb)
  have HB := Lib.hid hb
  have HOK := Lib.hid hok
  have HL := Lib.hid hlen
  have hsz : (Try.prog.info? 24).map (·.size) = some cs.toArray.size := by
    rw [List.size_toArray, hH.len]
    kernel_rfl
  have HSZ := Lib.hid hsz
  have HK := Lib.hid (blk_new w (.cells cs.toArray 24))
  clear hH hok hlen hb hsz
  go_enter Try.func11, Try.ntmps11
  go_wp2_with ((with_reducible refine gate_load (t := 24) (p := .tmp 1) rfl ?_); refine wpList_load_whole (t := 24) rfl (.tmp 1) rfl (by rfl) Try.underlying24 HSZ.out HK.out ?_)
  refine (put_msg x cs ok _ HH.out HOK.out HL.out).mono ?_
  rintro e w1 ⟨rfl, hb1⟩
  have HB1 := Lib.hid hb1
  clear hb1
  go_wp2_with fail
  go_ret
  exact ⟨rfl, below_step HB.out HB1.out⟩
set_option maxRecDepth 100000 in
set_option maxHeartbeats 8000000 in
theorem Get_msg (s : ByteArray) (w : World) (hs : s.size ≤ 68719476736) :
    Calls Try.prog 12 #[.string s] w (GetPost tMsg s w) := by
  have e0 := blk_new w (.cells #[.int .i64 0, .int .i64 0, .int .i64 0, .int .i64 0, .int .i64 0, .int .i64 0, .int .i64 0, .bool false, .slice none 0 0, .string ⟨#[]⟩] 24)
  have hb0 : Below w.heap.size w (w.alloc (.cells #[.int .i64 0, .int .i64 0, .int .i64 0, .int .i64 0, .int .i64 0, .int .i64 0, .int .i64 0, .bool false, .slice none 0 0, .string ⟨#[]⟩] 24)) := (Below.refl _ _).alloc (Nat.le_refl _) _
  have hN : (w.alloc (.cells #[.int .i64 0, .int .i64 0, .int .i64 0, .int .i64 0, .int .i64 0, .int .i64 0, .int .i64 0, .bool false, .slice none 0 0, .string ⟨#[]⟩] 24)).heap.size = w.heap.size + 1 := by simp
  have HE := Lib.hid e0
  have HB0 := Lib.hid hb0
  have HN := Lib.hid hN
  clear e0 hb0 hN
  go_enter Try.func12, Try.ntmps12
  go_wp2_with fail
  refine (get_msg s _ hs).mono ?_
  rintro e w1 ⟨hb1, hr⟩
  have HRw := Lib.hid ((hb1.block w.heap.size (by rw [HN.out]; omega)).trans HE.out)
  have HB1 := Lib.hid (below_step HB0.out hb1)
  clear hb1
  rcases hr with ⟨x, cs, hg, rfl, hH⟩ | ⟨hg, rfl⟩
  · have HG := Lib.hid hg
    have hl := hH.len
    have H1A := Lib.hid (all_one hH.one)
    obtain ⟨u0, u1, u2, u3, u4, u5, u6, u7, u8, u9, rfl⟩ : ∃ u0 u1 u2 u3 u4 u5 u6 u7 u8 u9, cs = [u0, u1, u2, u3, u4, u5, u6, u7, u8, u9] := by
      match cs, hl with
      | [u0, u1, u2, u3, u4, u5, u6, u7, u8, u9], _ => exact ⟨u0, u1, u2, u3, u4, u5, u6, u7, u8, u9, rfl⟩
    have HH := Lib.hid hH
    clear hg hH hl
    go_wp2_with (first | ((with_reducible refine gate_store (t := 24) (p := .tmp 2) (x := .tmp 6) rfl ?_); refine wpList_store_whole (t := 24) rfl (.tmp 2) (.tmp 6) rfl (g := w.heap.size) (c := #[.int .i64 0, .int .i64 0, .int .i64 0, .int .i64 0, .int .i64 0, .int .i64 0, .int .i64 0, .bool false, .slice none 0 0, .string ⟨#[]⟩]) #[u0, u1, u2, u3, u4, u5, u6, u7, u8, u9] (by rfl) (by rfl) (by kernel_rfl) rfl H1A.out HRw.out ?_; intro w9 hk9 hf9; have r0 : w9.cell? ⟨w.heap.size, 0, none⟩ = some (u0) := (blk_cell hk9 0).trans rfl; have r1 : w9.cell? ⟨w.heap.size, 1, none⟩ = some (u1) := (blk_cell hk9 1).trans rfl; have r2 : w9.cell? ⟨w.heap.size, 2, none⟩ = some (u2) := (blk_cell hk9 2).trans rfl; have r3 : w9.cell? ⟨w.heap.size, 3, none⟩ = some (u3) := (blk_cell hk9 3).trans rfl; have r4 : w9.cell? ⟨w.heap.size, 4, none⟩ = some (u4) := (blk_cell hk9 4).trans rfl; have r5 : w9.cell? ⟨w.heap.size, 5, none⟩ = some (u5) := (blk_cell hk9 5).trans rfl; have r6 : w9.cell? ⟨w.heap.size, 6, none⟩ = some (u6) := (blk_cell hk9 6).trans rfl; have r7 : w9.cell? ⟨w.heap.size, 7, none⟩ = some (u7) := (blk_cell hk9 7).trans rfl; have r8 : w9.cell? ⟨w.heap.size, 8, none⟩ = some (u8) := (blk_cell hk9 8).trans rfl; have r9 : w9.cell? ⟨w.heap.size, 9, none⟩ = some (u9) := (blk_cell hk9 9).trans rfl; have HK9 := Lib.hid hk9; have HF9 := Lib.hid hf9; clear hk9 hf9))
    refine bodyPost_ret (v := .tuple #[.agg #[u0, u1, u2, u3, u4, u5, u6, u7, u8, u9], .int .i64 0]) (by simp [results, Try.results12, go_sem, r0, r1, r2, r3, r4, r5, r6, r7, r8, r9]) rfl ?_
    exact ⟨below_fr HB1.out HF9.out, .inl ⟨_, [u0, u1, u2, u3, u4, u5, u6, u7, u8, u9], HG.out, rfl, (HH.out.fr HF9.out (fun k hk he => by have := HN.out; omega)).mono (fun k hk => by have := HN.out; omega)⟩⟩
  · have HG := Lib.hid hg
    clear hg
    have hz : tMsg.zcells.toArray = #[.int .i64 0, .int .i64 0, .int .i64 0, .int .i64 0, .int .i64 0, .int .i64 0, .int .i64 0, .bool false, .slice none 0 0, .string ⟨#[]⟩] := rfl
    rw [hz]
    clear hz
    go_wp2_with (first | ((with_reducible refine gate_store (t := 24) (p := .tmp 2) (x := .tmp 6) rfl ?_); refine wpList_store_whole (t := 24) rfl (.tmp 2) (.tmp 6) rfl (g := w.heap.size) (c := #[.int .i64 0, .int .i64 0, .int .i64 0, .int .i64 0, .int .i64 0, .int .i64 0, .int .i64 0, .bool false, .slice none 0 0, .string ⟨#[]⟩]) #[.int .i64 0, .int .i64 0, .int .i64 0, .int .i64 0, .int .i64 0, .int .i64 0, .int .i64 0, .bool false, .slice none 0 0, .string ⟨#[]⟩] (by rfl) (by rfl) (by kernel_rfl) rfl (by kernel_rfl) HRw.out ?_; intro w9 hk9 hf9; have r0 : w9.cell? ⟨w.heap.size, 0, none⟩ = some (.int .i64 0) := (blk_cell hk9 0).trans rfl; have r1 : w9.cell? ⟨w.heap.size, 1, none⟩ = some (.int .i64 0) := (blk_cell hk9 1).trans rfl; have r2 : w9.cell? ⟨w.heap.size, 2, none⟩ = some (.int .i64 0) := (blk_cell hk9 2).trans rfl; have r3 : w9.cell? ⟨w.heap.size, 3, none⟩ = some (.int .i64 0) := (blk_cell hk9 3).trans rfl; have r4 : w9.cell? ⟨w.heap.size, 4, none⟩ = some (.int .i64 0) := (blk_cell hk9 4).trans rfl; have r5 : w9.cell? ⟨w.heap.size, 5, none⟩ = some (.int .i64 0) := (blk_cell hk9 5).trans rfl; have r6 : w9.cell? ⟨w.heap.size, 6, none⟩ = some (.int .i64 0) := (blk_cell hk9 6).trans rfl; have r7 : w9.cell? ⟨w.heap.size, 7, none⟩ = some (.bool false) := (blk_cell hk9 7).trans rfl; have r8 : w9.cell? ⟨w.heap.size, 8, none⟩ = some (.slice none 0 0) := (blk_cell hk9 8).trans rfl; have r9 : w9.cell? ⟨w.heap.size, 9, none⟩ = some (.string ⟨#[]⟩) := (blk_cell hk9 9).trans rfl; have HK9 := Lib.hid hk9; have HF9 := Lib.hid hf9; clear hk9 hf9))
    refine bodyPost_ret (v := .tuple #[.agg #[.int .i64 0, .int .i64 0, .int .i64 0, .int .i64 0, .int .i64 0, .int .i64 0, .int .i64 0, .bool false, .slice none 0 0, .string ⟨#[]⟩], .int .i64 100]) (by simp [results, Try.results12, go_sem, r0, r1, r2, r3, r4, r5, r6, r7, r8, r9]) rfl ?_
    exact ⟨below_fr HB1.out HF9.out, .inr ⟨HG.out, rfl⟩⟩
end Go.Proofs.Ytlcgkcmicklihaa.Wire
