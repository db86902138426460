/- PutRange and GetRange. -/
import Derived.Test.YtlcgkcmicklihaaGState
namespace Go.Proofs.Ytlcgkcmicklihaa.Wire
set_option linter.unusedVariables false
set_option linter.unusedSimpArgs false
open Go.RowKit Go.Proofs.YtlcgkcmicklihaaW.PrintWords Go.Proofs.YtlcgkcmicklihaaW.PrintLast Go.Proofs.YtlcgkcmicklihaaW.PrintMore
set_option maxRecDepth 100000 in
set_option maxHeartbeats 4000000 in
theorem Put_state (x : tState.T) (cs : List Value) (ok : Nat → Prop) (w : World) (hH : Holds w ok tState x cs) (hok : tState.cod.ok x) (hlen : (tState.cod.enc x).length ≤ 68719476736) :
    Calls Try.prog 17 #[.agg cs.toArray] w fun e w' => e = .returned (.string (mkb (tState.cod.enc x))) ∧ Below w.heap.size w w' := by
  have hb : Below w.heap.size w (w.alloc (.cells cs.toArray 43)) := (Below.refl _ _).alloc (Nat.le_refl _) _
  have HH := Lib.hid (hH.below hb)
  have HB := Lib.hid hb
  have HOK := Lib.hid hok
  have HL := Lib.hid hlen
  have hsz : (Try.prog.info? 43).map (·.size) = some cs.toArray.size := by
    rw [List.size_toArray, hH.len]
    kernel_rfl
  have HSZ := Lib.hid hsz
  have HK := Lib.hid (blk_new w (.cells cs.toArray 43))
  clear hH hok hlen hb hsz
  go_enter Try.func17, Try.ntmps17
  go_wp2_with ((with_reducible refine gate_load (t := 43) (p := .tmp 1) rfl ?_); refine wpList_load_whole (t := 43) rfl (.tmp 1) rfl (by rfl) Try.underlying43 HSZ.out HK.out ?_)
  refine (put_state x cs ok _ HH.out HOK.out HL.out).mono ?_
  rintro e w1 ⟨rfl, hb1⟩
  have HB1 := Lib.hid hb1
  clear hb1
  go_wp2_with fail
  go_ret
  exact ⟨rfl, below_step HB.out HB1.out⟩
set_option maxRecDepth 100000 in
set_option maxHeartbeats 8000000 in
theorem Get_state (s : ByteArray) (w : World) (hs : s.size ≤ 68719476736) :
    Calls Try.prog 18 #[.string s] w (GetPost tState s w) := by
  have e0 := blk_new w (.cells #[.slice none 0 0, .slice none 0 0, .slice none 0 0, .slice none 0 0, .int .i64 0] 43)
  have hb0 : Below w.heap.size w (w.alloc (.cells #[.slice none 0 0, .slice none 0 0, .slice none 0 0, .slice none 0 0, .int .i64 0] 43)) := (Below.refl _ _).alloc (Nat.le_refl _) _
  have hN : (w.alloc (.cells #[.slice none 0 0, .slice none 0 0, .slice none 0 0, .slice none 0 0, .int .i64 0] 43)).heap.size = w.heap.size + 1 := by simp
  have HE := Lib.hid e0
  have HB0 := Lib.hid hb0
  have HN := Lib.hid hN
  clear e0 hb0 hN
  go_enter Try.func18, Try.ntmps18
  go_wp2_with fail
  refine (get_state s _ hs).mono ?_
  rintro e w1 ⟨hb1, hr⟩
  have HRw := Lib.hid ((hb1.block w.heap.size (by rw [HN.out]; omega)).trans HE.out)
  have HB1 := Lib.hid (below_step HB0.out hb1)
  clear hb1
  rcases hr with ⟨x, cs, hg, rfl, hH⟩ | ⟨hg, rfl⟩
  · have HG := Lib.hid hg
    have hl := hH.len
    have H1A := Lib.hid (all_one hH.one)
    obtain ⟨u0, u1, u2, u3, u4, rfl⟩ : ∃ u0 u1 u2 u3 u4, cs = [u0, u1, u2, u3, u4] := by
      match cs, hl with
      | [u0, u1, u2, u3, u4], _ => exact ⟨u0, u1, u2, u3, u4, rfl⟩
    have HH := Lib.hid hH
    clear hg hH hl
    go_wp2_with (first | ((with_reducible refine gate_store (t := 43) (p := .tmp 2) (x := .tmp 6) rfl ?_); refine wpList_store_whole (t := 43) rfl (.tmp 2) (.tmp 6) rfl (g := w.heap.size) (c := #[.slice none 0 0, .slice none 0 0, .slice none 0 0, .slice none 0 0, .int .i64 0]) #[u0, u1, u2, u3, u4] (by rfl) (by rfl) (by kernel_rfl) rfl H1A.out HRw.out ?_; intro w9 hk9 hf9; have r0 : w9.cell? ⟨w.heap.size, 0, none⟩ = some (u0) := (blk_cell hk9 0).trans rfl; have r1 : w9.cell? ⟨w.heap.size, 1, none⟩ = some (u1) := (blk_cell hk9 1).trans rfl; have r2 : w9.cell? ⟨w.heap.size, 2, none⟩ = some (u2) := (blk_cell hk9 2).trans rfl; have r3 : w9.cell? ⟨w.heap.size, 3, none⟩ = some (u3) := (blk_cell hk9 3).trans rfl; have r4 : w9.cell? ⟨w.heap.size, 4, none⟩ = some (u4) := (blk_cell hk9 4).trans rfl; have HK9 := Lib.hid hk9; have HF9 := Lib.hid hf9; clear hk9 hf9))
    refine bodyPost_ret (v := .tuple #[.agg #[u0, u1, u2, u3, u4], .int .i64 0]) (by simp [results, Try.results18, go_sem, r0, r1, r2, r3, r4]) rfl ?_
    exact ⟨below_fr HB1.out HF9.out, .inl ⟨_, [u0, u1, u2, u3, u4], HG.out, rfl, (HH.out.fr HF9.out (fun k hk he => by have := HN.out; omega)).mono (fun k hk => by have := HN.out; omega)⟩⟩
  · have HG := Lib.hid hg
    clear hg
    have hz : tState.zcells.toArray = #[.slice none 0 0, .slice none 0 0, .slice none 0 0, .slice none 0 0, .int .i64 0] := rfl
    rw [hz]
    clear hz
    go_wp2_with (first | ((with_reducible refine gate_store (t := 43) (p := .tmp 2) (x := .tmp 6) rfl ?_); refine wpList_store_whole (t := 43) rfl (.tmp 2) (.tmp 6) rfl (g := w.heap.size) (c := #[.slice none 0 0, .slice none 0 0, .slice none 0 0, .slice none 0 0, .int .i64 0]) #[.slice none 0 0, .slice none 0 0, .slice none 0 0, .slice none 0 0, .int .i64 0] (by rfl) (by rfl) (by kernel_rfl) rfl (by kernel_rfl) HRw.out ?_; intro w9 hk9 hf9; have r0 : w9.cell? ⟨w.heap.size, 0, none⟩ = some (.slice none 0 0) := (blk_cell hk9 0).trans rfl; have r1 : w9.cell? ⟨w.heap.size, 1, none⟩ = some (.slice none 0 0) := (blk_cell hk9 1).trans rfl; have r2 : w9.cell? ⟨w.heap.size, 2, none⟩ = some (.slice none 0 0) := (blk_cell hk9 2).trans rfl; have r3 : w9.cell? ⟨w.heap.size, 3, none⟩ = some (.slice none 0 0) := (blk_cell hk9 3).trans rfl; have r4 : w9.cell? ⟨w.heap.size, 4, none⟩ = some (.int .i64 0) := (blk_cell hk9 4).trans rfl; have HK9 := Lib.hid hk9; have HF9 := Lib.hid hf9; clear hk9 hf9))
    refine bodyPost_ret (v := .tuple #[.agg #[.slice none 0 0, .slice none 0 0, .slice none 0 0, .slice none 0 0, .int .i64 0], .int .i64 100]) (by simp [results, Try.results18, go_sem, r0, r1, r2, r3, r4]) rfl ?_
    exact ⟨below_fr HB1.out HF9.out, .inr ⟨HG.out, rfl⟩⟩
end Go.Proofs.Ytlcgkcmicklihaa.Wire
