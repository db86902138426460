/- PutCommand and GetCommand. -/
import Derived.Test.YtlcgkcmicklihaaGCmd
namespace Go.Proofs.Ytlcgkcmicklihaa.Wire
set_option linter.unusedVariables false
set_option linter.unusedSimpArgs false
open Go.RowKit Go.Proofs.YtlcgkcmicklihaaW.PrintWords Go.Proofs.YtlcgkcmicklihaaW.PrintLast Go.Proofs.YtlcgkcmicklihaaW.PrintMore
set_option maxRecDepth 100000 in
set_option maxHeartbeats 4000000 in
theorem Put_command (x : tCommand.T) (cs : List Value) (ok : Nat → Prop) (w : World) (hH : Holds w ok tCommand x cs) (hok : tCommand.cod.ok x) (hlen : (tCommand.cod.enc x).length ≤ 68719476736) :
    Calls Try.prog 20 #[.agg cs.toArray] w fun e w' => e = .returned (.string (mkb (tCommand.cod.enc x))) ∧ Below w.heap.size w w' := by
  have hb : Below w.heap.size w (w.alloc (.cells cs.toArray 64)) := (Below.refl _ _).alloc (Nat.le_refl _) _
  have HH := Lib.hid (hH.below hb)
  have HB := Lib.hid hb
  have HOK := Lib.hid hok
  have HL := Lib.hid hlen
  have hsz : (Try.prog.info? 64).map (·.size) = some cs.toArray.size := by
    rw [List.size_toArray, hH.len]
    kernel_rfl
  have HSZ := Lib.hid hsz
  have HK := Lib.hid (blk_new w (.cells cs.toArray 64))
  clear hH hok hlen hb hsz
  go_enter Try.func20, Try.ntmps20
  go_wp2_with ((with_reducible refine gate_load (t := 64) (p := .tmp 1) rfl ?_); refine wpList_load_whole (t := 64) rfl (.tmp 1) rfl (by rfl) Try.underlying64 HSZ.out HK.out ?_)
  refine (put_command x cs ok _ HH.out HOK.out HL.out).mono ?_
  rintro e w1 ⟨rfl, hb1⟩
  have HB1 := Lib.hid hb1
  clear hb1
  go_wp2_with fail
  go_ret
  exact ⟨rfl, below_step HB.out HB1.out⟩
set_option maxRecDepth 100000 in
set_option maxHeartbeats 8000000 in
theorem Get_command (s : ByteArray) (w : World) (hs : s.size ≤ 68719476736) :
    Calls Try.prog 21 #[.string s] w (GetPost tCommand s w) := by
  have e0 := blk_new w (.cells #[.int .i64 0, .int .i64 0, .int .i64 0, .int .i64 0, .int .i64 0, .int .i64 0, .int .i64 0, .int .i64 0, .slice none 0 0, .slice none 0 0, .int .i64 0, .int .i64 0, .int .i64 0, .int .i64 0, .int .i64 0, .int .i64 0, .string ⟨#[]⟩, .string ⟨#[]⟩, .string ⟨#[]⟩, .string ⟨#[]⟩, .bool false, .int .i64 0, .int .i64 0, .int .i64 0, .string ⟨#[]⟩, .slice none 0 0, .int .i64 0, .int .i64 0, .string ⟨#[]⟩, .int .i64 0] 64)
  have hb0 : Below w.heap.size w (w.alloc (.cells #[.int .i64 0, .int .i64 0, .int .i64 0, .int .i64 0, .int .i64 0, .int .i64 0, .int .i64 0, .int .i64 0, .slice none 0 0, .slice none 0 0, .int .i64 0, .int .i64 0, .int .i64 0, .int .i64 0, .int .i64 0, .int .i64 0, .string ⟨#[]⟩, .string ⟨#[]⟩, .string ⟨#[]⟩, .string ⟨#[]⟩, .bool false, .int .i64 0, .int .i64 0, .int .i64 0, .string ⟨#[]⟩, .slice none 0 0, .int .i64 0, .int .i64 0, .string ⟨#[]⟩, .int .i64 0] 64)) := (Below.refl _ _).alloc (Nat.le_refl _) _
  have hN : (w.alloc (.cells #[.int .i64 0, .int .i64 0, .int .i64 0, .int .i64 0, .int .i64 0, .int .i64 0, .int .i64 0, .int .i64 0, .slice none 0 0, .slice none 0 0, .int .i64 0, .int .i64 0, .int .i64 0, .int .i64 0, .int .i64 0, .int .i64 0, .string ⟨#[]⟩, .string ⟨#[]⟩, .string ⟨#[]⟩, .string ⟨#[]⟩, .bool false, .int .i64 0, .int .i64 0, .int .i64 0, .string ⟨#[]⟩, .slice none 0 0, .int .i64 0, .int .i64 0, .string ⟨#[]⟩, .int .i64 0] 64)).heap.size = w.heap.size + 1 := by simp
  have HE := Lib.hid e0
  have HB0 := Lib.hid hb0
  have HN := Lib.hid hN
  clear e0 hb0 hN
  go_enter Try.func21, Try.ntmps21
  go_wp2_with fail
  refine (get_command s _ hs).mono ?_
  rintro e w1 ⟨hb1, hr⟩
  have HRw := Lib.hid ((hb1.block w.heap.size (by rw [HN.out]; omega)).trans HE.out)
  have HB1 := Lib.hid (below_step HB0.out hb1)
  clear hb1
  rcases hr with ⟨x, cs, hg, rfl, hH⟩ | ⟨hg, rfl⟩
  · have HG := Lib.hid hg
    have hl := hH.len
    have H1A := Lib.hid (all_one hH.one)
    obtain ⟨u0, u1, u2, u3, u4, u5, u6, u7, u8, u9, u10, u11, u12, u13, u14, u15, u16, u17, u18, u19, u20, u21, u22, u23, u24, u25, u26, u27, u28, u29, rfl⟩ : ∃ u0 u1 u2 u3 u4 u5 u6 u7 u8 u9 u10 u11 u12 u13 u14 u15 u16 u17 u18 u19 u20 u21 u22 u23 u24 u25 u26 u27 u28 u29, cs = [u0, u1, u2, u3, u4, u5, u6, u7, u8, u9, u10, u11, u12, u13, u14, u15, u16, u17, u18, u19, u20, u21, u22, u23, u24, u25, u26, u27, u28, u29] := by
      match cs, hl with
      | [u0, u1, u2, u3, u4, u5, u6, u7, u8, u9, u10, u11, u12, u13, u14, u15, u16, u17, u18, u19, u20, u21, u22, u23, u24, u25, u26, u27, u28, u29], _ => exact ⟨u0, u1, u2, u3, u4, u5, u6, u7, u8, u9, u10, u11, u12, u13, u14, u15, u16, u17, u18, u19, u20, u21, u22, u23, u24, u25, u26, u27, u28, u29, rfl⟩
    have HH := Lib.hid hH
    clear hg hH hl
    go_wp2_with (first | ((with_reducible refine gate_store (t := 64) (p := .tmp 2) (x := .tmp 6) rfl ?_); refine wpList_store_whole (t := 64) rfl (.tmp 2) (.tmp 6) rfl (g := w.heap.size) (c := #[.int .i64 0, .int .i64 0, .int .i64 0, .int .i64 0, .int .i64 0, .int .i64 0, .int .i64 0, .int .i64 0, .slice none 0 0, .slice none 0 0, .int .i64 0, .int .i64 0, .int .i64 0, .int .i64 0, .int .i64 0, .int .i64 0, .string ⟨#[]⟩, .string ⟨#[]⟩, .string ⟨#[]⟩, .string ⟨#[]⟩, .bool false, .int .i64 0, .int .i64 0, .int .i64 0, .string ⟨#[]⟩, .slice none 0 0, .int .i64 0, .int .i64 0, .string ⟨#[]⟩, .int .i64 0]) #[u0, u1, u2, u3, u4, u5, u6, u7, u8, u9, u10, u11, u12, u13, u14, u15, u16, u17, u18, u19, u20, u21, u22, u23, u24, u25, u26, u27, u28, u29] (by rfl) (by rfl) (by kernel_rfl) rfl H1A.out HRw.out ?_; intro w9 hk9 hf9; skip; have HK9 := Lib.hid hk9; have HF9 := Lib.hid hf9; clear hk9 hf9))
    refine bodyPost_ret (v := .tuple #[.agg #[u0, u1, u2, u3, u4, u5, u6, u7, u8, u9, u10, u11, u12, u13, u14, u15, u16, u17, u18, u19, u20, u21, u22, u23, u24, u25, u26, u27, u28, u29], .int .i64 0]) (results_cell_tmp (t := 64) (cs := #[u0, u1, u2, u3, u4, u5, u6, u7, u8, u9, u10, u11, u12, u13, u14, u15, u16, u17, u18, u19, u20, u21, u22, u23, u24, u25, u26, u27, u28, u29]) Try.results21 _ _ w.heap.size _ (by rfl) HK9.out Try.underlying64 rfl (by kernel_rfl) (by rfl)) rfl ?_
    exact ⟨below_fr HB1.out HF9.out, .inl ⟨_, [u0, u1, u2, u3, u4, u5, u6, u7, u8, u9, u10, u11, u12, u13, u14, u15, u16, u17, u18, u19, u20, u21, u22, u23, u24, u25, u26, u27, u28, u29], HG.out, rfl, (HH.out.fr HF9.out (fun k hk he => by have := HN.out; omega)).mono (fun k hk => by have := HN.out; omega)⟩⟩
  · have HG := Lib.hid hg
    clear hg
    have hz : tCommand.zcells.toArray = #[.int .i64 0, .int .i64 0, .int .i64 0, .int .i64 0, .int .i64 0, .int .i64 0, .int .i64 0, .int .i64 0, .slice none 0 0, .slice none 0 0, .int .i64 0, .int .i64 0, .int .i64 0, .int .i64 0, .int .i64 0, .int .i64 0, .string ⟨#[]⟩, .string ⟨#[]⟩, .string ⟨#[]⟩, .string ⟨#[]⟩, .bool false, .int .i64 0, .int .i64 0, .int .i64 0, .string ⟨#[]⟩, .slice none 0 0, .int .i64 0, .int .i64 0, .string ⟨#[]⟩, .int .i64 0] := rfl
    rw [hz]
    clear hz
    go_wp2_with (first | ((with_reducible refine gate_store (t := 64) (p := .tmp 2) (x := .tmp 6) rfl ?_); refine wpList_store_whole (t := 64) rfl (.tmp 2) (.tmp 6) rfl (g := w.heap.size) (c := #[.int .i64 0, .int .i64 0, .int .i64 0, .int .i64 0, .int .i64 0, .int .i64 0, .int .i64 0, .int .i64 0, .slice none 0 0, .slice none 0 0, .int .i64 0, .int .i64 0, .int .i64 0, .int .i64 0, .int .i64 0, .int .i64 0, .string ⟨#[]⟩, .string ⟨#[]⟩, .string ⟨#[]⟩, .string ⟨#[]⟩, .bool false, .int .i64 0, .int .i64 0, .int .i64 0, .string ⟨#[]⟩, .slice none 0 0, .int .i64 0, .int .i64 0, .string ⟨#[]⟩, .int .i64 0]) #[.int .i64 0, .int .i64 0, .int .i64 0, .int .i64 0, .int .i64 0, .int .i64 0, .int .i64 0, .int .i64 0, .slice none 0 0, .slice none 0 0, .int .i64 0, .int .i64 0, .int .i64 0, .int .i64 0, .int .i64 0, .int .i64 0, .string ⟨#[]⟩, .string ⟨#[]⟩, .string ⟨#[]⟩, .string ⟨#[]⟩, .bool false, .int .i64 0, .int .i64 0, .int .i64 0, .string ⟨#[]⟩, .slice none 0 0, .int .i64 0, .int .i64 0, .string ⟨#[]⟩, .int .i64 0] (by rfl) (by rfl) (by kernel_rfl) rfl (by kernel_rfl) HRw.out ?_; intro w9 hk9 hf9; skip; have HK9 := Lib.hid hk9; have HF9 := Lib.hid hf9; clear hk9 hf9))
    refine bodyPost_ret (v := .tuple #[.agg #[.int .i64 0, .int .i64 0, .int .i64 0, .int .i64 0, .int .i64 0, .int .i64 0, .int .i64 0, .int .i64 0, .slice none 0 0, .slice none 0 0, .int .i64 0, .int .i64 0, .int .i64 0, .int .i64 0, .int .i64 0, .int .i64 0, .string ⟨#[]⟩, .string ⟨#[]⟩, .string ⟨#[]⟩, .string ⟨#[]⟩, .bool false, .int .i64 0, .int .i64 0, .int .i64 0, .string ⟨#[]⟩, .slice none 0 0, .int .i64 0, .int .i64 0, .string ⟨#[]⟩, .int .i64 0], .int .i64 100]) (results_cell_tmp (t := 64) (cs := #[.int .i64 0, .int .i64 0, .int .i64 0, .int .i64 0, .int .i64 0, .int .i64 0, .int .i64 0, .int .i64 0, .slice none 0 0, .slice none 0 0, .int .i64 0, .int .i64 0, .int .i64 0, .int .i64 0, .int .i64 0, .int .i64 0, .string ⟨#[]⟩, .string ⟨#[]⟩, .string ⟨#[]⟩, .string ⟨#[]⟩, .bool false, .int .i64 0, .int .i64 0, .int .i64 0, .string ⟨#[]⟩, .slice none 0 0, .int .i64 0, .int .i64 0, .string ⟨#[]⟩, .int .i64 0]) Try.results21 _ _ w.heap.size _ (by rfl) HK9.out Try.underlying64 rfl (by kernel_rfl) (by rfl)) rfl ?_
    exact ⟨below_fr HB1.out HF9.out, .inr ⟨HG.out, rfl⟩⟩
end Go.Proofs.Ytlcgkcmicklihaa.Wire
