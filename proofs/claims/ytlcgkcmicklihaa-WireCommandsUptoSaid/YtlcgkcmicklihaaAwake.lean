/- awake, and the laws over messages. -/
import Derived.Test.YtlcgkcmicklihaaHMsg
import Derived.Test.YtlcgkcmicklihaaRMsg2
namespace Go.Proofs.Ytlcgkcmicklihaa.Wire
set_option linter.unusedVariables false
set_option linter.unusedSimpArgs false
open Go.RowKit Go.Proofs.YtlcgkcmicklihaaW.PrintWords Go.Proofs.YtlcgkcmicklihaaW.PrintLast Go.Proofs.YtlcgkcmicklihaaW.PrintMore
theorem leb_small (z : Nat) (h : z < 128) : leb z = [UInt8.ofNat z] := by
  rw [leb.eq_def, dif_pos h]
def awakeMsg : tMsg.T := (((2 : Int), (1 : Int), (0 : Int), (3 : Int), (0 : Int), (0 : Int), (0 : Int)), true, ([] : List tEntry.T), (⟨#[]⟩ : ByteArray))
theorem awake_enc : tMsg.cod.enc awakeMsg = [4, 2, 0, 6, 0, 0, 0, 2, 0, 0] := by
  have h : tMsg.cod.enc awakeMsg = ((num 2 ++ (num 1 ++ (num 0 ++ (num 3 ++ (num 0 ++ (num 0 ++ num 0)))))) ++ (num 1 ++ ((num 0 ++ []) ++ (num 0 ++ [])))) := rfl
  rw [h]
  have e0 : num 0 = [0] := by unfold num; rw [show zz 0 = 0 by decide, leb_small 0 (by decide)]; rfl
  have e1 : num 1 = [2] := by unfold num; rw [show zz 1 = 2 by decide, leb_small 2 (by decide)]; rfl
  have e2 : num 2 = [4] := by unfold num; rw [show zz 2 = 4 by decide, leb_small 4 (by decide)]; rfl
  have e3 : num 3 = [6] := by unfold num; rw [show zz 3 = 6 by decide, leb_small 6 (by decide)]; rfl
  rw [e0, e1, e2, e3]
  rfl
theorem awake_ok : tMsg.cod.ok awakeMsg := by
  have f : ∀ n : Int, -9223372036854775808 ≤ n → n ≤ 9223372036854775807 → Fits n := fun n a b => ⟨a, b⟩
  exact ⟨⟨f 2 (by decide) (by decide), f 1 (by decide) (by decide), f 0 (by decide) (by decide), f 3 (by decide) (by decide), f 0 (by decide) (by decide), f 0 (by decide) (by decide), f 0 (by decide) (by decide)⟩, trivial, ⟨Nat.zero_le _, fun x h => by cases h⟩, Nat.zero_le _⟩
/-- The cells of awake's message. -/
def awakeCells : List Value := [.int .i64 2, .int .i64 1, .int .i64 0, .int .i64 3, .int .i64 0, .int .i64 0, .int .i64 0, .bool true, .slice none 0 0, .string ⟨#[]⟩]
theorem awake_holds (w : World) (ok : Nat → Prop) : Holds w ok tMsg awakeMsg awakeCells :=
  ⟨[.int .i64 2, .int .i64 1, .int .i64 0, .int .i64 3, .int .i64 0, .int .i64 0, .int .i64 0], [.bool true, .slice none 0 0, .string ⟨#[]⟩], rfl,
    ⟨_, [.int .i64 1, .int .i64 0, .int .i64 3, .int .i64 0, .int .i64 0, .int .i64 0], rfl, rfl, _, [.int .i64 0, .int .i64 3, .int .i64 0, .int .i64 0, .int .i64 0], rfl, rfl, _, [.int .i64 3, .int .i64 0, .int .i64 0, .int .i64 0], rfl, rfl, _, [.int .i64 0, .int .i64 0, .int .i64 0], rfl, rfl, _, [.int .i64 0, .int .i64 0], rfl, rfl, _, [.int .i64 0], rfl, rfl, rfl⟩,
    ⟨_, [.slice none 0 0, .string ⟨#[]⟩], rfl, rfl, [.slice none 0 0], [.string ⟨#[]⟩], rfl, ⟨none, 0, rfl, Nat.le_refl _, fun i x h => by cases h⟩, rfl⟩⟩
theorem awake_cells {w : World} {ok : Nat → Prop} {cs : List Value} (h : Holds w ok tMsg awakeMsg cs) : ∃ A cap, cs = [.int .i64 2, .int .i64 1, .int .i64 0, .int .i64 3, .int .i64 0, .int .i64 0, .int .i64 0, .bool true, .slice A 0 cap, .string ⟨#[]⟩] := by
  obtain ⟨c1, c2, rfl, h1, h2⟩ := h
  obtain ⟨d1, d2, rfl, g1, g2⟩ := h1
  obtain ⟨d3, d4, rfl, g3, g4⟩ := g2
  obtain ⟨d5, d6, rfl, g5, g6⟩ := g4
  obtain ⟨d7, d8, rfl, g7, g8⟩ := g6
  obtain ⟨d9, d10, rfl, g9, g10⟩ := g8
  obtain ⟨d11, d12, rfl, g11, g12⟩ := g10
  obtain ⟨e1, e2, rfl, k1, k2⟩ := h2
  obtain ⟨e3, e4, rfl, k3, k4⟩ := k2
  obtain ⟨A, cap, rfl, _⟩ := Holds.list_cell k3
  rw [Holds.int_cell g1, Holds.int_cell g3, Holds.int_cell g5, Holds.int_cell g7, Holds.int_cell g9, Holds.int_cell g11, Holds.int_cell g12, Holds.bool_cell k1, Holds.str_cell k4]
  exact ⟨A, cap, rfl⟩
theorem awake_more : get tMsg.cod ((⟨#[4, 2, 0, 6, 0, 0, 0, 2, 0, 0]⟩ : ByteArray) ++ (⟨#[0]⟩ : ByteArray)).data.toList = none := by
  have h := get_more tMsg.cod awakeMsg awake_ok [0]
  rw [awake_enc] at h
  have e : ((⟨#[4, 2, 0, 6, 0, 0, 0, 2, 0, 0]⟩ : ByteArray) ++ (⟨#[0]⟩ : ByteArray)).data.toList = [4, 2, 0, 6, 0, 0, 0, 2, 0, 0] ++ [0] := by
    rw [ByteArray.data_append]
    rfl
  rw [e]
  cases hg : get tMsg.cod ([4, 2, 0, 6, 0, 0, 0, 2, 0, 0] ++ [0]) with
  | none => rfl
  | some x => rw [hg] at h; simp at h
set_option maxRecDepth 100000 in
set_option maxHeartbeats 4000000 in
theorem awake_calls (w : World) : Calls Try.prog 10 #[] w fun e w' => e = .returned (.bool true) ∧ Below w.heap.size w w' := by
  have hs : mkb (tMsg.cod.enc awakeMsg) = (⟨#[4, 2, 0, 6, 0, 0, 0, 2, 0, 0]⟩ : ByteArray) := by rw [awake_enc]; rfl
  have HS := Lib.hid hs
  clear hs
  go_enter Try.func10, Try.ntmps10
  go_wp2_with fail
  refine (Put_msg awakeMsg awakeCells (fun _ => False) _ (awake_holds _ _) awake_ok (by rw [awake_enc]; decide)).mono ?_
  rintro e w1 ⟨rfl, hb1⟩
  rw [HS.out]
  have HB1 := Lib.hid hb1
  clear hb1
  go_wp2_with fail
  refine (Get_msg _ _ (by decide)).mono ?_
  rintro e w2 ⟨hb2, hr⟩
  have HB2 := Lib.hid (below_step HB1.out hb2)
  clear hb2
  have hg : get tMsg.cod (⟨#[4, 2, 0, 6, 0, 0, 0, 2, 0, 0]⟩ : ByteArray).data.toList = some awakeMsg := by
    have := get_enc tMsg.cod awakeMsg awake_ok
    rw [awake_enc] at this
    exact this
  rcases hr with ⟨x, cs, hx, rfl, hH⟩ | ⟨hx, rfl⟩
  · rw [hg] at hx
    injection hx with hx
    subst hx
    obtain ⟨A, cap, rfl⟩ := awake_cells hH
    clear hH hg
    go_wp2_with fail
    all_goals
      refine (Get_msg _ _ (by decide)).mono ?_
      rintro e w3 ⟨hb3, hr⟩
      have HB3 := Lib.hid (below_step (HB2.out.alloc HB2.out.size _) hb3)
      have hlt : w2.heap.size < w3.heap.size := by have := hb3.size; simp at this; omega
      have hk3 := (hb3.block w2.heap.size (by simp)).trans (blk_new w2 _)
      have r3 : w3.cell? ⟨w2.heap.size, 3, none⟩ = some (.int .i64 3) := (blk_cell hk3 3).trans rfl
      have r7 : w3.cell? ⟨w2.heap.size, 7, none⟩ = some (.bool true) := (blk_cell hk3 7).trans rfl
      clear hb3 hk3
      rcases hr with ⟨x, cs, hx, rfl, hH⟩ | ⟨hx, rfl⟩
      · rw [awake_more] at hx
        cases hx
      · have hz : tMsg.zcells.toArray = #[.int .i64 0, .int .i64 0, .int .i64 0, .int .i64 0, .int .i64 0, .int .i64 0, .int .i64 0, .bool false, .slice none 0 0, .string ⟨#[]⟩] := rfl
        rw [hz]
        clear hz hx
        go_wp2_with fail
        go_ret
        exact ⟨rfl, HB3.out.alloc HB3.out.size _⟩
  · rw [hg] at hx
    cases hx
end Go.Proofs.Ytlcgkcmicklihaa.Wire
