/- The law WireReads: for every text (at most 2^47 - 4096 bytes, as the form reads it) the call returns true and the text reads as before. -/
import Derived.Test.YtlcgkcmicklihaaAwake
import Derived.Test.YtlcgkcmicklihaaHDelta
import Derived.Test.YtlcgkcmicklihaaHCmd
import Derived.Test.YtlcgkcmicklihaaHState
import Derived.Test.YtlcgkcmicklihaaHPlan
import Derived.Test.YtlcgkcmicklihaaRCmd
import Derived.Test.YtlcgkcmicklihaaRState
import Derived.Test.YtlcgkcmicklihaaRPlan
import Derived.Test.YtlcgkcmicklihaaWide
import Derived.Test.YtlcgkcmicklihaaRows
import Derived.WalkKit
import Derived.ProofKit
import Derived.OpenShut
import Derived.ShutString
import Derived.ChangeOld
import Derived.Below
import Derived.SizedLaws
namespace Go.Proofs.Ytlcgkcmicklihaa.Wire
set_option linter.unusedVariables false
set_option linter.unusedSimpArgs false
open Go.RowKit Go.Proofs.YtlcgkcmicklihaaW.PrintWords Go.Proofs.YtlcgkcmicklihaaW.PrintLast Go.Proofs.YtlcgkcmicklihaaW.PrintMore
theorem Ty.zero_ok : ∀ t : Ty, t.cod.ok t.zero
  | .int => fits0
  | .bool => trivial
  | .str => Nat.zero_le _
  | .list e => ⟨Nat.zero_le _, fun x h => by cases h⟩
  | .pair a b => ⟨a.zero_ok, b.zero_ok⟩
theorem Ty.zero_len : ∀ t : Ty, (t.cod.enc t.zero).length ≤ 10 * t.sz
  | .int => num_len 0 fits0
  | .bool => num_len _ fits0
  | .str => by
    show (num 0 ++ []).length ≤ 10
    rw [List.append_nil]
    exact num_len 0 fits0
  | .list e => by
    show (num 0 ++ []).length ≤ 10
    rw [List.append_nil]
    exact num_len 0 fits0
  | .pair a b => by
    have h1 := a.zero_len
    have h2 := b.zero_len
    show (a.cod.enc a.zero ++ b.cod.enc b.zero).length ≤ 10 * (a.sz + b.sz)
    rw [List.length_append]
    omega
theorem get_ok {α : Type} {c : Cod α} {s : List UInt8} {x : α} (h : get c s = some x) (hs : s.length ≤ top) : c.ok x := by
  unfold get at h
  split at h
  · cases h
  · injection h with h
    subst h
    exact c.sound _ hs
/-- What get leaves, in one form: a value whose bytes are the text just if it was read. -/
theorem GetPost.all {t : Ty} {s : ByteArray} {w w' : World} {e : Ending} (h : GetPost t s w e w') (hs : s.size ≤ 68719476736) (hz : 10 * t.sz ≤ 68719476736) : Below w.heap.size w w' ∧ ∃ (x : t.T) (cs : List Value) (k : Int), e = .returned (.tuple #[.agg cs.toArray, .int .i64 k]) ∧
    Holds w' (fun _ => True) t x cs ∧ t.cod.ok x ∧ (t.cod.enc x).length ≤ 68719476736 ∧ ((k = 0 ∧ mkb (t.cod.enc x) = s) ∨ (k = 100 ∧ ¬ mkb (t.cod.enc x) = s)) := by
  have hl : s.data.toList.length = s.size := by simp
  obtain ⟨hb, ⟨x, cs, hg, rfl, hH⟩ | ⟨hg, rfl⟩⟩ := h
  · have he := get_some t.cod _ x hg
    refine ⟨hb, x, cs, 0, rfl, hH.mono (fun _ _ => trivial), get_ok hg (by rw [hl]; exact Nat.le_trans hs (by decide)), by rw [he, hl]; exact hs, .inl ⟨rfl, by rw [he, mkb_self]⟩⟩
  · refine ⟨hb, t.zero, t.zcells, 100, rfl, Holds.zero t, t.zero_ok, Nat.le_trans t.zero_len hz, .inr ⟨rfl, fun he => ?_⟩⟩
    have h1 := get_enc t.cod t.zero t.zero_ok
    have h2 : t.cod.enc t.zero = s.data.toList := by rw [← he, mkb_data]
    rw [h2, hg] at h1
    cases h1
theorem blk_below {w w' : World} {b : Nat} {o : Obj} (h : w.heap[b]? = some o) (hb : Below w.heap.size w w') : w'.heap[b]? = some o := (hb.block b (blk_lt h)).trans h
theorem reads_bits {k : Int} {R s : ByteArray} (h : (k = 0 ∧ R = s) ∨ (k = 100 ∧ ¬ R = s)) : ∃ c : Bool, (k == 0) = c ∧ (R.toList == s.toList) = c := by
  rcases h with ⟨rfl, rfl⟩ | ⟨rfl, h⟩
  · exact ⟨true, rfl, by simp⟩
  · exact ⟨false, rfl, str_ne h⟩
set_option maxRecDepth 100000 in
set_option maxHeartbeats 16000000 in
theorem wireReads_walk (s : ByteArray) (w : World) : Calls Try.prog 9 #[.string s] w fun e w' => e = .returned (.bool true) ∧ Below w.heap.size w w' := by
  go_enter Try.func9, Try.ntmps9
  go_wp2_with fail
  refine (awake_calls _).mono ?_
  rintro e u0 ⟨rfl, hb1⟩
  have HB := Lib.hid hb1
  clear hb1
  by_cases hbig : (16384 : Int) < (s.size : Int)
  · have d1 : decide ((16384 : Int) < (s.size : Int)) = true := decide_eq_true hbig
    clear hbig
    go_wp2_with fail
    refine (awake_calls _).mono ?_
    rintro e w2 ⟨rfl, hb2⟩
    have HB2 := Lib.hid hb2
    clear hb2
    go_wp2_with fail
    go_ret
    exact ⟨rfl, below_step HB.out HB2.out⟩
  · have d1 : decide ((16384 : Int) < (s.size : Int)) = false := decide_eq_false hbig
    have HS := Lib.hid (show s.size ≤ 68719476736 by omega)
    clear hbig
    go_wp2_with fail
    clear d1
    refine (Get_msg s _ HS.out).mono ?_
    rintro e v1 hp
    obtain ⟨hb, x1, cs1, k1, rfl, hH, hok, hl, hc⟩ := hp.all HS.out (by decide)
    have HSZ : Hid ((Try.prog.info? 24).map (·.size) = some cs1.length) := Lib.hid (by rw [hH.len]; kernel_rfl)
    have HSI1 : Hid ((Try.prog.info? 24).map (·.size) = some cs1.toArray.size) := Lib.hid (by rw [List.size_toArray, hH.len]; kernel_rfl)
    have HO := Lib.hid (all_one hH.one)
    have HLN := Lib.hid hH.len
    have hb' : Below v1.heap.size v1 (v1.alloc (.cells cs1.toArray 24)) := (Below.refl _ _).alloc (Nat.le_refl _) _
    have hkk := blk_new v1 (.cells cs1.toArray 24)
    obtain ⟨u1, hu⟩ : ∃ u, v1.alloc (.cells cs1.toArray 24) = u := ⟨_, rfl⟩
    obtain ⟨b1, hbn⟩ : ∃ b, v1.heap.size = b := ⟨_, rfl⟩
    have hbs := below_step hb hb'
    have hHu := hH.below hb'
    rw [hu] at hkk hbs hHu
    rw [hbn] at hkk
    have HK1 := Lib.hid hkk
    have HH1 := Lib.hid hHu
    have HOK1 := Lib.hid hok
    have HL1 := Lib.hid hl
    have HC1 := Lib.hid hc
    have HN1 := Lib.hid (Below.refl u1.heap.size u1)
    replace HB := Lib.hid (below_step HB.out hbs)
    have HU := Lib.hid hu
    have HBN := Lib.hid hbn
    clear hp hb hH hok hl hc hb' hkk hu hbn hbs hHu
    go_wp2_with ((with_reducible refine gate_store (t := 24) (p := .tmp 3) (x := .tmp 26) rfl ?_); refine wpList_store_new (t := 24) rfl (.tmp 3) (.tmp 26) rfl cs1.toArray (by rfl) (by rfl) (by rw [List.size_toArray]; exact HSZ.out) (by show 10 = cs1.toArray.size; rw [List.size_toArray, HLN.out]; rfl) HO.out ?_)
    rw [HU.out, HBN.out]
    clear HSZ HO HLN HU HBN
    refine (Get_delta s _ HS.out).mono ?_
    rintro e v2 hp
    obtain ⟨hb, x2, cs2, k2, rfl, hH, hok, hl, hc⟩ := hp.all HS.out (by decide)
    have HSZ : Hid ((Try.prog.info? 33).map (·.size) = some cs2.length) := Lib.hid (by rw [hH.len]; kernel_rfl)
    have HSI2 : Hid ((Try.prog.info? 33).map (·.size) = some cs2.toArray.size) := Lib.hid (by rw [List.size_toArray, hH.len]; kernel_rfl)
    have HO := Lib.hid (all_one hH.one)
    have HLN := Lib.hid hH.len
    have hb' : Below v2.heap.size v2 (v2.alloc (.cells cs2.toArray 33)) := (Below.refl _ _).alloc (Nat.le_refl _) _
    have hkk := blk_new v2 (.cells cs2.toArray 33)
    obtain ⟨u2, hu⟩ : ∃ u, v2.alloc (.cells cs2.toArray 33) = u := ⟨_, rfl⟩
    obtain ⟨b2, hbn⟩ : ∃ b, v2.heap.size = b := ⟨_, rfl⟩
    have hbs := below_step hb hb'
    have hHu := hH.below hb'
    rw [hu] at hkk hbs hHu
    rw [hbn] at hkk
    have HK2 := Lib.hid hkk
    have HH2 := Lib.hid hHu
    have HOK2 := Lib.hid hok
    have HL2 := Lib.hid hl
    have HC2 := Lib.hid hc
    replace HN1 := Lib.hid (below_step HN1.out hbs)
    have HN2 := Lib.hid (Below.refl u2.heap.size u2)
    replace HB := Lib.hid (below_step HB.out hbs)
    have HU := Lib.hid hu
    have HBN := Lib.hid hbn
    clear hp hb hH hok hl hc hb' hkk hu hbn hbs hHu
    go_wp2_with ((with_reducible refine gate_store (t := 33) (p := .tmp 5) (x := .tmp 31) rfl ?_); refine wpList_store_new (t := 33) rfl (.tmp 5) (.tmp 31) rfl cs2.toArray (by rfl) (by rfl) (by rw [List.size_toArray]; exact HSZ.out) (by show 8 = cs2.toArray.size; rw [List.size_toArray, HLN.out]; rfl) HO.out ?_)
    rw [HU.out, HBN.out]
    clear HSZ HO HLN HU HBN
    refine (Get_command s _ HS.out).mono ?_
    rintro e v3 hp
    obtain ⟨hb, x3, cs3, k3, rfl, hH, hok, hl, hc⟩ := hp.all HS.out (by decide)
    have HSZ : Hid ((Try.prog.info? 64).map (·.size) = some cs3.length) := Lib.hid (by rw [hH.len]; kernel_rfl)
    have HSI3 : Hid ((Try.prog.info? 64).map (·.size) = some cs3.toArray.size) := Lib.hid (by rw [List.size_toArray, hH.len]; kernel_rfl)
    have HO := Lib.hid (all_one hH.one)
    have HLN := Lib.hid hH.len
    have hb' : Below v3.heap.size v3 (v3.alloc (.cells cs3.toArray 64)) := (Below.refl _ _).alloc (Nat.le_refl _) _
    have hkk := blk_new v3 (.cells cs3.toArray 64)
    obtain ⟨u3, hu⟩ : ∃ u, v3.alloc (.cells cs3.toArray 64) = u := ⟨_, rfl⟩
    obtain ⟨b3, hbn⟩ : ∃ b, v3.heap.size = b := ⟨_, rfl⟩
    have hbs := below_step hb hb'
    have hHu := hH.below hb'
    rw [hu] at hkk hbs hHu
    rw [hbn] at hkk
    have HK3 := Lib.hid hkk
    have HH3 := Lib.hid hHu
    have HOK3 := Lib.hid hok
    have HL3 := Lib.hid hl
    have HC3 := Lib.hid hc
    replace HN1 := Lib.hid (below_step HN1.out hbs)
    replace HN2 := Lib.hid (below_step HN2.out hbs)
    have HN3 := Lib.hid (Below.refl u3.heap.size u3)
    replace HB := Lib.hid (below_step HB.out hbs)
    have HU := Lib.hid hu
    have HBN := Lib.hid hbn
    clear hp hb hH hok hl hc hb' hkk hu hbn hbs hHu
    go_wp2_with ((with_reducible refine gate_store (t := 64) (p := .tmp 7) (x := .tmp 36) rfl ?_); refine wpList_store_new (t := 64) rfl (.tmp 7) (.tmp 36) rfl cs3.toArray (by rfl) (by rfl) (by rw [List.size_toArray]; exact HSZ.out) (by show 30 = cs3.toArray.size; rw [List.size_toArray, HLN.out]; rfl) HO.out ?_)
    rw [HU.out, HBN.out]
    clear HSZ HO HLN HU HBN
    refine (Get_state s _ HS.out).mono ?_
    rintro e v4 hp
    obtain ⟨hb, x4, cs4, k4, rfl, hH, hok, hl, hc⟩ := hp.all HS.out (by decide)
    have HSZ : Hid ((Try.prog.info? 43).map (·.size) = some cs4.length) := Lib.hid (by rw [hH.len]; kernel_rfl)
    have HSI4 : Hid ((Try.prog.info? 43).map (·.size) = some cs4.toArray.size) := Lib.hid (by rw [List.size_toArray, hH.len]; kernel_rfl)
    have HO := Lib.hid (all_one hH.one)
    have HLN := Lib.hid hH.len
    have hb' : Below v4.heap.size v4 (v4.alloc (.cells cs4.toArray 43)) := (Below.refl _ _).alloc (Nat.le_refl _) _
    have hkk := blk_new v4 (.cells cs4.toArray 43)
    obtain ⟨u4, hu⟩ : ∃ u, v4.alloc (.cells cs4.toArray 43) = u := ⟨_, rfl⟩
    obtain ⟨b4, hbn⟩ : ∃ b, v4.heap.size = b := ⟨_, rfl⟩
    have hbs := below_step hb hb'
    have hHu := hH.below hb'
    rw [hu] at hkk hbs hHu
    rw [hbn] at hkk
    have HK4 := Lib.hid hkk
    have HH4 := Lib.hid hHu
    have HOK4 := Lib.hid hok
    have HL4 := Lib.hid hl
    have HC4 := Lib.hid hc
    replace HN1 := Lib.hid (below_step HN1.out hbs)
    replace HN2 := Lib.hid (below_step HN2.out hbs)
    replace HN3 := Lib.hid (below_step HN3.out hbs)
    have HN4 := Lib.hid (Below.refl u4.heap.size u4)
    replace HB := Lib.hid (below_step HB.out hbs)
    have HU := Lib.hid hu
    have HBN := Lib.hid hbn
    clear hp hb hH hok hl hc hb' hkk hu hbn hbs hHu
    go_wp2_with ((with_reducible refine gate_store (t := 43) (p := .tmp 9) (x := .tmp 41) rfl ?_); refine wpList_store_new (t := 43) rfl (.tmp 9) (.tmp 41) rfl cs4.toArray (by rfl) (by rfl) (by rw [List.size_toArray]; exact HSZ.out) (by show 5 = cs4.toArray.size; rw [List.size_toArray, HLN.out]; rfl) HO.out ?_)
    rw [HU.out, HBN.out]
    clear HSZ HO HLN HU HBN
    refine (Get_plan s _ HS.out).mono ?_
    rintro e v5 hp
    obtain ⟨hb, x5, cs5, k5, rfl, hH, hok, hl, hc⟩ := hp.all HS.out (by decide)
    have HSZ : Hid ((Try.prog.info? 80).map (·.size) = some cs5.length) := Lib.hid (by rw [hH.len]; kernel_rfl)
    have HSI5 : Hid ((Try.prog.info? 80).map (·.size) = some cs5.toArray.size) := Lib.hid (by rw [List.size_toArray, hH.len]; kernel_rfl)
    have HO := Lib.hid (all_one hH.one)
    have HLN := Lib.hid hH.len
    have hb' : Below v5.heap.size v5 (v5.alloc (.cells cs5.toArray 80)) := (Below.refl _ _).alloc (Nat.le_refl _) _
    have hkk := blk_new v5 (.cells cs5.toArray 80)
    obtain ⟨u5, hu⟩ : ∃ u, v5.alloc (.cells cs5.toArray 80) = u := ⟨_, rfl⟩
    obtain ⟨b5, hbn⟩ : ∃ b, v5.heap.size = b := ⟨_, rfl⟩
    have hbs := below_step hb hb'
    have hHu := hH.below hb'
    rw [hu] at hkk hbs hHu
    rw [hbn] at hkk
    have HK5 := Lib.hid hkk
    have HH5 := Lib.hid hHu
    have HOK5 := Lib.hid hok
    have HL5 := Lib.hid hl
    have HC5 := Lib.hid hc
    replace HN1 := Lib.hid (below_step HN1.out hbs)
    replace HN2 := Lib.hid (below_step HN2.out hbs)
    replace HN3 := Lib.hid (below_step HN3.out hbs)
    replace HN4 := Lib.hid (below_step HN4.out hbs)
    have HN5 := Lib.hid (Below.refl u5.heap.size u5)
    replace HB := Lib.hid (below_step HB.out hbs)
    have HU := Lib.hid hu
    have HBN := Lib.hid hbn
    clear hp hb hH hok hl hc hb' hkk hu hbn hbs hHu
    go_upto_region 8 with ((with_reducible refine gate_store (t := 80) (p := .tmp 11) (x := .tmp 46) rfl ?_); refine wpList_store_new (t := 80) rfl (.tmp 11) (.tmp 46) rfl cs5.toArray (by rfl) (by rfl) (by rw [List.size_toArray]; exact HSZ.out) (by show 5 = cs5.toArray.size; rw [List.size_toArray, HLN.out]; rfl) HO.out ?_)
    rw [HU.out, HBN.out]
    clear HSZ HO HLN HU HBN
    have HKK := Lib.hid (blk_below HK1.out HN1.out)
    go_wp2_with ((with_reducible refine gate_load (t := 24) (p := .tmp 3) rfl ?_); refine wpList_load_whole (t := 24) rfl (.tmp 3) rfl (by rfl) Try.underlying24 HSI1.out HKK.out ?_)
    refine (msg_ref x1 cs1 _ _ (HH1.out.below HN1.out) HOK1.out HL1.out).mono ?_
    rintro e r1 ⟨rfl, hb⟩
    replace HN1 := Lib.hid (below_step HN1.out hb)
    replace HN2 := Lib.hid (below_step HN2.out hb)
    replace HN3 := Lib.hid (below_step HN3.out hb)
    replace HN4 := Lib.hid (below_step HN4.out hb)
    replace HN5 := Lib.hid (below_step HN5.out hb)
    replace HB := Lib.hid (below_step HB.out hb)
    clear hb HKK
    obtain ⟨R1, hR⟩ : ∃ R, mkb (tMsg.cod.enc x1) = R := ⟨_, rfl⟩
    obtain ⟨c1, e1, q1⟩ := reads_bits HC1.out
    rw [hR] at q1
    rw [hR]
    clear hR
    have HKK := Lib.hid (blk_below HK2.out HN2.out)
    go_wp2_with ((with_reducible refine gate_load (t := 33) (p := .tmp 5) rfl ?_); refine wpList_load_wholeG (t := 33) (by rfl) (.tmp 5) rfl (by rfl) Try.underlying33 HSI2.out HKK.out ?_)
    refine (delta_ref x2 cs2 _ _ (HH2.out.below HN2.out) HOK2.out HL2.out).mono ?_
    rintro e r2 ⟨rfl, hb⟩
    replace HN1 := Lib.hid (below_step HN1.out hb)
    replace HN2 := Lib.hid (below_step HN2.out hb)
    replace HN3 := Lib.hid (below_step HN3.out hb)
    replace HN4 := Lib.hid (below_step HN4.out hb)
    replace HN5 := Lib.hid (below_step HN5.out hb)
    replace HB := Lib.hid (below_step HB.out hb)
    clear hb HKK
    obtain ⟨R2, hR⟩ : ∃ R, mkb (tDelta.cod.enc x2) = R := ⟨_, rfl⟩
    obtain ⟨c2, e2, q2⟩ := reads_bits HC2.out
    rw [hR] at q2
    rw [hR]
    clear hR
    have HKK := Lib.hid (blk_below HK3.out HN3.out)
    go_wp2_with ((with_reducible refine gate_load (t := 64) (p := .tmp 7) rfl ?_); refine wpList_load_wholeG (t := 64) (by rfl) (.tmp 7) rfl (by rfl) Try.underlying64 HSI3.out HKK.out ?_)
    refine (command_ref x3 cs3 _ _ (HH3.out.below HN3.out) HOK3.out HL3.out).mono ?_
    rintro e r3 ⟨rfl, hb⟩
    replace HN1 := Lib.hid (below_step HN1.out hb)
    replace HN2 := Lib.hid (below_step HN2.out hb)
    replace HN3 := Lib.hid (below_step HN3.out hb)
    replace HN4 := Lib.hid (below_step HN4.out hb)
    replace HN5 := Lib.hid (below_step HN5.out hb)
    replace HB := Lib.hid (below_step HB.out hb)
    clear hb HKK
    obtain ⟨R3, hR⟩ : ∃ R, mkb (tCommand.cod.enc x3) = R := ⟨_, rfl⟩
    obtain ⟨c3, e3, q3⟩ := reads_bits HC3.out
    rw [hR] at q3
    rw [hR]
    clear hR
    go_wp2_with fail
    have hbz : Below r3.heap.size r3 (r3.alloc (.cells #[.int .i64 k1, .int .i64 k2, .int .i64 k3, .int .i64 k4, .int .i64 k5] 27)) := (Below.refl _ _).alloc (Nat.le_refl _) _
    have hkz := blk_new r3 (.cells #[.int .i64 k1, .int .i64 k2, .int .i64 k3, .int .i64 k4, .int .i64 k5] 27)
    obtain ⟨wz, hwz⟩ : ∃ z, r3.alloc (.cells #[.int .i64 k1, .int .i64 k2, .int .i64 k3, .int .i64 k4, .int .i64 k5] 27) = z := ⟨_, rfl⟩
    obtain ⟨bz, hbn⟩ : ∃ b, r3.heap.size = b := ⟨_, rfl⟩
    rw [hwz] at hbz hkz
    replace HN1 := Lib.hid (below_step HN1.out hbz)
    replace HN2 := Lib.hid (below_step HN2.out hbz)
    replace HN3 := Lib.hid (below_step HN3.out hbz)
    replace HN4 := Lib.hid (below_step HN4.out hbz)
    replace HN5 := Lib.hid (below_step HN5.out hbz)
    replace HB := Lib.hid (below_step HB.out hbz)
    rw [hbn] at hkz
    have HZ := Lib.hid hkz
    rw [hwz, hbn]
    clear hbz hkz hwz hbn e1 q1 e2 q2 e3 q3
    go_loopw [80] (fun v80 wr => ∃ k : Nat, v80 = .int .i64 (k : Int) ∧ k ≤ 5 ∧ Below wz.heap.size wz wr) (fun v80 _ => 5 - (intOf v80).toNat)
    case atStart => exact ⟨0, rfl, by omega, Below.refl _ _⟩
    case round =>
      obtain ⟨k, rfl, hk, hbk⟩ := hrel
      have HBK := Lib.hid hbk
      clear hbk
      by_cases hlt : k < 5
      · obtain ⟨kk, hkk, hor⟩ : ∃ kk, [k1, k2, k3, k4, k5][k]? = some kk ∧ (kk = 0 ∨ kk = 100) := by
          match k, hlt with
          | 0, _ => exact ⟨k1, rfl, HC1.out.imp (fun h => h.1) (fun h => h.1)⟩
          | 1, _ => exact ⟨k2, rfl, HC2.out.imp (fun h => h.1) (fun h => h.1)⟩
          | 2, _ => exact ⟨k3, rfl, HC3.out.imp (fun h => h.1) (fun h => h.1)⟩
          | 3, _ => exact ⟨k4, rfl, HC4.out.imp (fun h => h.1) (fun h => h.1)⟩
          | 4, _ => exact ⟨k5, rfl, HC5.out.imp (fun h => h.1) (fun h => h.1)⟩
        have n0 : wr.cell? ⟨bz, k, none⟩ = some (.int .i64 kk) := by
          rw [blk_cell (blk_below HZ.out HBK.out) k]
          match k, hlt, hkk with
          | 0, _, h => exact congrArg (Option.map (Value.int .i64)) h
          | 1, _, h => exact congrArg (Option.map (Value.int .i64)) h
          | 2, _, h => exact congrArg (Option.map (Value.int .i64)) h
          | 3, _, h => exact congrArg (Option.map (Value.int .i64)) h
          | 4, _, h => exact congrArg (Option.map (Value.int .i64)) h
        clear hkk
        have b0 : (0 : Int) ≤ (k : Int) := by omega
        have b1 : (k : Int) < 5 := by omega
        rcases hor with rfl | rfl
        all_goals
          go_wp2_with fail
          go_roundw
          case rel => exact ⟨k + 1, by go_num, by omega, HBK.out⟩
          case measure => simp [intOf]; omega
      · obtain rfl : k = 5 := by omega
        replace HN1 := Lib.hid (below_step HN1.out HBK.out)
        replace HN2 := Lib.hid (below_step HN2.out HBK.out)
        replace HN3 := Lib.hid (below_step HN3.out HBK.out)
        replace HN4 := Lib.hid (below_step HN4.out HBK.out)
        replace HN5 := Lib.hid (below_step HN5.out HBK.out)
        replace HB := Lib.hid (below_step HB.out HBK.out)
        have HKK := Lib.hid (blk_below HK4.out HN4.out)
        go_wp2_with ((with_reducible refine gate_load (t := 43) (p := .tmp 9) rfl ?_); refine wpList_load_whole (t := 43) rfl (.tmp 9) rfl (by rfl) Try.underlying43 HSI4.out HKK.out ?_)
        refine (state_ref x4 cs4 _ _ (HH4.out.below HN4.out) HOK4.out HL4.out).mono ?_
        rintro e r4 ⟨rfl, hb⟩
        replace HN1 := Lib.hid (below_step HN1.out hb)
        replace HN2 := Lib.hid (below_step HN2.out hb)
        replace HN3 := Lib.hid (below_step HN3.out hb)
        replace HN4 := Lib.hid (below_step HN4.out hb)
        replace HN5 := Lib.hid (below_step HN5.out hb)
        replace HB := Lib.hid (below_step HB.out hb)
        clear hb HKK
        obtain ⟨R4, hR⟩ : ∃ R, mkb (tState.cod.enc x4) = R := ⟨_, rfl⟩
        obtain ⟨c4, e4, q4⟩ := reads_bits HC4.out
        rw [hR] at q4
        rw [hR]
        clear hR
        have HKK := Lib.hid (blk_below HK5.out HN5.out)
        go_wp2_with ((with_reducible refine gate_load (t := 80) (p := .tmp 11) rfl ?_); refine wpList_load_wholeG (t := 80) (by rfl) (.tmp 11) rfl (by rfl) Try.underlying80 HSI5.out HKK.out ?_)
        refine (plan_ref x5 cs5 _ _ (HH5.out.below HN5.out) HOK5.out HL5.out).mono ?_
        rintro e r5 ⟨rfl, hb⟩
        replace HN1 := Lib.hid (below_step HN1.out hb)
        replace HN2 := Lib.hid (below_step HN2.out hb)
        replace HN3 := Lib.hid (below_step HN3.out hb)
        replace HN4 := Lib.hid (below_step HN4.out hb)
        replace HN5 := Lib.hid (below_step HN5.out hb)
        replace HB := Lib.hid (below_step HB.out hb)
        clear hb HKK
        obtain ⟨R5, hR⟩ : ∃ R, mkb (tPlan.cod.enc x5) = R := ⟨_, rfl⟩
        obtain ⟨c5, e5, q5⟩ := reads_bits HC5.out
        rw [hR] at q5
        rw [hR]
        clear hR
        go_wp2_with fail
        go_ret
        exact ⟨rfl, HB.out⟩
end Go.Proofs.Ytlcgkcmicklihaa.Wire
namespace Go.Proofs.Ytlcgkcmicklihaa.wireReads
open Go.ChangeShapes Go.WideShapes Go.ChangeAt Go.RowKit
open Go.ChangeMaps (open_string shut_string)
set_option linter.unusedVariables false
theorem own : ownKnob Try.prog.godebug = none := by kernel_rfl
set_option maxRecDepth 100000 in
theorem lifted (os : Os) (started : os.Started) (H : Type) (enc : TypeId × Value → H) :
    ReturnsInHanded {} Try.checked os 9 .any (Rows.wireReadsSpec.pre6 enc Try.prog Try.f9 Rows.wireReadsRow.domain false) (Rows.wireReadsSpec.post enc Try.prog Try.f9 false true false false) := by
  refine returnsInHanded_of_change_sized (C := Try.checked) own started (by kernel_rfl) Try.func9
    (ChangeSpec.witness6 (enc := enc) (C := Try.checked) false ⟨#[], #[.string ByteArray.empty], []⟩ 8 (by kernel_rfl) (by kernel_rfl) (by kernel_rfl) (by kernel_rfl)) ?_
  intro W base args ds gs before hval0 hW hcnd hsz0 _
  have hval : ∀ (j : Nat) t v, Try.f9.params[j]? = some t → args[j]? = some v → Value.okWide Try.prog W .any base t v := hval0
  have hW' := hW
  obtain ⟨p, q, hA0, hV, rfl, hfz, hnd⟩ := hW
  have hA : DataW.TrodAll enc Try.prog W 0 (fun _ => true) true Try.f9.params.toList args.toList ds p := hA0
  rw [Try.params9] at hA hval
  obtain ⟨v0, vs0, d0, ds0, p0, q0, hargs, rfl, rfl, h0, r0⟩ := trodAll_cons hA
  obtain ⟨rfl, rfl, rfl⟩ := trodAll_nil r0
  obtain rfl : args = #[v0] := by cases args; simp_all
  obtain ⟨rfl, rfl⟩ := trodVars_none hV
  obtain ⟨a0, rfl, rfl, rfl, y0⟩ := open_string Try.underlying9 (hval 0 9 v0 rfl rfl) h0
  clear hA0 hval0 hsz0
  refine (Wire.wireReads_walk a0 W).mono fun e W' ⟨he, bel⟩ => ?_
  subst he
  exact ⟨_, rfl, _, _, _, [], _, [], hW', trodAll_mk1 (shut_bool Try.underlying4 _), (trodAll_cons_mk (shut_string Try.underlying9 y0) trodAll_mk0), rfl, bel.frame _, fun h => by cases h⟩
theorem over : Rows.wireReadsRow.holds Try.pinned (OpenSpec.ofChange Rows.wireReadsSpec) :=
  OpenClaim.holds_of_wide 9 Try.f9 rfl rfl rfl rfl rfl rfl rfl ⟨rfl, rfl, rfl, rfl, rfl⟩ rfl rfl rfl rfl rfl (by kernel_rfl) Try.func9 (by kernel_rfl)
    (of_decide_eq_true (by kernel_rfl)) (by unfold Func.isWrapper; first | (rw [if_pos (by decide +kernel)]; kernel_rfl) | (rw [if_neg (by decide +kernel)]; exact ⟨rfl, rfl⟩))
    (fun os started H enc _ => lifted os started H enc)
end Go.Proofs.Ytlcgkcmicklihaa.wireReads
namespace Go.Proofs.Ytlcgkcmicklihaa
/-- The row, under a short name, for the claim. -/
theorem wireReads_holds : Rows.WireReadsSaid := wireReads.over
#print axioms wireReads_holds
end Go.Proofs.Ytlcgkcmicklihaa
