/- The reference's numbers, flags, texts. -/
import Derived.Test.YtlcgkcmicklihaaTexts
namespace Go.Proofs.Ytlcgkcmicklihaa.Wire
set_option linter.unusedVariables false
set_option linter.unusedSimpArgs false
open Go.RowKit Go.Proofs.YtlcgkcmicklihaaW.PrintWords Go.Proofs.YtlcgkcmicklihaaW.PrintLast Go.Proofs.YtlcgkcmicklihaaW.PrintMore
/-- A text of these bytes. -/
def mkb (l : List UInt8) : ByteArray := ⟨l.toArray⟩
theorem mkb_data (l : List UInt8) : (mkb l).data.toList = l := by simp [mkb]
theorem mkb_size (l : List UInt8) : (mkb l).size = l.length := by simp [mkb, ByteArray.size]
theorem mkb_append (a b : List UInt8) : mkb a ++ mkb b = mkb (a ++ b) := by
  have h : (mkb a ++ mkb b).data = (mkb (a ++ b)).data := by
    rw [ByteArray.data_append]
    simp [mkb]
  cases h1 : mkb a ++ mkb b with
  | mk d =>
    rw [h1] at h
    cases h2 : mkb (a ++ b) with
    | mk d2 =>
      rw [h2] at h
      have h : d = d2 := h
      rw [h]
theorem mkb_self (s : ByteArray) : mkb s.data.toList = s := by cases s; simp [mkb]
set_option maxRecDepth 100000 in
theorem conv_own {w : World} {base n c : Nat} {A : Option Addr} {l : List UInt8} (h : w.ownsRow base 5 1 (.slice A n c) n (l.map cell8)) : (convert 131 9 (.slice A n c)).run Try.prog w = .ok (.string (mkb l)) w := by
  have h5 : Try.prog.underlying 5 = some (.int .u8) := by kernel_rfl
  have hl : l.length = n := by have := h.1; rw [List.length_map] at this; omega
  have e2 : l.map cell8 = (l.map (fun x => (x.toNat : Int))).map (Value.int .u8) := by
    rw [List.map_map]
    rfl
  have key : ∀ a, A = some a → (convert 131 9 (.slice A n c)).run Try.prog w = .ok (.string (mkb l)) w := by
    rintro a rfl
    obtain ⟨g, hg⟩ : ∃ g, a = ⟨g, 0, none⟩ := by
      rcases h.2 with ⟨hv, _⟩ | ⟨g, cap, cur, hv, _⟩
      · cases hv
      · injection hv with h1 _ _
        injection h1 with h1
        exact ⟨g, h1⟩
    subst hg
    have hc := run_loadCells_list (P := Try.prog) w ⟨g, 0, none⟩ (l.map cell8) (h.cells (g := g) rfl)
    rw [List.length_map, hl, e2] at hc
    rw [run_convert_bytes_string w 131 9 5 _ n c Try.underlying131 h5 Try.underlying9, run_bytesToString w ⟨g, 0, none⟩ n c _ hc]
    congr 2
    exact foldl_push_u8 _ _
  cases A with
  | some a => exact key a rfl
  | none =>
    have hn : n = 0 := by
      rcases h.2 with ⟨_, h0⟩ | ⟨g, cap, cur, hv, _⟩
      · exact h0
      · cases hv
    subst hn
    have : l = [] := List.eq_nil_of_length_eq_zero hl
    subst this
    rw [run_convert_bytes_string w 131 9 5 none 0 c Try.underlying131 h5 Try.underlying9]
    rfl
theorem own_grown_below {w wr w' : World} {v : Value} {n : Nat} {xs : List Value} {cs : Array Value} {T2 : Nat} (hb : Below w.heap.size w wr) (hown : wr.ownsRow w.heap.size 5 1 v n xs) (hg : (wr.alloc (.cells cs T2)).grownBy w' v.ownBlock) : Below w.heap.size w w' := by
  have h1 : Below w.heap.size w (wr.alloc (.cells cs T2)) := hb.alloc hb.size _
  exact h1.grown hg (by have := hb.size; simp; omega) (fun k hk => (hown.lt k hk).1)
set_option maxRecDepth 100000 in
set_option maxHeartbeats 2000000 in
theorem num_ref (n : Int) (w : World) (hn : Fits n) : Calls Try.prog 41 #[.int .i64 n] w fun e w' => e = .returned (.string (mkb (num n))) ∧ Below w.heap.size w w' := by
  obtain ⟨i0, hi0, hz0, hz1, hz2⟩ := info_parts info5
  have HI0 := Lib.hid hi0
  have HI1 := Lib.hid hz0
  have HI2 := Lib.hid hz1
  have HI3 := Lib.hid hz2
  clear hi0 hz0 hz1 hz2
  have hz := zz_lt n hn.1 hn.2
  obtain ⟨hn0, hn1⟩ := hn
  obtain ⟨Z, hZ⟩ : ∃ Z, zz n = Z := ⟨_, rfl⟩
  have hnum : num n = leb Z := by unfold num; rw [hZ]
  have e1 : n < 0 → -(n + 1) * 2 + 1 = (Z : Int) := fun h => by unfold zz at hZ; split at hZ <;> omega
  have e2 : 0 ≤ n → n * 2 = (Z : Int) := fun h => by unfold zz at hZ; split at hZ <;> omega
  rw [hZ] at hz
  have HNUM := Lib.hid hnum
  have E1 := Lib.hid e1
  have E2 := Lib.hid e2
  have HL := num_len n ⟨hn0, hn1⟩
  rw [hnum] at HL
  have HLE := Lib.hid HL
  clear hZ hnum e1 e2 HL
  rw [HNUM.out]
  by_cases hneg : n < 0
  all_goals
    go_enter Try.func41, Try.ntmps41
    go_wp2_with fail
    first | rw [E1.out hneg] | rw [E2.out (by omega)]
    go_loopw [3, 4] (fun v3 v4 wr => ∃ (z : Nat) (ys : List UInt8), v3 = .int .u64 (z : Int) ∧ z < 18446744073709551616 ∧ wr.ownsRow w.heap.size 5 1 v4 ys.length (ys.map cell8) ∧ ys ++ leb z = leb Z ∧ Below w.heap.size w wr) (fun v3 _ _ => (intOf v3).toNat)
    case atStart => exact ⟨Z, [], rfl, hz, World.ownsRow_nil _ _ _ _, rfl, Below.refl _ _⟩
    case round =>
      obtain ⟨z, ys, rfl, hz1, hown, hys, hbel⟩ := hrel
      have hlen : ys.length + 1 ≤ 10 := by
        have h1 := congrArg List.length hys
        have h2 := HLE.out
        have h3 := leb_pos z
        rw [List.length_append] at h1
        omega
      have HO := Lib.hid hown
      have HY := Lib.hid hys
      have HB := Lib.hid hbel
      have hws := hbel.size
      clear hown hys hbel
      by_cases hlt : z < 128
      · have hnews : Hid (∀ j u, [Value.int .u8 (z : Int)][j]? = some u → (wr.alloc (.cells #[.int .u8 (z : Int)] 5)).cell? ((⟨wr.heap.size, 0, none⟩ : Addr).add j) = some u) := fun j u hj => World.news_of_block (blk_new wr _) j u (by simpa using hj)
        have dz : decide ((128 : Int) ≤ (z : Int)) = false := decide_eq_false (by omega)
        go_wp2_with (at_builtin; (refine wpList_append_lies _ rfl (.tmp 27) (.tmp 30) 131 rfl w.heap.size 5 i0 (.int .u8 0) 1 1 Try.underlying131 HI0.out HI1.out HI2.out HI3.out rfl (by decide) u4 ys.length (ys.map cell8) (by simp [Act.eval]) (HO.out.alloc _) ⟨wr.heap.size, 0, none⟩ 1 1 [.int .u8 (z : Int)] (by simp [Act.eval]) rfl hnews.out (by simp [Value.oneCell']) (by omega) (by simp only [maxLen]; omega) (by omega) (Nat.le_trans hws (by simp)) (wr.heap.size + 1) (by simp) ?_); intro g' cap' w' hown hgrow hrow hlt2; rw [← u8_cell z (by omega)] at hown; have hcv := conv_own (A := some ⟨g', 0, none⟩) (n := ys.length + 1) (c := cap') (base := w.heap.size) (l := ys ++ [UInt8.ofNat z]) (by simpa using hown); have HG := Lib.hid hgrow; have HW := Lib.hid hown; clear hown hgrow)
        go_ret
        refine ⟨?_, own_grown_below HB.out HO.out HG.out⟩
        rw [← HY.out, leb.eq_def z, dif_pos hlt]
        rfl
      · have hnews : Hid (∀ j u, [Value.int .u8 ((z : Int) % 128 + 128)][j]? = some u → (wr.alloc (.cells #[.int .u8 ((z : Int) % 128 + 128)] 5)).cell? ((⟨wr.heap.size, 0, none⟩ : Addr).add j) = some u) := fun j u hj => World.news_of_block (blk_new wr _) j u (by simpa using hj)
        have dz : decide ((128 : Int) ≤ (z : Int)) = true := decide_eq_true (by omega)
        go_wp2_with (at_builtin; (refine wpList_append_lies _ rfl (.tmp 18) (.tmp 23) 131 rfl w.heap.size 5 i0 (.int .u8 0) 1 1 Try.underlying131 HI0.out HI1.out HI2.out HI3.out rfl (by decide) u4 ys.length (ys.map cell8) (by simp [Act.eval]) (HO.out.alloc _) ⟨wr.heap.size, 0, none⟩ 1 1 [.int .u8 ((z : Int) % 128 + 128)] (by simp [Act.eval]) rfl hnews.out (by simp [Value.oneCell']) (by omega) (by simp only [maxLen]; omega) (by omega) (Nat.le_trans hws (by simp)) (wr.heap.size + 1) (by simp) ?_); intro g' cap' w' hown hgrow hrow hlt2; have HG := Lib.hid hgrow; have HW := Lib.hid hown; clear hown hgrow)
        go_roundw
        case rel =>
          have hown := HW.out
          have e3 : ((z : Int) % 128 + 128) = ((z % 128 + 128 : Nat) : Int) := by omega
          rw [e3, ← u8_cell (z % 128 + 128) (by omega)] at hown
          refine ⟨z / 128, ys ++ [UInt8.ofNat (z % 128 + 128)], rfl, by omega, by simpa using hown, ?_, own_grown_below HB.out HO.out HG.out⟩
          rw [← HY.out, leb.eq_def z, dif_neg hlt, List.append_assoc]
          rfl
        case measure => simp [intOf]; omega
set_option maxRecDepth 100000 in
theorem flag_ref (b : Bool) (w : World) : Calls Try.prog 30 #[.bool b] w fun e w' => e = .returned (.string (mkb (cFlag.enc b))) ∧ Below w.heap.size w w' := by
  cases b
  · go_enter Try.func30, Try.ntmps30
    go_wp2_with fail
    refine (num_ref 0 _ fits0).mono ?_
    rintro e w1 ⟨rfl, hb⟩
    go_wp2_with fail
    go_ret
    exact ⟨rfl, hb⟩
  · go_enter Try.func30, Try.ntmps30
    go_wp2_with fail
    refine (num_ref 1 _ ⟨by decide, by decide⟩).mono ?_
    rintro e w1 ⟨rfl, hb⟩
    go_wp2_with fail
    go_ret
    exact ⟨rfl, hb⟩
theorem str_enc (y : ByteArray) : mkb (num (y.size : Int)) ++ y = mkb (cStr.enc y) := by
  have h : cStr.enc y = num (y.data.toList.length : Int) ++ y.data.toList := rfl
  rw [h, ← mkb_append, mkb_self]
  simp
set_option maxRecDepth 100000 in
theorem text_ref (y : ByteArray) (w : World) (hy : y.size ≤ 281474976710656) : Calls Try.prog 32 #[.string y] w fun e w' => e = .returned (.string (mkb (cStr.enc y))) ∧ Below w.heap.size w w' := by
  go_enter Try.func32, Try.ntmps32
  go_wp2_with fail
  refine (num_ref (y.size : Int) _ ⟨by omega, by omega⟩).mono ?_
  rintro e w1 ⟨rfl, hb⟩
  have hs : ¬ 9223372036854775807 < (mkb (num (y.size : Int))).size + y.size := by
    have := num_len (y.size : Int) ⟨by omega, by omega⟩
    rw [mkb_size]
    omega
  go_wp2_with fail
  go_ret
  exact ⟨by rw [← str_enc]; rfl, hb⟩
theorem nums_len (l : List Int) (h : ∀ n ∈ l, Fits n) : (l.flatMap num).length ≤ 10 * l.length := by
  induction l with
  | nil => simp
  | cons a l ih =>
    have h1 := num_len a (h a List.mem_cons_self)
    have h2 := ih (fun n hn => h n (List.mem_cons_of_mem _ hn))
    simp only [List.flatMap_cons, List.length_append, List.length_cons]
    omega
theorem flat_snoc (l : List Int) (k : Nat) (y : Int) (hy : l[k]? = some y) : (l.take (k + 1)).flatMap num = (l.take k).flatMap num ++ num y := by
  have hk : k < l.length := (List.getElem?_eq_some_iff.1 hy).1
  have he : l[k] = y := (List.getElem?_eq_some_iff.1 hy).2
  rw [List.take_succ_eq_append_getElem hk, List.flatMap_append, he]
  simp
set_option maxRecDepth 100000 in
set_option maxHeartbeats 2000000 in
theorem nums_ref (l : List Int) (q c : Nat) (w : World) (hl : l.length ≤ 1000) (hf : ∀ n ∈ l, Fits n) (hc : ∀ i y, l[i]? = some y → w.cell? ⟨q, i, none⟩ = some (.int .i64 y)) :
    Calls Try.prog 29 #[.slice (some ⟨q, 0, none⟩) l.length c] w fun e w' => e = .returned (.string (mkb (l.flatMap num))) ∧ Below w.heap.size w w' := by
  have HF := Lib.hid hf
  have HC := Lib.hid hc
  clear hf hc
  go_enter Try.func29, Try.ntmps29
  go_wp2_with fail
  go_loopw [3, 4] (fun v3 v4 wr => ∃ k : Nat, v4 = .int .i64 (k : Int) ∧ k ≤ l.length ∧ v3 = .string (mkb ((l.take k).flatMap num)) ∧ Below w.heap.size w wr) (fun _ v4 _ => l.length - (intOf v4).toNat)
  case atStart => exact ⟨0, rfl, by omega, by rw [List.take_zero]; rfl, Below.refl _ _⟩
  case round =>
    obtain ⟨k, rfl, hk, rfl, hb⟩ := hrel
    have HB := Lib.hid hb
    clear hb
    by_cases hlt : k < l.length
    · obtain ⟨y, hy⟩ : ∃ y, l[k]? = some y := ⟨_, List.getElem?_eq_getElem hlt⟩
      have hqc := HC.out k y hy
      have hcell : wr.cell? ⟨q, k, none⟩ = some (.int .i64 y) := (HB.out.cell (p := ⟨q, k, none⟩) (World.block_lt_of_cell? w _ hqc)).trans hqc
      have HY := Lib.hid hy
      have hfy := HF.out y (List.mem_of_getElem? hy)
      have hsz : ¬ 9223372036854775807 < (mkb ((l.take k).flatMap num)).size + (mkb (num y)).size := by
        have h1 := nums_len (l.take k) (fun n hn => HF.out n (List.mem_of_mem_take hn))
        have h2 := num_len y hfy
        rw [mkb_size, mkb_size]
        rw [List.length_take] at h1
        omega
      have HFY := Lib.hid hfy
      clear hy hqc hfy
      go_wp2_with fail
      refine (num_ref y _ HFY.out).mono ?_
      rintro e w1 ⟨rfl, hb1⟩
      have HB1 := Lib.hid hb1
      clear hb1
      go_wp2_with fail
      go_roundw
      case rel =>
        refine ⟨k + 1, by go_num, by omega, ?_, below_step HB.out HB1.out⟩
        rw [flat_snoc l k y HY.out, ← mkb_append]
      case measure => simp [intOf]; omega
    · obtain rfl : k = l.length := by omega
      go_wp2_with fail
      go_ret
      refine ⟨?_, HB.out⟩
      rw [List.take_length]
      rfl
end Go.Proofs.Ytlcgkcmicklihaa.Wire
