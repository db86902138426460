/- Lists of tables. -/
import Derived.Test.YtlcgkcmicklihaaMBase
import Derived.Test.YtlcgkcmicklihaaIE
namespace Go.Proofs.Ytlcgkcmicklihaa.Wire
set_option linter.unusedVariables false
set_option linter.unusedSimpArgs false
open Go.RowKit Go.Proofs.YtlcgkcmicklihaaW.PrintWords Go.Proofs.YtlcgkcmicklihaaW.PrintLast Go.Proofs.YtlcgkcmicklihaaW.PrintMore
theorem info202 : (Try.prog.info? 202).map (fun i => (i.zero, i.size, decide (i.bytes ≤ 1024))) = some (some (.agg tIndex.zcells.toArray), 5, true) := by kernel_rfl
set_option maxRecDepth 100000 in
set_option maxHeartbeats 2000000 in
theorem items_index : CodesF 90 (.func (.func 91) #[] #[]) (.list tIndex) := by
  intro g b T o pre post s c ok x w h ho
  obtain ⟨A, cap, hc, hH, hB⟩ := h.cell_list ho
  have hbg := h.bg
  have hgb : g ≠ b := fun e => hbg e.symm
  have HO := Lib.hid ho
  have HR := Lib.hid h
  obtain ⟨i0, hi0, hz0, hz1, hz2⟩ := info_small info202
  have HI0 := Lib.hid hi0
  have HI1 := Lib.hid hz0
  have HI2 := Lib.hid hz1
  have HI3 := Lib.hid hz2
  clear hi0 hz0 hz1 hz2
  cases s with
  | wr out =>
    obtain ⟨L, hL⟩ : ∃ L, x.length = L := ⟨_, rfl⟩
    have hok : x.length ≤ top := h.good.1
    have hff := fit_head h
    rw [hL] at hc hH hB hok hff
    have HL := Lib.hid hL
    have HOK := Lib.hid hok
    have hL2 : L ≤ 9223372036854775807 := hok
    clear ho h hL hok
    go_enter Try.func90, Try.ntmps90
    go_wp2_with fail
    refine (num_calls (y := (L : Int)) HR.out.co ⟨by omega, by omega⟩ HR.out.f0 hff).mono ?_
    rintro ed w1 ⟨rfl, c1, hd⟩
    obtain ⟨q1, q2, q3, k2, _⟩ := hd.beside
    clear hd
    obtain ⟨k0, k1⟩ := HR.out.kept q2 o
    rw [hc] at k0
    have Q1 := Lib.hid q1
    have Q2 := Lib.hid q2
    have Q3 := Lib.hid q3
    have HH := Lib.hid hH.bound
    have HBk := Lib.hid hB
    obtain ⟨v, hW, hcv⟩ := q1.wr
    have g1 := hW.c1
    clear q1 q2 q3 hW hcv hc hH hB hff
    go_wp2_with fail
    go_loopw [26] (fun v26 wr => ∃ (k : Nat) (c' : Option Nat), v26 = .int .i64 (k : Int) ∧ k ≤ L ∧ Co g (.wr (out ++ num (L : Int) ++ encs tIndex.cod (x.take k))) c' wr ∧ Next w c c' ∧ Fr w wr (Own g c)) (fun v26 _ => L - (intOf v26).toNat)
    case atStart => exact ⟨0, c1, rfl, by omega, by simpa [encs, Sg.run, cNum] using Q1.out, Q3.out, Q2.out⟩
    case round =>
      obtain ⟨k, c', rfl, hk, hCo, hNx, hFr⟩ := hrel
      have HC := Lib.hid hCo
      have HN := Lib.hid hNx
      have HF := Lib.hid hFr
      clear hCo hNx hFr
      by_cases hlt : k < L
      · obtain ⟨y, hy⟩ : ∃ y, x[k]? = some y := ⟨_, List.getElem?_eq_getElem (by rw [HL.out]; exact hlt)⟩
        obtain ⟨k0', k1'⟩ := HR.out.kept HF.out o
        rw [← HR.out.kept Q2.out o |>.1, k0] at k0'
        have HHr := Lib.hid (HH.out.fr HF.out (fun k hk hS => hS.elim (HR.out.sep k hk.1).1 (HR.out.sep k hk.1).2.2))
        obtain ⟨ab, ao, cs, rfl, hoka, hHy, hcs⟩ := HHr.out.list_at hy
        have hl4 := hHy.len
        have h14 := hHy.one
        obtain ⟨u0, u1, u2, u3, u4, rfl⟩ : ∃ u0 u1 u2 u3 u4, cs = [u0, u1, u2, u3, u4] := by
          match cs, hl4 with
          | [u0, u1, u2, u3, u4], _ => exact ⟨u0, u1, u2, u3, u4, rfl⟩
        have m0 : wr.cell? ⟨ab, ao + k * 5, none⟩ = some u0 := hcs 0 _ rfl
        have m1 : wr.cell? ⟨ab, ao + k * 5 + 1, none⟩ = some u1 := hcs 1 _ rfl
        have m2 : wr.cell? ⟨ab, ao + k * 5 + 2, none⟩ = some u2 := hcs 2 _ rfl
        have m3 : wr.cell? ⟨ab, ao + k * 5 + 3, none⟩ = some u3 := hcs 3 _ rfl
        have m4 : wr.cell? ⟨ab, ao + k * 5 + 4, none⟩ = some u4 := hcs 4 _ rfl
        have o0 := h14 u0 (by simp)
        have o1 := h14 u1 (by simp)
        have o2 := h14 u2 (by simp)
        have o3 := h14 u3 (by simp)
        have o4 := h14 u4 (by simp)
        have HHy := Lib.hid hHy
        have HY := Lib.hid hy
        clear hcs hHy h14 hl4 hy
        go_wp2_with ((with_reducible refine gate_store (t := 202) (p := .tmp 8) (x := .tmp 34) rfl ?_); refine wpList_store_new (t := 202) rfl (.tmp 8) (.tmp 34) rfl #[u0, u1, u2, u3, u4] (by simp [Act.eval]) (by simp [Act.eval]) (by kernel_rfl) rfl (by simp [o0, o1, o2, o3, o4]) ?_)
        refine (codes_index (Pre.elem_wr HC.out HHy.out (fun i hi => ⟨(HR.out.sep i hi.1).1, fun _ => HN.out.ne (HR.out.sep i hi.1).2.2 hi.2⟩) (HR.out.good.2 _ (List.mem_of_getElem? HY.out)) (by rw [← HL.out]; exact fit_elem HR.out HY.out)) rfl).mono ?_
        rintro ee w2 ⟨rfl, c2, hd⟩
        obtain ⟨d1, d2, d3⟩ := hd.elem
        have D1 := Lib.hid d1
        have D2 := Lib.hid d2
        have D3 := Lib.hid d3
        clear hd d1 d2 d3 m0 m1 m2 m3 m4 o0 o1 o2 o3 o4 k0'
        go_wp2_with fail
        go_roundw
        case rel =>
          refine ⟨k + 1, c2, by go_num, hlt, ?_, HN.out.trans D3.out HF.out.size, HF.out.trans D2.out (Own.next HN.out)⟩
          rw [encs_snoc _ x k y HY.out, ← List.append_assoc]
          exact D1.out
        case measure => simp [intOf]; omega
      · obtain rfl : k = L := by omega
        go_wp2_with fail
        refine bodyPost_ret (results_none rfl _ _ _) rfl ?_
        obtain rfl := HL.out
        exact ⟨rfl, c', Done.list_wr HR.out HC.out HN.out HF.out⟩
  | rd st =>
    have hx : x = [] := h.good
    subst hx
    have hfit : st.bs.length ≤ 68719476736 := h.f0
    have hB0 := h.zero_list
    have hc0 : w.cell? ⟨b, o, none⟩ = some (.slice none 0 0) := hB0.cell ho
    clear hc hH hB
    have hbw := h.blt
    clear ho h
    go_enter Try.func90, Try.ntmps90
    go_wp2_with fail
    refine (num_calls (y := 0) HR.out.co rfl HR.out.f0 (Nat.le_trans (rdNum_le 0 st) hfit)).mono ?_
    rintro ed w1 ⟨rfl, c1, hd⟩
    obtain ⟨q1, q2, q3, k2, _⟩ := hd.beside
    have HAP := Lib.hid (hd.apart HR.out.co)
    clear hd
    obtain ⟨k0, k1⟩ := HR.out.kept q2 o
    rw [hc0] at k0
    obtain ⟨n1, bs, bad, hrd⟩ : ∃ n1 bs bad, rdNum 0 st = (n1, ⟨bs, bad⟩) := ⟨_, _, _, rfl⟩
    have hle := rdNum_le 0 st
    have hfn := rdNum_fits 0 fits0 st
    have e1 : (Sg.run cNum (Sg.rd st) 0).1 = n1 := congrArg Prod.fst hrd
    have e2 : (Sg.run cNum (Sg.rd st) 0).2 = .rd ⟨bs, bad⟩ := congrArg (fun p : Int × St => Sg.rd p.2) hrd
    rw [e1] at k2
    rw [e2] at q1
    rw [hrd] at hle hfn
    simp only [] at hle hfn
    obtain ⟨hfn0, hfn1⟩ := hfn
    have Q1 := Lib.hid q1
    have Q2 := Lib.hid q2
    have Q3 := Lib.hid q3
    have HRD := Lib.hid hrd
    have HB1 := Lib.hid (hB0.fr q2 (fun hk => hk.elim HR.out.bg HR.out.bc))
    have HK2 := Lib.hid k2
    obtain ⟨r, off, cap1, hR, hcr⟩ := q1.rd
    have g1 := hR.c1
    clear q1 q2 q3 hR hcr hc0 e1 e2 hrd hB0
    go_wp2_with fail
    clear k0 k1 g1
    go_loopw [40] (fun v40 wr => ∃ (k : Nat) (acc : List tIndex.T) (rows : List (List Value)) (s' : St) (c' : Option Nat) (v : Value), v40 = .int .i64 (k : Int) ∧ k ≤ n1.toNat ∧ listGo tIndex.cod n1.toNat [] ⟨bs, bad⟩ = listGo tIndex.cod (n1.toNat - k) acc s' ∧ acc.length + s'.bs.length ≤ bs.length ∧
      Co g (.rd s') c' wr ∧ Next w c c' ∧ Fr w wr (fun i => Own g c i ∨ i = b) ∧ Blk wr b T pre [v] post ∧ Row tIndex 202 w.heap.size c' wr v acc rows ∧ wr.cell? ⟨w.heap.size, 0, none⟩ = some (.int .i64 n1) ∧ c' ≠ some w.heap.size ∧ v.ownBlock ≠ some w.heap.size) (fun v40 _ => n1.toNat - (intOf v40).toNat)
    case atStart => exact ⟨0, [], [], ⟨bs, bad⟩, c1, .slice none 0 0, rfl, Nat.zero_le _, rfl, by simp, Q1.out, Q3.out, Q2.out.mono (fun i hi => .inl hi), HB1.out, Row.nil, HK2.out, HAP.out, by simp [Value.ownBlock]⟩
    case round =>
      obtain ⟨k, acc, rows, s', c', v, rfl, hk, hgo, hlen, hCo, hNx, hFr, hBk, hRow, hn, hcq, hvq⟩ := hrel
      have HCQ := Lib.hid hcq
      have HVQ := Lib.hid hvq
      have HQ := Lib.hid hn
      clear hcq hvq
      obtain ⟨bs', bad'⟩ := s'
      have HGO := Lib.hid hgo
      have HN := Lib.hid hNx
      have HF := Lib.hid hFr
      have HB := Lib.hid hBk
      have HRow := Lib.hid hRow
      have HC := Lib.hid hCo
      obtain ⟨r', off', cap', hR, hcr⟩ := hCo.rd
      have g0 := hR.c0
      have g2 := hR.c2
      have f2 := hR.free 2
      simp only [] at g0 g2 hlen
      have HLEN := Lib.hid hlen
      clear hgo hNx hFr hBk hRow hCo hR hcr hlen
      by_cases hlt : (k : Int) < n1
      · have dk : decide ((k : Int) < n1) = true := decide_eq_true hlt
        by_cases hbad : bad' = true
        · subst hbad
          go_wp2_with fail
          refine bodyPost_ret (results_none rfl _ _ _) rfl ?_
          exact ⟨rfl, c', Done.list_cut HR.out HRD.out HGO.out hlt (.inl rfl) HC.out HN.out HF.out HB.out HRow.out⟩
        · rw [Bool.not_eq_true] at hbad
          subst hbad
          by_cases hemp : bs' = []
          · subst hemp
            go_wp2_with fail
            refine bodyPost_ret (results_none rfl _ _ _) rfl ?_
            exact ⟨rfl, c', Done.list_cut HR.out HRD.out HGO.out hlt (.inr rfl) HC.out HN.out HF.out HB.out HRow.out⟩
          · have hl0 : 0 < bs'.length := List.length_pos_iff.2 hemp
            have dl : ((bs'.length : Int) == 0) = false := by simpa using hemp
            go_wp2_with fail
            refine (codes_index (Pre.elem_rd HC.out (Nat.le_trans (Nat.le_trans (Nat.le_add_left _ _) HLEN.out) (Nat.le_trans hle hfit))) rfl).mono ?_
            rintro ee w2 ⟨rfl, c2, hd⟩
            obtain ⟨m1, m2, m3, hbw2, seg, m4, m5⟩ := list_mid HR.out HN.out HF.out.size HB.out HRow.out hd
            have hl4 := m4.len
            have h14 := m4.one
            obtain ⟨u0, u1, u2, u3, u4, rfl⟩ : ∃ u0 u1 u2 u3 u4, seg = [u0, u1, u2, u3, u4] := by
              match seg, hl4 with
              | [u0, u1, u2, u3, u4], _ => exact ⟨u0, u1, u2, u3, u4, rfl⟩
            obtain ⟨A, cpv, rfl⟩ := own_is_slice m2.2.2.1
            have z0 := m1.cell HO.out
            have z1 := m1.free o
            have x0 : w2.cell? ⟨wr.heap.size, 0, none⟩ = some u0 := (blk_cell m5 0).trans rfl
            have x1 : w2.cell? ⟨wr.heap.size, 1, none⟩ = some u1 := (blk_cell m5 1).trans rfl
            have x2 : w2.cell? ⟨wr.heap.size, 2, none⟩ = some u2 := (blk_cell m5 2).trans rfl
            have x3 : w2.cell? ⟨wr.heap.size, 3, none⟩ = some u3 := (blk_cell m5 3).trans rfl
            have x4 : w2.cell? ⟨wr.heap.size, 4, none⟩ = some u4 := (blk_cell m5 4).trans rfl
            have o0 := h14 u0 (by simp)
            have o1 := h14 u1 (by simp)
            have o2 := h14 u2 (by simp)
            have o3 := h14 u3 (by simp)
            have o4 := h14 u4 (by simp)
            obtain ⟨al, hal⟩ : ∃ al, acc.length = al := ⟨_, rfl⟩
            have hrow3 := m2.2.2.1
            have hlen2 := HLEN.out
            rw [hal] at hrow3 z0 hlen2 m1 m2 m3 m4
            have hws2 : w.heap.size ≤ w2.heap.size := Nat.le_trans HF.out.size hd.elem.2.1.size
            have hb2 : b < w2.heap.size := Nat.lt_of_lt_of_le hbw2 hws2
            have hal2 : al ≤ 68719476736 := by omega
            have HAL := Lib.hid hal
            have M1 := Lib.hid m1
            have M2 := Lib.hid m2
            have M3 := Lib.hid m3
            have M4 := Lib.hid m4
            have M5 := Lib.hid m5
            have HD := Lib.hid hd
            have HOWN := Lib.hid hrow3
            have hnews : Hid (∀ j u, [u0, u1, u2, u3, u4][j]? = some u → (w2.alloc (.cells #[u0, u1, u2, u3, u4] 202)).drew.cell? ((⟨w2.heap.size, 0, none⟩ : Addr).add j) = some u) := fun j u hj => World.news_of_block (blk_drew (blk_new w2 _)) j u (by simpa using hj)
            clear hal m1 m2 m3 m4 m5 hd hrow3 hlen2 hl4 h14 g0 g2 f2 hn
            go_wp2_with fail
            go_region_law (refine step_append_lies _ rfl (.tmp 63) (.tmp 65) 81 rfl w.heap.size 202 i0 (.agg tIndex.zcells.toArray) 5 i0.bytes Try.underlying81 HI0.out HI1.out HI2.out rfl rfl (by decide) _ al rows.flatten (by simp [Act.eval]) ((HOWN.out.alloc _).drew) ⟨w2.heap.size, 0, none⟩ 1 1 [u0, u1, u2, u3, u4] (by simp [Act.eval]) rfl hnews.out (by simp [o0, o1, o2, o3, o4]) (by omega) (by simp only [maxLen]; omega) (bytes_le HI3.out hal2) (Nat.le_trans hws2 (by simp)) (w2.heap.size + 1) (by simp) ?_; intro g' cap' w' hown hgrow hrow hlt2; have kb := (Fr.of_grown hgrow).blk (M1.out.fr (Fr.of_below below2 (fun _ => False)) (fun h => h)) (fun he => absurd (M3.out b he) (by omega)); have k0' := Blk.cell kb HO.out; have k1' := Blk.free kb o)
            all_goals
              go_wp2_with fail
              go_roundw
              case rel =>
                obtain ⟨r1, r2, r3, r4, r5, r6, r7, r8⟩ := list_round (seg := [u0, u1, u2, u3, u4]) HR.out HO.out HN.out HF.out HQ.out HCQ.out HD.out M1.out M2.out M3.out (by rw [← HAL.out]; exact HVQ.out) M4.out (below2 (cs := #[u0, u1, u2, u3, u4]) (T2 := 202)) hgrow (by rw [HAL.out]; exact hown) (at_next hrow)
                have hkn : k < n1.toNat := by omega
                have hlt3 := tIndex.cod.lt bs' hemp
                refine ⟨k + 1, _, _, _, c2, _, by go_num, by omega, HGO.out.trans (list_more hkn hemp), ?_, r1, r2, r3, r4, r5, r6, r7, r8⟩
                rw [List.length_append, List.length_singleton]
                have := HLEN.out
                omega
              case measure => simp [intOf]; omega
      · have dk : decide ((k : Int) < n1) = false := decide_eq_false hlt
        have HLT := Lib.hid hlt
        cases bad'
        · go_wp2_with fail
          all_goals
            go_end0
            exact ⟨rfl, c', Done.list_end HR.out HRD.out HGO.out (by have h9 := HLT.out; omega) HC.out rfl HN.out HF.out HB.out HRow.out⟩
        · go_wp2_with fail
          all_goals
            go_end0
            exact ⟨rfl, c', Done.list_end HR.out HRD.out HGO.out (by have h9 := HLT.out; omega) HC.out rfl HN.out HF.out HB.out HRow.out⟩
theorem info204 : (Try.prog.info? 204).map (fun i => (i.zero, i.size, decide (i.bytes ≤ 1024))) = some (some (.agg tForeign.zcells.toArray), 5, true) := by kernel_rfl
set_option maxRecDepth 100000 in
set_option maxHeartbeats 2000000 in
theorem items_foreign : CodesF 92 (.func (.func 93) #[] #[]) (.list tForeign) := by
  intro g b T o pre post s c ok x w h ho
  obtain ⟨A, cap, hc, hH, hB⟩ := h.cell_list ho
  have hbg := h.bg
  have hgb : g ≠ b := fun e => hbg e.symm
  have HO := Lib.hid ho
  have HR := Lib.hid h
  obtain ⟨i0, hi0, hz0, hz1, hz2⟩ := info_small info204
  have HI0 := Lib.hid hi0
  have HI1 := Lib.hid hz0
  have HI2 := Lib.hid hz1
  have HI3 := Lib.hid hz2
  clear hi0 hz0 hz1 hz2
  cases s with
  | wr out =>
    obtain ⟨L, hL⟩ : ∃ L, x.length = L := ⟨_, rfl⟩
    have hok : x.length ≤ top := h.good.1
    have hff := fit_head h
    rw [hL] at hc hH hB hok hff
    have HL := Lib.hid hL
    have HOK := Lib.hid hok
    have hL2 : L ≤ 9223372036854775807 := hok
    clear ho h hL hok
    go_enter Try.func92, Try.ntmps92
    go_wp2_with fail
    refine (num_calls (y := (L : Int)) HR.out.co ⟨by omega, by omega⟩ HR.out.f0 hff).mono ?_
    rintro ed w1 ⟨rfl, c1, hd⟩
    obtain ⟨q1, q2, q3, k2, _⟩ := hd.beside
    clear hd
    obtain ⟨k0, k1⟩ := HR.out.kept q2 o
    rw [hc] at k0
    have Q1 := Lib.hid q1
    have Q2 := Lib.hid q2
    have Q3 := Lib.hid q3
    have HH := Lib.hid hH.bound
    have HBk := Lib.hid hB
    obtain ⟨v, hW, hcv⟩ := q1.wr
    have g1 := hW.c1
    clear q1 q2 q3 hW hcv hc hH hB hff
    go_wp2_with fail
    go_loopw [26] (fun v26 wr => ∃ (k : Nat) (c' : Option Nat), v26 = .int .i64 (k : Int) ∧ k ≤ L ∧ Co g (.wr (out ++ num (L : Int) ++ encs tForeign.cod (x.take k))) c' wr ∧ Next w c c' ∧ Fr w wr (Own g c)) (fun v26 _ => L - (intOf v26).toNat)
    case atStart => exact ⟨0, c1, rfl, by omega, by simpa [encs, Sg.run, cNum] using Q1.out, Q3.out, Q2.out⟩
    case round =>
      obtain ⟨k, c', rfl, hk, hCo, hNx, hFr⟩ := hrel
      have HC := Lib.hid hCo
      have HN := Lib.hid hNx
      have HF := Lib.hid hFr
      clear hCo hNx hFr
      by_cases hlt : k < L
      · obtain ⟨y, hy⟩ : ∃ y, x[k]? = some y := ⟨_, List.getElem?_eq_getElem (by rw [HL.out]; exact hlt)⟩
        obtain ⟨k0', k1'⟩ := HR.out.kept HF.out o
        rw [← HR.out.kept Q2.out o |>.1, k0] at k0'
        have HHr := Lib.hid (HH.out.fr HF.out (fun k hk hS => hS.elim (HR.out.sep k hk.1).1 (HR.out.sep k hk.1).2.2))
        obtain ⟨ab, ao, cs, rfl, hoka, hHy, hcs⟩ := HHr.out.list_at hy
        have hl4 := hHy.len
        have h14 := hHy.one
        obtain ⟨u0, u1, u2, u3, u4, rfl⟩ : ∃ u0 u1 u2 u3 u4, cs = [u0, u1, u2, u3, u4] := by
          match cs, hl4 with
          | [u0, u1, u2, u3, u4], _ => exact ⟨u0, u1, u2, u3, u4, rfl⟩
        have m0 : wr.cell? ⟨ab, ao + k * 5, none⟩ = some u0 := hcs 0 _ rfl
        have m1 : wr.cell? ⟨ab, ao + k * 5 + 1, none⟩ = some u1 := hcs 1 _ rfl
        have m2 : wr.cell? ⟨ab, ao + k * 5 + 2, none⟩ = some u2 := hcs 2 _ rfl
        have m3 : wr.cell? ⟨ab, ao + k * 5 + 3, none⟩ = some u3 := hcs 3 _ rfl
        have m4 : wr.cell? ⟨ab, ao + k * 5 + 4, none⟩ = some u4 := hcs 4 _ rfl
        have o0 := h14 u0 (by simp)
        have o1 := h14 u1 (by simp)
        have o2 := h14 u2 (by simp)
        have o3 := h14 u3 (by simp)
        have o4 := h14 u4 (by simp)
        have HHy := Lib.hid hHy
        have HY := Lib.hid hy
        clear hcs hHy h14 hl4 hy
        go_wp2_with ((with_reducible refine gate_store (t := 204) (p := .tmp 8) (x := .tmp 34) rfl ?_); refine wpList_store_new (t := 204) rfl (.tmp 8) (.tmp 34) rfl #[u0, u1, u2, u3, u4] (by simp [Act.eval]) (by simp [Act.eval]) (by kernel_rfl) rfl (by simp [o0, o1, o2, o3, o4]) ?_)
        refine (codes_foreign (Pre.elem_wr HC.out HHy.out (fun i hi => ⟨(HR.out.sep i hi.1).1, fun _ => HN.out.ne (HR.out.sep i hi.1).2.2 hi.2⟩) (HR.out.good.2 _ (List.mem_of_getElem? HY.out)) (by rw [← HL.out]; exact fit_elem HR.out HY.out)) rfl).mono ?_
        rintro ee w2 ⟨rfl, c2, hd⟩
        obtain ⟨d1, d2, d3⟩ := hd.elem
        have D1 := Lib.hid d1
        have D2 := Lib.hid d2
        have D3 := Lib.hid d3
        clear hd d1 d2 d3 m0 m1 m2 m3 m4 o0 o1 o2 o3 o4 k0'
        go_wp2_with fail
        go_roundw
        case rel =>
          refine ⟨k + 1, c2, by go_num, hlt, ?_, HN.out.trans D3.out HF.out.size, HF.out.trans D2.out (Own.next HN.out)⟩
          rw [encs_snoc _ x k y HY.out, ← List.append_assoc]
          exact D1.out
        case measure => simp [intOf]; omega
      · obtain rfl : k = L := by omega
        go_wp2_with fail
        refine bodyPost_ret (results_none rfl _ _ _) rfl ?_
        obtain rfl := HL.out
        exact ⟨rfl, c', Done.list_wr HR.out HC.out HN.out HF.out⟩
  | rd st =>
    have hx : x = [] := h.good
    subst hx
    have hfit : st.bs.length ≤ 68719476736 := h.f0
    have hB0 := h.zero_list
    have hc0 : w.cell? ⟨b, o, none⟩ = some (.slice none 0 0) := hB0.cell ho
    clear hc hH hB
    have hbw := h.blt
    clear ho h
    go_enter Try.func92, Try.ntmps92
    go_wp2_with fail
    refine (num_calls (y := 0) HR.out.co rfl HR.out.f0 (Nat.le_trans (rdNum_le 0 st) hfit)).mono ?_
    rintro ed w1 ⟨rfl, c1, hd⟩
    obtain ⟨q1, q2, q3, k2, _⟩ := hd.beside
    have HAP := Lib.hid (hd.apart HR.out.co)
    clear hd
    obtain ⟨k0, k1⟩ := HR.out.kept q2 o
    rw [hc0] at k0
    obtain ⟨n1, bs, bad, hrd⟩ : ∃ n1 bs bad, rdNum 0 st = (n1, ⟨bs, bad⟩) := ⟨_, _, _, rfl⟩
    have hle := rdNum_le 0 st
    have hfn := rdNum_fits 0 fits0 st
    have e1 : (Sg.run cNum (Sg.rd st) 0).1 = n1 := congrArg Prod.fst hrd
    have e2 : (Sg.run cNum (Sg.rd st) 0).2 = .rd ⟨bs, bad⟩ := congrArg (fun p : Int × St => Sg.rd p.2) hrd
    rw [e1] at k2
    rw [e2] at q1
    rw [hrd] at hle hfn
    simp only [] at hle hfn
    obtain ⟨hfn0, hfn1⟩ := hfn
    have Q1 := Lib.hid q1
    have Q2 := Lib.hid q2
    have Q3 := Lib.hid q3
    have HRD := Lib.hid hrd
    have HB1 := Lib.hid (hB0.fr q2 (fun hk => hk.elim HR.out.bg HR.out.bc))
    have HK2 := Lib.hid k2
    obtain ⟨r, off, cap1, hR, hcr⟩ := q1.rd
    have g1 := hR.c1
    clear q1 q2 q3 hR hcr hc0 e1 e2 hrd hB0
    go_wp2_with fail
    clear k0 k1 g1
    go_loopw [40] (fun v40 wr => ∃ (k : Nat) (acc : List tForeign.T) (rows : List (List Value)) (s' : St) (c' : Option Nat) (v : Value), v40 = .int .i64 (k : Int) ∧ k ≤ n1.toNat ∧ listGo tForeign.cod n1.toNat [] ⟨bs, bad⟩ = listGo tForeign.cod (n1.toNat - k) acc s' ∧ acc.length + s'.bs.length ≤ bs.length ∧
      Co g (.rd s') c' wr ∧ Next w c c' ∧ Fr w wr (fun i => Own g c i ∨ i = b) ∧ Blk wr b T pre [v] post ∧ Row tForeign 204 w.heap.size c' wr v acc rows ∧ wr.cell? ⟨w.heap.size, 0, none⟩ = some (.int .i64 n1) ∧ c' ≠ some w.heap.size ∧ v.ownBlock ≠ some w.heap.size) (fun v40 _ => n1.toNat - (intOf v40).toNat)
    case atStart => exact ⟨0, [], [], ⟨bs, bad⟩, c1, .slice none 0 0, rfl, Nat.zero_le _, rfl, by simp, Q1.out, Q3.out, Q2.out.mono (fun i hi => .inl hi), HB1.out, Row.nil, HK2.out, HAP.out, by simp [Value.ownBlock]⟩
    case round =>
      obtain ⟨k, acc, rows, s', c', v, rfl, hk, hgo, hlen, hCo, hNx, hFr, hBk, hRow, hn, hcq, hvq⟩ := hrel
      have HCQ := Lib.hid hcq
      have HVQ := Lib.hid hvq
      have HQ := Lib.hid hn
      clear hcq hvq
      obtain ⟨bs', bad'⟩ := s'
      have HGO := Lib.hid hgo
      have HN := Lib.hid hNx
      have HF := Lib.hid hFr
      have HB := Lib.hid hBk
      have HRow := Lib.hid hRow
      have HC := Lib.hid hCo
      obtain ⟨r', off', cap', hR, hcr⟩ := hCo.rd
      have g0 := hR.c0
      have g2 := hR.c2
      have f2 := hR.free 2
      simp only [] at g0 g2 hlen
      have HLEN := Lib.hid hlen
      clear hgo hNx hFr hBk hRow hCo hR hcr hlen
      by_cases hlt : (k : Int) < n1
      · have dk : decide ((k : Int) < n1) = true := decide_eq_true hlt
        by_cases hbad : bad' = true
        · subst hbad
          go_wp2_with fail
          refine bodyPost_ret (results_none rfl _ _ _) rfl ?_
          exact ⟨rfl, c', Done.list_cut HR.out HRD.out HGO.out hlt (.inl rfl) HC.out HN.out HF.out HB.out HRow.out⟩
        · rw [Bool.not_eq_true] at hbad
          subst hbad
          by_cases hemp : bs' = []
          · subst hemp
            go_wp2_with fail
            refine bodyPost_ret (results_none rfl _ _ _) rfl ?_
            exact ⟨rfl, c', Done.list_cut HR.out HRD.out HGO.out hlt (.inr rfl) HC.out HN.out HF.out HB.out HRow.out⟩
          · have hl0 : 0 < bs'.length := List.length_pos_iff.2 hemp
            have dl : ((bs'.length : Int) == 0) = false := by simpa using hemp
            go_wp2_with fail
            refine (codes_foreign (Pre.elem_rd HC.out (Nat.le_trans (Nat.le_trans (Nat.le_add_left _ _) HLEN.out) (Nat.le_trans hle hfit))) rfl).mono ?_
            rintro ee w2 ⟨rfl, c2, hd⟩
            obtain ⟨m1, m2, m3, hbw2, seg, m4, m5⟩ := list_mid HR.out HN.out HF.out.size HB.out HRow.out hd
            have hl4 := m4.len
            have h14 := m4.one
            obtain ⟨u0, u1, u2, u3, u4, rfl⟩ : ∃ u0 u1 u2 u3 u4, seg = [u0, u1, u2, u3, u4] := by
              match seg, hl4 with
              | [u0, u1, u2, u3, u4], _ => exact ⟨u0, u1, u2, u3, u4, rfl⟩
            obtain ⟨A, cpv, rfl⟩ := own_is_slice m2.2.2.1
            have z0 := m1.cell HO.out
            have z1 := m1.free o
            have x0 : w2.cell? ⟨wr.heap.size, 0, none⟩ = some u0 := (blk_cell m5 0).trans rfl
            have x1 : w2.cell? ⟨wr.heap.size, 1, none⟩ = some u1 := (blk_cell m5 1).trans rfl
            have x2 : w2.cell? ⟨wr.heap.size, 2, none⟩ = some u2 := (blk_cell m5 2).trans rfl
            have x3 : w2.cell? ⟨wr.heap.size, 3, none⟩ = some u3 := (blk_cell m5 3).trans rfl
            have x4 : w2.cell? ⟨wr.heap.size, 4, none⟩ = some u4 := (blk_cell m5 4).trans rfl
            have o0 := h14 u0 (by simp)
            have o1 := h14 u1 (by simp)
            have o2 := h14 u2 (by simp)
            have o3 := h14 u3 (by simp)
            have o4 := h14 u4 (by simp)
            obtain ⟨al, hal⟩ : ∃ al, acc.length = al := ⟨_, rfl⟩
            have hrow3 := m2.2.2.1
            have hlen2 := HLEN.out
            rw [hal] at hrow3 z0 hlen2 m1 m2 m3 m4
            have hws2 : w.heap.size ≤ w2.heap.size := Nat.le_trans HF.out.size hd.elem.2.1.size
            have hb2 : b < w2.heap.size := Nat.lt_of_lt_of_le hbw2 hws2
            have hal2 : al ≤ 68719476736 := by omega
            have HAL := Lib.hid hal
            have M1 := Lib.hid m1
            have M2 := Lib.hid m2
            have M3 := Lib.hid m3
            have M4 := Lib.hid m4
            have M5 := Lib.hid m5
            have HD := Lib.hid hd
            have HOWN := Lib.hid hrow3
            have hnews : Hid (∀ j u, [u0, u1, u2, u3, u4][j]? = some u → (w2.alloc (.cells #[u0, u1, u2, u3, u4] 204)).drew.cell? ((⟨w2.heap.size, 0, none⟩ : Addr).add j) = some u) := fun j u hj => World.news_of_block (blk_drew (blk_new w2 _)) j u (by simpa using hj)
            clear hal m1 m2 m3 m4 m5 hd hrow3 hlen2 hl4 h14 g0 g2 f2 hn
            go_wp2_with fail
            go_region_law (refine step_append_lies _ rfl (.tmp 63) (.tmp 65) 82 rfl w.heap.size 204 i0 (.agg tForeign.zcells.toArray) 5 i0.bytes Try.underlying82 HI0.out HI1.out HI2.out rfl rfl (by decide) _ al rows.flatten (by simp [Act.eval]) ((HOWN.out.alloc _).drew) ⟨w2.heap.size, 0, none⟩ 1 1 [u0, u1, u2, u3, u4] (by simp [Act.eval]) rfl hnews.out (by simp [o0, o1, o2, o3, o4]) (by omega) (by simp only [maxLen]; omega) (bytes_le HI3.out hal2) (Nat.le_trans hws2 (by simp)) (w2.heap.size + 1) (by simp) ?_; intro g' cap' w' hown hgrow hrow hlt2; have kb := (Fr.of_grown hgrow).blk (M1.out.fr (Fr.of_below below2 (fun _ => False)) (fun h => h)) (fun he => absurd (M3.out b he) (by omega)); have k0' := Blk.cell kb HO.out; have k1' := Blk.free kb o)
            all_goals
              go_wp2_with fail
              go_roundw
              case rel =>
                obtain ⟨r1, r2, r3, r4, r5, r6, r7, r8⟩ := list_round (seg := [u0, u1, u2, u3, u4]) HR.out HO.out HN.out HF.out HQ.out HCQ.out HD.out M1.out M2.out M3.out (by rw [← HAL.out]; exact HVQ.out) M4.out (below2 (cs := #[u0, u1, u2, u3, u4]) (T2 := 204)) hgrow (by rw [HAL.out]; exact hown) (at_next hrow)
                have hkn : k < n1.toNat := by omega
                have hlt3 := tForeign.cod.lt bs' hemp
                refine ⟨k + 1, _, _, _, c2, _, by go_num, by omega, HGO.out.trans (list_more hkn hemp), ?_, r1, r2, r3, r4, r5, r6, r7, r8⟩
                rw [List.length_append, List.length_singleton]
                have := HLEN.out
                omega
              case measure => simp [intOf]; omega
      · have dk : decide ((k : Int) < n1) = false := decide_eq_false hlt
        have HLT := Lib.hid hlt
        cases bad'
        · go_wp2_with fail
          all_goals
            go_end0
            exact ⟨rfl, c', Done.list_end HR.out HRD.out HGO.out (by have h9 := HLT.out; omega) HC.out rfl HN.out HF.out HB.out HRow.out⟩
        · go_wp2_with fail
          all_goals
            go_end0
            exact ⟨rfl, c', Done.list_end HR.out HRD.out HGO.out (by have h9 := HLT.out; omega) HC.out rfl HN.out HF.out HB.out HRow.out⟩
theorem info130 : (Try.prog.info? 130).map (fun i => (i.zero, i.size, decide (i.bytes ≤ 1024))) = some (some (.agg tLease.zcells.toArray), 3, true) := by kernel_rfl
set_option maxRecDepth 100000 in
set_option maxHeartbeats 2000000 in
theorem items_lease : CodesF 76 (.func (.func 77) #[] #[]) (.list tLease) := by
  intro g b T o pre post s c ok x w h ho
  obtain ⟨A, cap, hc, hH, hB⟩ := h.cell_list ho
  have hbg := h.bg
  have hgb : g ≠ b := fun e => hbg e.symm
  have HO := Lib.hid ho
  have HR := Lib.hid h
  obtain ⟨i0, hi0, hz0, hz1, hz2⟩ := info_small info130
  have HI0 := Lib.hid hi0
  have HI1 := Lib.hid hz0
  have HI2 := Lib.hid hz1
  have HI3 := Lib.hid hz2
  clear hi0 hz0 hz1 hz2
  cases s with
  | wr out =>
    obtain ⟨L, hL⟩ : ∃ L, x.length = L := ⟨_, rfl⟩
    have hok : x.length ≤ top := h.good.1
    have hff := fit_head h
    rw [hL] at hc hH hB hok hff
    have HL := Lib.hid hL
    have HOK := Lib.hid hok
    have hL2 : L ≤ 9223372036854775807 := hok
    clear ho h hL hok
    go_enter Try.func76, Try.ntmps76
    go_wp2_with fail
    refine (num_calls (y := (L : Int)) HR.out.co ⟨by omega, by omega⟩ HR.out.f0 hff).mono ?_
    rintro ed w1 ⟨rfl, c1, hd⟩
    obtain ⟨q1, q2, q3, k2, _⟩ := hd.beside
    clear hd
    obtain ⟨k0, k1⟩ := HR.out.kept q2 o
    rw [hc] at k0
    have Q1 := Lib.hid q1
    have Q2 := Lib.hid q2
    have Q3 := Lib.hid q3
    have HH := Lib.hid hH.bound
    have HBk := Lib.hid hB
    obtain ⟨v, hW, hcv⟩ := q1.wr
    have g1 := hW.c1
    clear q1 q2 q3 hW hcv hc hH hB hff
    go_wp2_with fail
    go_loopw [26] (fun v26 wr => ∃ (k : Nat) (c' : Option Nat), v26 = .int .i64 (k : Int) ∧ k ≤ L ∧ Co g (.wr (out ++ num (L : Int) ++ encs tLease.cod (x.take k))) c' wr ∧ Next w c c' ∧ Fr w wr (Own g c)) (fun v26 _ => L - (intOf v26).toNat)
    case atStart => exact ⟨0, c1, rfl, by omega, by simpa [encs, Sg.run, cNum] using Q1.out, Q3.out, Q2.out⟩
    case round =>
      obtain ⟨k, c', rfl, hk, hCo, hNx, hFr⟩ := hrel
      have HC := Lib.hid hCo
      have HN := Lib.hid hNx
      have HF := Lib.hid hFr
      clear hCo hNx hFr
      by_cases hlt : k < L
      · obtain ⟨y, hy⟩ : ∃ y, x[k]? = some y := ⟨_, List.getElem?_eq_getElem (by rw [HL.out]; exact hlt)⟩
        obtain ⟨k0', k1'⟩ := HR.out.kept HF.out o
        rw [← HR.out.kept Q2.out o |>.1, k0] at k0'
        have HHr := Lib.hid (HH.out.fr HF.out (fun k hk hS => hS.elim (HR.out.sep k hk.1).1 (HR.out.sep k hk.1).2.2))
        obtain ⟨ab, ao, cs, rfl, hoka, hHy, hcs⟩ := HHr.out.list_at hy
        have hl4 := hHy.len
        have h14 := hHy.one
        obtain ⟨u0, u1, u2, rfl⟩ : ∃ u0 u1 u2, cs = [u0, u1, u2] := by
          match cs, hl4 with
          | [u0, u1, u2], _ => exact ⟨u0, u1, u2, rfl⟩
        have m0 : wr.cell? ⟨ab, ao + k * 3, none⟩ = some u0 := hcs 0 _ rfl
        have m1 : wr.cell? ⟨ab, ao + k * 3 + 1, none⟩ = some u1 := hcs 1 _ rfl
        have m2 : wr.cell? ⟨ab, ao + k * 3 + 2, none⟩ = some u2 := hcs 2 _ rfl
        have o0 := h14 u0 (by simp)
        have o1 := h14 u1 (by simp)
        have o2 := h14 u2 (by simp)
        have HHy := Lib.hid hHy
        have HY := Lib.hid hy
        clear hcs hHy h14 hl4 hy
        go_wp2_with ((with_reducible refine gate_store (t := 130) (p := .tmp 8) (x := .tmp 34) rfl ?_); refine wpList_store_new (t := 130) rfl (.tmp 8) (.tmp 34) rfl #[u0, u1, u2] (by simp [Act.eval]) (by simp [Act.eval]) (by kernel_rfl) rfl (by simp [o0, o1, o2]) ?_)
        refine (codes_lease (Pre.elem_wr HC.out HHy.out (fun i hi => ⟨(HR.out.sep i hi.1).1, fun _ => HN.out.ne (HR.out.sep i hi.1).2.2 hi.2⟩) (HR.out.good.2 _ (List.mem_of_getElem? HY.out)) (by rw [← HL.out]; exact fit_elem HR.out HY.out)) rfl).mono ?_
        rintro ee w2 ⟨rfl, c2, hd⟩
        obtain ⟨d1, d2, d3⟩ := hd.elem
        have D1 := Lib.hid d1
        have D2 := Lib.hid d2
        have D3 := Lib.hid d3
        clear hd d1 d2 d3 m0 m1 m2 o0 o1 o2 k0'
        go_wp2_with fail
        go_roundw
        case rel =>
          refine ⟨k + 1, c2, by go_num, hlt, ?_, HN.out.trans D3.out HF.out.size, HF.out.trans D2.out (Own.next HN.out)⟩
          rw [encs_snoc _ x k y HY.out, ← List.append_assoc]
          exact D1.out
        case measure => simp [intOf]; omega
      · obtain rfl : k = L := by omega
        go_wp2_with fail
        refine bodyPost_ret (results_none rfl _ _ _) rfl ?_
        obtain rfl := HL.out
        exact ⟨rfl, c', Done.list_wr HR.out HC.out HN.out HF.out⟩
  | rd st =>
    have hx : x = [] := h.good
    subst hx
    have hfit : st.bs.length ≤ 68719476736 := h.f0
    have hB0 := h.zero_list
    have hc0 : w.cell? ⟨b, o, none⟩ = some (.slice none 0 0) := hB0.cell ho
    clear hc hH hB
    have hbw := h.blt
    clear ho h
    go_enter Try.func76, Try.ntmps76
    go_wp2_with fail
    refine (num_calls (y := 0) HR.out.co rfl HR.out.f0 (Nat.le_trans (rdNum_le 0 st) hfit)).mono ?_
    rintro ed w1 ⟨rfl, c1, hd⟩
    obtain ⟨q1, q2, q3, k2, _⟩ := hd.beside
    have HAP := Lib.hid (hd.apart HR.out.co)
    clear hd
    obtain ⟨k0, k1⟩ := HR.out.kept q2 o
    rw [hc0] at k0
    obtain ⟨n1, bs, bad, hrd⟩ : ∃ n1 bs bad, rdNum 0 st = (n1, ⟨bs, bad⟩) := ⟨_, _, _, rfl⟩
    have hle := rdNum_le 0 st
    have hfn := rdNum_fits 0 fits0 st
    have e1 : (Sg.run cNum (Sg.rd st) 0).1 = n1 := congrArg Prod.fst hrd
    have e2 : (Sg.run cNum (Sg.rd st) 0).2 = .rd ⟨bs, bad⟩ := congrArg (fun p : Int × St => Sg.rd p.2) hrd
    rw [e1] at k2
    rw [e2] at q1
    rw [hrd] at hle hfn
    simp only [] at hle hfn
    obtain ⟨hfn0, hfn1⟩ := hfn
    have Q1 := Lib.hid q1
    have Q2 := Lib.hid q2
    have Q3 := Lib.hid q3
    have HRD := Lib.hid hrd
    have HB1 := Lib.hid (hB0.fr q2 (fun hk => hk.elim HR.out.bg HR.out.bc))
    have HK2 := Lib.hid k2
    obtain ⟨r, off, cap1, hR, hcr⟩ := q1.rd
    have g1 := hR.c1
    clear q1 q2 q3 hR hcr hc0 e1 e2 hrd hB0
    go_wp2_with fail
    clear k0 k1 g1
    go_loopw [40] (fun v40 wr => ∃ (k : Nat) (acc : List tLease.T) (rows : List (List Value)) (s' : St) (c' : Option Nat) (v : Value), v40 = .int .i64 (k : Int) ∧ k ≤ n1.toNat ∧ listGo tLease.cod n1.toNat [] ⟨bs, bad⟩ = listGo tLease.cod (n1.toNat - k) acc s' ∧ acc.length + s'.bs.length ≤ bs.length ∧
      Co g (.rd s') c' wr ∧ Next w c c' ∧ Fr w wr (fun i => Own g c i ∨ i = b) ∧ Blk wr b T pre [v] post ∧ Row tLease 130 w.heap.size c' wr v acc rows ∧ wr.cell? ⟨w.heap.size, 0, none⟩ = some (.int .i64 n1) ∧ c' ≠ some w.heap.size ∧ v.ownBlock ≠ some w.heap.size) (fun v40 _ => n1.toNat - (intOf v40).toNat)
    case atStart => exact ⟨0, [], [], ⟨bs, bad⟩, c1, .slice none 0 0, rfl, Nat.zero_le _, rfl, by simp, Q1.out, Q3.out, Q2.out.mono (fun i hi => .inl hi), HB1.out, Row.nil, HK2.out, HAP.out, by simp [Value.ownBlock]⟩
    case round =>
      obtain ⟨k, acc, rows, s', c', v, rfl, hk, hgo, hlen, hCo, hNx, hFr, hBk, hRow, hn, hcq, hvq⟩ := hrel
      have HCQ := Lib.hid hcq
      have HVQ := Lib.hid hvq
      have HQ := Lib.hid hn
      clear hcq hvq
      obtain ⟨bs', bad'⟩ := s'
      have HGO := Lib.hid hgo
      have HN := Lib.hid hNx
      have HF := Lib.hid hFr
      have HB := Lib.hid hBk
      have HRow := Lib.hid hRow
      have HC := Lib.hid hCo
      obtain ⟨r', off', cap', hR, hcr⟩ := hCo.rd
      have g0 := hR.c0
      have g2 := hR.c2
      have f2 := hR.free 2
      simp only [] at g0 g2 hlen
      have HLEN := Lib.hid hlen
      clear hgo hNx hFr hBk hRow hCo hR hcr hlen
      by_cases hlt : (k : Int) < n1
      · have dk : decide ((k : Int) < n1) = true := decide_eq_true hlt
        by_cases hbad : bad' = true
        · subst hbad
          go_wp2_with fail
          refine bodyPost_ret (results_none rfl _ _ _) rfl ?_
          exact ⟨rfl, c', Done.list_cut HR.out HRD.out HGO.out hlt (.inl rfl) HC.out HN.out HF.out HB.out HRow.out⟩
        · rw [Bool.not_eq_true] at hbad
          subst hbad
          by_cases hemp : bs' = []
          · subst hemp
            go_wp2_with fail
            refine bodyPost_ret (results_none rfl _ _ _) rfl ?_
            exact ⟨rfl, c', Done.list_cut HR.out HRD.out HGO.out hlt (.inr rfl) HC.out HN.out HF.out HB.out HRow.out⟩
          · have hl0 : 0 < bs'.length := List.length_pos_iff.2 hemp
            have dl : ((bs'.length : Int) == 0) = false := by simpa using hemp
            go_wp2_with fail
            refine (codes_lease (Pre.elem_rd HC.out (Nat.le_trans (Nat.le_trans (Nat.le_add_left _ _) HLEN.out) (Nat.le_trans hle hfit))) rfl).mono ?_
            rintro ee w2 ⟨rfl, c2, hd⟩
            obtain ⟨m1, m2, m3, hbw2, seg, m4, m5⟩ := list_mid HR.out HN.out HF.out.size HB.out HRow.out hd
            have hl4 := m4.len
            have h14 := m4.one
            obtain ⟨u0, u1, u2, rfl⟩ : ∃ u0 u1 u2, seg = [u0, u1, u2] := by
              match seg, hl4 with
              | [u0, u1, u2], _ => exact ⟨u0, u1, u2, rfl⟩
            obtain ⟨A, cpv, rfl⟩ := own_is_slice m2.2.2.1
            have z0 := m1.cell HO.out
            have z1 := m1.free o
            have x0 : w2.cell? ⟨wr.heap.size, 0, none⟩ = some u0 := (blk_cell m5 0).trans rfl
            have x1 : w2.cell? ⟨wr.heap.size, 1, none⟩ = some u1 := (blk_cell m5 1).trans rfl
            have x2 : w2.cell? ⟨wr.heap.size, 2, none⟩ = some u2 := (blk_cell m5 2).trans rfl
            have o0 := h14 u0 (by simp)
            have o1 := h14 u1 (by simp)
            have o2 := h14 u2 (by simp)
            obtain ⟨al, hal⟩ : ∃ al, acc.length = al := ⟨_, rfl⟩
            have hrow3 := m2.2.2.1
            have hlen2 := HLEN.out
            rw [hal] at hrow3 z0 hlen2 m1 m2 m3 m4
            have hws2 : w.heap.size ≤ w2.heap.size := Nat.le_trans HF.out.size hd.elem.2.1.size
            have hb2 : b < w2.heap.size := Nat.lt_of_lt_of_le hbw2 hws2
            have hal2 : al ≤ 68719476736 := by omega
            have HAL := Lib.hid hal
            have M1 := Lib.hid m1
            have M2 := Lib.hid m2
            have M3 := Lib.hid m3
            have M4 := Lib.hid m4
            have M5 := Lib.hid m5
            have HD := Lib.hid hd
            have HOWN := Lib.hid hrow3
            have hnews : Hid (∀ j u, [u0, u1, u2][j]? = some u → (w2.alloc (.cells #[u0, u1, u2] 130)).drew.cell? ((⟨w2.heap.size, 0, none⟩ : Addr).add j) = some u) := fun j u hj => World.news_of_block (blk_drew (blk_new w2 _)) j u (by simpa using hj)
            clear hal m1 m2 m3 m4 m5 hd hrow3 hlen2 hl4 h14 g0 g2 f2 hn
            go_wp2_with fail
            go_region_law (refine step_append_lies _ rfl (.tmp 63) (.tmp 65) 77 rfl w.heap.size 130 i0 (.agg tLease.zcells.toArray) 3 i0.bytes Try.underlying77 HI0.out HI1.out HI2.out rfl rfl (by decide) _ al rows.flatten (by simp [Act.eval]) ((HOWN.out.alloc _).drew) ⟨w2.heap.size, 0, none⟩ 1 1 [u0, u1, u2] (by simp [Act.eval]) rfl hnews.out (by simp [o0, o1, o2]) (by omega) (by simp only [maxLen]; omega) (bytes_le HI3.out hal2) (Nat.le_trans hws2 (by simp)) (w2.heap.size + 1) (by simp) ?_; intro g' cap' w' hown hgrow hrow hlt2; have kb := (Fr.of_grown hgrow).blk (M1.out.fr (Fr.of_below below2 (fun _ => False)) (fun h => h)) (fun he => absurd (M3.out b he) (by omega)); have k0' := Blk.cell kb HO.out; have k1' := Blk.free kb o)
            all_goals
              go_wp2_with fail
              go_roundw
              case rel =>
                obtain ⟨r1, r2, r3, r4, r5, r6, r7, r8⟩ := list_round (seg := [u0, u1, u2]) HR.out HO.out HN.out HF.out HQ.out HCQ.out HD.out M1.out M2.out M3.out (by rw [← HAL.out]; exact HVQ.out) M4.out (below2 (cs := #[u0, u1, u2]) (T2 := 130)) hgrow (by rw [HAL.out]; exact hown) (at_next hrow)
                have hkn : k < n1.toNat := by omega
                have hlt3 := tLease.cod.lt bs' hemp
                refine ⟨k + 1, _, _, _, c2, _, by go_num, by omega, HGO.out.trans (list_more hkn hemp), ?_, r1, r2, r3, r4, r5, r6, r7, r8⟩
                rw [List.length_append, List.length_singleton]
                have := HLEN.out
                omega
              case measure => simp [intOf]; omega
      · have dk : decide ((k : Int) < n1) = false := decide_eq_false hlt
        have HLT := Lib.hid hlt
        cases bad'
        · go_wp2_with fail
          all_goals
            go_end0
            exact ⟨rfl, c', Done.list_end HR.out HRD.out HGO.out (by have h9 := HLT.out; omega) HC.out rfl HN.out HF.out HB.out HRow.out⟩
        · go_wp2_with fail
          all_goals
            go_end0
            exact ⟨rfl, c', Done.list_end HR.out HRD.out HGO.out (by have h9 := HLT.out; omega) HC.out rfl HN.out HF.out HB.out HRow.out⟩
end Go.Proofs.Ytlcgkcmicklihaa.Wire
namespace Go.Proofs.Ytlcgkcmicklihaa.Wire
set_option linter.unusedVariables false
set_option linter.unusedSimpArgs false
open Go.RowKit Go.Proofs.YtlcgkcmicklihaaW.PrintWords Go.Proofs.YtlcgkcmicklihaaW.PrintLast Go.Proofs.YtlcgkcmicklihaaW.PrintMore
def tTable : Ty := (.pair (ints 0) (.pair (reps .str 0) (.pair (.list tColumn) (.pair (.list tIndex) (.list tForeign)))))
set_option maxRecDepth 100000 in
set_option maxHeartbeats 4000000 in
theorem codes_table : Codes 75 tTable := by
  intro g b T o pre post s c ok x w h ho
  have L0 := Lib.hid (Left.start h ho)
  clear h ho
  go_enter Try.func75, Try.ntmps75
  go_wp2_with fail
  refine (Left.nums (n := 0) (o := o) L0.out below1 (ptrs1 rfl) (by decide) rfl).mono ?_
  rintro e w1 ⟨rfl, l1⟩
  have L1 : Hid (Left _ g b T (o + 1) post (.pair (reps .str 0) (.pair (.list tColumn) (.pair (.list tIndex) (.list tForeign)))) w1) := Lib.hid l1
  clear l1
  go_wp2_with fail
  refine (Left.texts (n := 0) (o := o + 1) L1.out below1 (ptrs1 rfl) (by decide) rfl).mono ?_
  rintro e w2 ⟨rfl, l2⟩
  have L2 : Hid (Left _ g b T (o + 2) post (.pair (.list tColumn) (.pair (.list tIndex) (.list tForeign))) w2) := Lib.hid l2
  clear l2
  go_wp2_with fail
  refine (Left.codesF (o := o + 2) items_column L2.out (Below.refl _ _)).mono ?_
  rintro e w3 ⟨rfl, l3⟩
  have L3 : Hid (Left _ g b T (o + 3) post (.pair (.list tIndex) (.list tForeign)) w3) := Lib.hid l3
  clear l3
  go_wp2_with fail
  refine (Left.codesF (o := o + 3) items_index L3.out (Below.refl _ _)).mono ?_
  rintro e w4 ⟨rfl, l4⟩
  have L4 : Hid (Left _ g b T (o + 4) post (.list tForeign) w4) := Lib.hid l4
  clear l4
  go_wp2_with fail
  refine (Left.codesF_last (o := o + 4) items_foreign L4.out (Below.refl _ _)).mono ?_
  rintro e w5 ⟨rfl, l5⟩
  have L5 := Lib.hid l5
  clear l5
  go_wp2_with fail
  go_end0
  exact ⟨rfl, L5.out⟩
theorem info84 : (Try.prog.info? 84).map (fun i => (i.zero, i.size, decide (i.bytes ≤ 1024))) = some (some (.agg tTable.zcells.toArray), 5, true) := by kernel_rfl
set_option maxRecDepth 100000 in
set_option maxHeartbeats 2000000 in
theorem items_table : CodesF 74 (.func (.func 75) #[] #[]) (.list tTable) := by
  intro g b T o pre post s c ok x w h ho
  obtain ⟨A, cap, hc, hH, hB⟩ := h.cell_list ho
  have hbg := h.bg
  have hgb : g ≠ b := fun e => hbg e.symm
  have HO := Lib.hid ho
  have HR := Lib.hid h
  obtain ⟨i0, hi0, hz0, hz1, hz2⟩ := info_small info84
  have HI0 := Lib.hid hi0
  have HI1 := Lib.hid hz0
  have HI2 := Lib.hid hz1
  have HI3 := Lib.hid hz2
  clear hi0 hz0 hz1 hz2
  cases s with
  | wr out =>
    obtain ⟨L, hL⟩ : ∃ L, x.length = L := ⟨_, rfl⟩
    have hok : x.length ≤ top := h.good.1
    have hff := fit_head h
    rw [hL] at hc hH hB hok hff
    have HL := Lib.hid hL
    have HOK := Lib.hid hok
    have hL2 : L ≤ 9223372036854775807 := hok
    clear ho h hL hok
    go_enter Try.func74, Try.ntmps74
    go_wp2_with fail
    refine (num_calls (y := (L : Int)) HR.out.co ⟨by omega, by omega⟩ HR.out.f0 hff).mono ?_
    rintro ed w1 ⟨rfl, c1, hd⟩
    obtain ⟨q1, q2, q3, k2, _⟩ := hd.beside
    clear hd
    obtain ⟨k0, k1⟩ := HR.out.kept q2 o
    rw [hc] at k0
    have Q1 := Lib.hid q1
    have Q2 := Lib.hid q2
    have Q3 := Lib.hid q3
    have HH := Lib.hid hH.bound
    have HBk := Lib.hid hB
    obtain ⟨v, hW, hcv⟩ := q1.wr
    have g1 := hW.c1
    clear q1 q2 q3 hW hcv hc hH hB hff
    go_wp2_with fail
    go_loopw [26] (fun v26 wr => ∃ (k : Nat) (c' : Option Nat), v26 = .int .i64 (k : Int) ∧ k ≤ L ∧ Co g (.wr (out ++ num (L : Int) ++ encs tTable.cod (x.take k))) c' wr ∧ Next w c c' ∧ Fr w wr (Own g c)) (fun v26 _ => L - (intOf v26).toNat)
    case atStart => exact ⟨0, c1, rfl, by omega, by simpa [encs, Sg.run, cNum] using Q1.out, Q3.out, Q2.out⟩
    case round =>
      obtain ⟨k, c', rfl, hk, hCo, hNx, hFr⟩ := hrel
      have HC := Lib.hid hCo
      have HN := Lib.hid hNx
      have HF := Lib.hid hFr
      clear hCo hNx hFr
      by_cases hlt : k < L
      · obtain ⟨y, hy⟩ : ∃ y, x[k]? = some y := ⟨_, List.getElem?_eq_getElem (by rw [HL.out]; exact hlt)⟩
        obtain ⟨k0', k1'⟩ := HR.out.kept HF.out o
        rw [← HR.out.kept Q2.out o |>.1, k0] at k0'
        have HHr := Lib.hid (HH.out.fr HF.out (fun k hk hS => hS.elim (HR.out.sep k hk.1).1 (HR.out.sep k hk.1).2.2))
        obtain ⟨ab, ao, cs, rfl, hoka, hHy, hcs⟩ := HHr.out.list_at hy
        have hl4 := hHy.len
        have h14 := hHy.one
        obtain ⟨u0, u1, u2, u3, u4, rfl⟩ : ∃ u0 u1 u2 u3 u4, cs = [u0, u1, u2, u3, u4] := by
          match cs, hl4 with
          | [u0, u1, u2, u3, u4], _ => exact ⟨u0, u1, u2, u3, u4, rfl⟩
        have m0 : wr.cell? ⟨ab, ao + k * 5, none⟩ = some u0 := hcs 0 _ rfl
        have m1 : wr.cell? ⟨ab, ao + k * 5 + 1, none⟩ = some u1 := hcs 1 _ rfl
        have m2 : wr.cell? ⟨ab, ao + k * 5 + 2, none⟩ = some u2 := hcs 2 _ rfl
        have m3 : wr.cell? ⟨ab, ao + k * 5 + 3, none⟩ = some u3 := hcs 3 _ rfl
        have m4 : wr.cell? ⟨ab, ao + k * 5 + 4, none⟩ = some u4 := hcs 4 _ rfl
        have o0 := h14 u0 (by simp)
        have o1 := h14 u1 (by simp)
        have o2 := h14 u2 (by simp)
        have o3 := h14 u3 (by simp)
        have o4 := h14 u4 (by simp)
        have HHy := Lib.hid hHy
        have HY := Lib.hid hy
        clear hcs hHy h14 hl4 hy
        go_wp2_with ((with_reducible refine gate_store (t := 84) (p := .tmp 8) (x := .tmp 34) rfl ?_); refine wpList_store_new (t := 84) rfl (.tmp 8) (.tmp 34) rfl #[u0, u1, u2, u3, u4] (by simp [Act.eval]) (by simp [Act.eval]) (by kernel_rfl) rfl (by simp [o0, o1, o2, o3, o4]) ?_)
        refine (codes_table (Pre.elem_wr HC.out HHy.out (fun i hi => ⟨(HR.out.sep i hi.1).1, fun _ => HN.out.ne (HR.out.sep i hi.1).2.2 hi.2⟩) (HR.out.good.2 _ (List.mem_of_getElem? HY.out)) (by rw [← HL.out]; exact fit_elem HR.out HY.out)) rfl).mono ?_
        rintro ee w2 ⟨rfl, c2, hd⟩
        obtain ⟨d1, d2, d3⟩ := hd.elem
        have D1 := Lib.hid d1
        have D2 := Lib.hid d2
        have D3 := Lib.hid d3
        clear hd d1 d2 d3 m0 m1 m2 m3 m4 o0 o1 o2 o3 o4 k0'
        go_wp2_with fail
        go_roundw
        case rel =>
          refine ⟨k + 1, c2, by go_num, hlt, ?_, HN.out.trans D3.out HF.out.size, HF.out.trans D2.out (Own.next HN.out)⟩
          rw [encs_snoc _ x k y HY.out, ← List.append_assoc]
          exact D1.out
        case measure => simp [intOf]; omega
      · obtain rfl : k = L := by omega
        go_wp2_with fail
        refine bodyPost_ret (results_none rfl _ _ _) rfl ?_
        obtain rfl := HL.out
        exact ⟨rfl, c', Done.list_wr HR.out HC.out HN.out HF.out⟩
  | rd st =>
    have hx : x = [] := h.good
    subst hx
    have hfit : st.bs.length ≤ 68719476736 := h.f0
    have hB0 := h.zero_list
    have hc0 : w.cell? ⟨b, o, none⟩ = some (.slice none 0 0) := hB0.cell ho
    clear hc hH hB
    have hbw := h.blt
    clear ho h
    go_enter Try.func74, Try.ntmps74
    go_wp2_with fail
    refine (num_calls (y := 0) HR.out.co rfl HR.out.f0 (Nat.le_trans (rdNum_le 0 st) hfit)).mono ?_
    rintro ed w1 ⟨rfl, c1, hd⟩
    obtain ⟨q1, q2, q3, k2, _⟩ := hd.beside
    have HAP := Lib.hid (hd.apart HR.out.co)
    clear hd
    obtain ⟨k0, k1⟩ := HR.out.kept q2 o
    rw [hc0] at k0
    obtain ⟨n1, bs, bad, hrd⟩ : ∃ n1 bs bad, rdNum 0 st = (n1, ⟨bs, bad⟩) := ⟨_, _, _, rfl⟩
    have hle := rdNum_le 0 st
    have hfn := rdNum_fits 0 fits0 st
    have e1 : (Sg.run cNum (Sg.rd st) 0).1 = n1 := congrArg Prod.fst hrd
    have e2 : (Sg.run cNum (Sg.rd st) 0).2 = .rd ⟨bs, bad⟩ := congrArg (fun p : Int × St => Sg.rd p.2) hrd
    rw [e1] at k2
    rw [e2] at q1
    rw [hrd] at hle hfn
    simp only [] at hle hfn
    obtain ⟨hfn0, hfn1⟩ := hfn
    have Q1 := Lib.hid q1
    have Q2 := Lib.hid q2
    have Q3 := Lib.hid q3
    have HRD := Lib.hid hrd
    have HB1 := Lib.hid (hB0.fr q2 (fun hk => hk.elim HR.out.bg HR.out.bc))
    have HK2 := Lib.hid k2
    obtain ⟨r, off, cap1, hR, hcr⟩ := q1.rd
    have g1 := hR.c1
    clear q1 q2 q3 hR hcr hc0 e1 e2 hrd hB0
    go_wp2_with fail
    clear k0 k1 g1
    go_loopw [40] (fun v40 wr => ∃ (k : Nat) (acc : List tTable.T) (rows : List (List Value)) (s' : St) (c' : Option Nat) (v : Value), v40 = .int .i64 (k : Int) ∧ k ≤ n1.toNat ∧ listGo tTable.cod n1.toNat [] ⟨bs, bad⟩ = listGo tTable.cod (n1.toNat - k) acc s' ∧ acc.length + s'.bs.length ≤ bs.length ∧
      Co g (.rd s') c' wr ∧ Next w c c' ∧ Fr w wr (fun i => Own g c i ∨ i = b) ∧ Blk wr b T pre [v] post ∧ Row tTable 84 w.heap.size c' wr v acc rows ∧ wr.cell? ⟨w.heap.size, 0, none⟩ = some (.int .i64 n1) ∧ c' ≠ some w.heap.size ∧ v.ownBlock ≠ some w.heap.size) (fun v40 _ => n1.toNat - (intOf v40).toNat)
    case atStart => exact ⟨0, [], [], ⟨bs, bad⟩, c1, .slice none 0 0, rfl, Nat.zero_le _, rfl, by simp, Q1.out, Q3.out, Q2.out.mono (fun i hi => .inl hi), HB1.out, Row.nil, HK2.out, HAP.out, by simp [Value.ownBlock]⟩
    case round =>
      obtain ⟨k, acc, rows, s', c', v, rfl, hk, hgo, hlen, hCo, hNx, hFr, hBk, hRow, hn, hcq, hvq⟩ := hrel
      have HCQ := Lib.hid hcq
      have HVQ := Lib.hid hvq
      have HQ := Lib.hid hn
      clear hcq hvq
      obtain ⟨bs', bad'⟩ := s'
      have HGO := Lib.hid hgo
      have HN := Lib.hid hNx
      have HF := Lib.hid hFr
      have HB := Lib.hid hBk
      have HRow := Lib.hid hRow
      have HC := Lib.hid hCo
      obtain ⟨r', off', cap', hR, hcr⟩ := hCo.rd
      have g0 := hR.c0
      have g2 := hR.c2
      have f2 := hR.free 2
      simp only [] at g0 g2 hlen
      have HLEN := Lib.hid hlen
      clear hgo hNx hFr hBk hRow hCo hR hcr hlen
      by_cases hlt : (k : Int) < n1
      · have dk : decide ((k : Int) < n1) = true := decide_eq_true hlt
        by_cases hbad : bad' = true
        · subst hbad
          go_wp2_with fail
          refine bodyPost_ret (results_none rfl _ _ _) rfl ?_
          exact ⟨rfl, c', Done.list_cut HR.out HRD.out HGO.out hlt (.inl rfl) HC.out HN.out HF.out HB.out HRow.out⟩
        · rw [Bool.not_eq_true] at hbad
          subst hbad
          by_cases hemp : bs' = []
          · subst hemp
            go_wp2_with fail
            refine bodyPost_ret (results_none rfl _ _ _) rfl ?_
            exact ⟨rfl, c', Done.list_cut HR.out HRD.out HGO.out hlt (.inr rfl) HC.out HN.out HF.out HB.out HRow.out⟩
          · have hl0 : 0 < bs'.length := List.length_pos_iff.2 hemp
            have dl : ((bs'.length : Int) == 0) = false := by simpa using hemp
            go_wp2_with fail
            refine (codes_table (Pre.elem_rd HC.out (Nat.le_trans (Nat.le_trans (Nat.le_add_left _ _) HLEN.out) (Nat.le_trans hle hfit))) rfl).mono ?_
            rintro ee w2 ⟨rfl, c2, hd⟩
            obtain ⟨m1, m2, m3, hbw2, seg, m4, m5⟩ := list_mid HR.out HN.out HF.out.size HB.out HRow.out hd
            have hl4 := m4.len
            have h14 := m4.one
            obtain ⟨u0, u1, u2, u3, u4, rfl⟩ : ∃ u0 u1 u2 u3 u4, seg = [u0, u1, u2, u3, u4] := by
              match seg, hl4 with
              | [u0, u1, u2, u3, u4], _ => exact ⟨u0, u1, u2, u3, u4, rfl⟩
            obtain ⟨A, cpv, rfl⟩ := own_is_slice m2.2.2.1
            have z0 := m1.cell HO.out
            have z1 := m1.free o
            have x0 : w2.cell? ⟨wr.heap.size, 0, none⟩ = some u0 := (blk_cell m5 0).trans rfl
            have x1 : w2.cell? ⟨wr.heap.size, 1, none⟩ = some u1 := (blk_cell m5 1).trans rfl
            have x2 : w2.cell? ⟨wr.heap.size, 2, none⟩ = some u2 := (blk_cell m5 2).trans rfl
            have x3 : w2.cell? ⟨wr.heap.size, 3, none⟩ = some u3 := (blk_cell m5 3).trans rfl
            have x4 : w2.cell? ⟨wr.heap.size, 4, none⟩ = some u4 := (blk_cell m5 4).trans rfl
            have o0 := h14 u0 (by simp)
            have o1 := h14 u1 (by simp)
            have o2 := h14 u2 (by simp)
            have o3 := h14 u3 (by simp)
            have o4 := h14 u4 (by simp)
            obtain ⟨al, hal⟩ : ∃ al, acc.length = al := ⟨_, rfl⟩
            have hrow3 := m2.2.2.1
            have hlen2 := HLEN.out
            rw [hal] at hrow3 z0 hlen2 m1 m2 m3 m4
            have hws2 : w.heap.size ≤ w2.heap.size := Nat.le_trans HF.out.size hd.elem.2.1.size
            have hb2 : b < w2.heap.size := Nat.lt_of_lt_of_le hbw2 hws2
            have hal2 : al ≤ 68719476736 := by omega
            have HAL := Lib.hid hal
            have M1 := Lib.hid m1
            have M2 := Lib.hid m2
            have M3 := Lib.hid m3
            have M4 := Lib.hid m4
            have M5 := Lib.hid m5
            have HD := Lib.hid hd
            have HOWN := Lib.hid hrow3
            have hnews : Hid (∀ j u, [u0, u1, u2, u3, u4][j]? = some u → (w2.alloc (.cells #[u0, u1, u2, u3, u4] 84)).drew.cell? ((⟨w2.heap.size, 0, none⟩ : Addr).add j) = some u) := fun j u hj => World.news_of_block (blk_drew (blk_new w2 _)) j u (by simpa using hj)
            clear hal m1 m2 m3 m4 m5 hd hrow3 hlen2 hl4 h14 g0 g2 f2 hn
            go_wp2_with fail
            go_region_law (refine step_append_lies _ rfl (.tmp 63) (.tmp 65) 74 rfl w.heap.size 84 i0 (.agg tTable.zcells.toArray) 5 i0.bytes Try.underlying74 HI0.out HI1.out HI2.out rfl rfl (by decide) _ al rows.flatten (by simp [Act.eval]) ((HOWN.out.alloc _).drew) ⟨w2.heap.size, 0, none⟩ 1 1 [u0, u1, u2, u3, u4] (by simp [Act.eval]) rfl hnews.out (by simp [o0, o1, o2, o3, o4]) (by omega) (by simp only [maxLen]; omega) (bytes_le HI3.out hal2) (Nat.le_trans hws2 (by simp)) (w2.heap.size + 1) (by simp) ?_; intro g' cap' w' hown hgrow hrow hlt2; have kb := (Fr.of_grown hgrow).blk (M1.out.fr (Fr.of_below below2 (fun _ => False)) (fun h => h)) (fun he => absurd (M3.out b he) (by omega)); have k0' := Blk.cell kb HO.out; have k1' := Blk.free kb o)
            all_goals
              go_wp2_with fail
              go_roundw
              case rel =>
                obtain ⟨r1, r2, r3, r4, r5, r6, r7, r8⟩ := list_round (seg := [u0, u1, u2, u3, u4]) HR.out HO.out HN.out HF.out HQ.out HCQ.out HD.out M1.out M2.out M3.out (by rw [← HAL.out]; exact HVQ.out) M4.out (below2 (cs := #[u0, u1, u2, u3, u4]) (T2 := 84)) hgrow (by rw [HAL.out]; exact hown) (at_next hrow)
                have hkn : k < n1.toNat := by omega
                have hlt3 := tTable.cod.lt bs' hemp
                refine ⟨k + 1, _, _, _, c2, _, by go_num, by omega, HGO.out.trans (list_more hkn hemp), ?_, r1, r2, r3, r4, r5, r6, r7, r8⟩
                rw [List.length_append, List.length_singleton]
                have := HLEN.out
                omega
              case measure => simp [intOf]; omega
      · have dk : decide ((k : Int) < n1) = false := decide_eq_false hlt
        have HLT := Lib.hid hlt
        cases bad'
        · go_wp2_with fail
          all_goals
            go_end0
            exact ⟨rfl, c', Done.list_end HR.out HRD.out HGO.out (by have h9 := HLT.out; omega) HC.out rfl HN.out HF.out HB.out HRow.out⟩
        · go_wp2_with fail
          all_goals
            go_end0
            exact ⟨rfl, c', Done.list_end HR.out HRD.out HGO.out (by have h9 := HLT.out; omega) HC.out rfl HN.out HF.out HB.out HRow.out⟩
end Go.Proofs.Ytlcgkcmicklihaa.Wire
