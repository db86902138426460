/- The contract of long, reading. -/
import Derived.Test.YtlcgkcmicklihaaMem
import Derived.Test.YtlcgkcmicklihaaBits
namespace Go.Proofs.Ytlcgkcmicklihaa.Wire
set_option linter.unusedVariables false
set_option linter.unusedSimpArgs false
open Go.RowKit Go.Proofs.YtlcgkcmicklihaaW.PrintWords Go.Proofs.YtlcgkcmicklihaaW.PrintLast Go.Proofs.YtlcgkcmicklihaaW.PrintMore
theorem round_lt (z x i : Nat) (hi : i ≤ 63) (hz : z < 2 ^ i) : z + x % 128 * 2 ^ i % 18446744073709551616 < 18446744073709551616 := by
  have hm := hi_mod (x % 128) i hi
  have hl : x % 128 * 2 ^ i % 18446744073709551616 < 18446744073709551616 := Nat.mod_lt _ (by decide)
  generalize x % 128 * 2 ^ i % 18446744073709551616 = y at *
  have h : 18446744073709551616 = 2 ^ i * 2 ^ (64 - i) := by rw [← Nat.pow_add, show i + (64 - i) = 64 by omega]
  obtain ⟨q, rfl⟩ := Nat.dvd_of_mod_eq_zero hm
  have hp : 0 < 2 ^ i := Nat.two_pow_pos i
  have hq : q < 2 ^ (64 - i) := by
    rw [h] at hl
    exact Nat.lt_of_mul_lt_mul_left hl
  have : 2 ^ i * (q + 1) ≤ 2 ^ i * 2 ^ (64 - i) := Nat.mul_le_mul_left _ hq
  rw [Nat.mul_add, Nat.mul_one] at this
  rw [← h] at this
  omega
theorem round_lt2 (z x i : Nat) (hz : z < 2 ^ i) : z + x % 128 * 2 ^ i % 18446744073709551616 < 2 ^ (i + 7) := by
  have h1 : x % 128 * 2 ^ i % 18446744073709551616 ≤ x % 128 * 2 ^ i := Nat.mod_le _ _
  have h2 : x % 128 * 2 ^ i ≤ 127 * 2 ^ i := Nat.mul_le_mul_right _ (by omega)
  rw [Nat.pow_add]
  omega
theorem wrap64_id (n : Int) (h0 : -9223372036854775808 ≤ n) (h1 : n < 9223372036854775808) : wrap64 n = n := by
  unfold wrap64
  omega
/-- The number that is read, out of its zigzag. -/
theorem tail_num (z : Nat) (h : z < 18446744073709551616) : bits .xor .i64 (wrap64 ((z : Int) / 2)) (wrap64 (-wrap64 (bits .and .u64 (z : Int) 1))) = unzz (z % 18446744073709551616) := by
  rw [Nat.mod_eq_of_lt h, and1 _ (by omega) (by omega), wrap64_id ((z : Int) / 2) (by omega) (by omega), wrap64_id ((z : Int) % 2) (by omega) (by omega), wrap64_id (-((z : Int) % 2)) (by omega) (by omega)]
  unfold unzz
  split
  · rename_i hz
    have e : -((z : Int) % 2) = 0 := by omega
    rw [e, xor0 _ (by omega) (by omega)]
    omega
  · rename_i hz
    have e : -((z : Int) % 2) = -1 := by omega
    rw [e, xorm _ (by omega) (by omega)]
    omega
/-- Block b as a row of cells in three parts. -/
def Blk (w : World) (b T : Nat) (pre seg post : List Value) : Prop := w.heap[b]? = some (.cells (pre ++ seg ++ post).toArray T (0, 0))
theorem Blk.lt {w : World} {b T : Nat} {pre seg post : List Value} (h : Blk w b T pre seg post) : b < w.heap.size := blk_lt h
theorem Blk.fr {w w' : World} {S : Nat → Prop} {b T : Nat} {pre seg post : List Value} (h : Blk w b T pre seg post) (f : Fr w w' S) (hn : ¬ S b) : Blk w' b T pre seg post := f.blk h hn
theorem Blk.cell {w : World} {b T o : Nat} {pre post : List Value} {v : Value} (h : Blk w b T pre [v] post) (ho : o = pre.length) : w.cell? ⟨b, o, none⟩ = some v := by
  rw [blk_cell h, ho]
  simp
theorem Blk.free {w : World} {b T : Nat} {pre seg post : List Value} (h : Blk w b T pre seg post) (o : Nat) : w.frozen? ⟨b, o, none⟩ = false := blk_frozen h o
theorem Blk.put {w : World} {b T o : Nat} {pre post : List Value} {v : Value} (h : Blk w b T pre [v] post) (ho : o = pre.length) (u : Value) : Blk (w.setCell ⟨b, o, none⟩ u) b T pre [u] post := by
  refine blk_put h o u ?_
  subst ho
  apply Array.ext'
  simp
/-- What long leaves: only the codec and the one cell. -/
structure Put (w w' : World) (g b T : Nat) (pre post : List Value) (u : Value) : Prop where
  fr : Fr w w' (fun k => k = g ∨ k = b)
  blk : Blk w' b T pre [u] post
theorem Put.set {w wb : World} {g b T o : Nat} {pre post : List Value} {v : Value} (f : Fr w wb (fun k => k = g)) (h : Blk w b T pre [v] post) (hbg : b ≠ g) (ho : o = pre.length) (u : Value) : Put w (wb.setCell ⟨b, o, none⟩ u) g b T pre post u :=
  ⟨(f.mono (fun k hk => .inl hk)).setCell (.inl (.inr rfl)) u, (h.fr f hbg).put ho u⟩
theorem longGo_bad (r i z : Nat) (bs : List UInt8) : longGo r i z ⟨bs, true⟩ = (none, ⟨bs, true⟩) := by
  cases r <;> simp [longGo]
theorem Put.of_fr {w w' : World} {g b T : Nat} {pre post : List Value} {u : Value} (f : Fr w w' (fun k => k = g)) (hbg : b ≠ g) (h : Blk w b T pre [u] post) : Put w w' g b T pre post u :=
  ⟨f.mono (fun k hk => .inl hk), h.fr f hbg⟩
theorem byte_nil {g r off cap : Nat} {bad : Bool} {w : World} (h : Rd g r off cap ⟨[], bad⟩ w) : Calls Try.prog 94 #[.pointer (some ⟨g, 0, none⟩)] w fun e w' => e = .returned (.int .u8 0) ∧ (∃ off' cap', Rd g r off' cap' ⟨[], true⟩ w') ∧ Fr w w' (fun k => k = g) := byte_calls h
theorem byte_cons {g r off cap : Nat} {bad : Bool} {x : UInt8} {rest : List UInt8} {w : World} (h : Rd g r off cap ⟨x :: rest, bad⟩ w) : Calls Try.prog 94 #[.pointer (some ⟨g, 0, none⟩)] w fun e w' => e = .returned (.int .u8 (x.toNat : Int)) ∧ (∃ off' cap', Rd g r off' cap' ⟨rest, bad⟩ w') ∧ Fr w w' (fun k => k = g) := byte_calls h
set_option maxRecDepth 100000 in
set_option maxHeartbeats 2000000 in
theorem long_read {g r off cap b o T : Nat} {pre post : List Value} {st : St} {w : World} {n0 : Int} (h : Rd g r off cap st w) (hB : Blk w b T pre [.int .i64 n0] post) (ho : o = pre.length) (hbg : b ≠ g) (hbr : b ≠ r) :
    Calls Try.prog 80 #[.pointer (some ⟨g, 0, none⟩), .pointer (some ⟨b, o, none⟩)] w fun e w' => e = .returned (.tuple #[]) ∧ (∃ off' cap', Rd g r off' cap' (rdNum n0 st).2 w') ∧ Put w w' g b T pre post (.int .i64 (rdNum n0 st).1) := by
  have HBL := Lib.hid hB
  have HO := Lib.hid ho
  have hc := hB.cell ho
  have hf := hB.free o
  clear hB ho
  have c1 := h.c1
  have c2 := h.c2
  have hb : b < w.heap.size := HBL.out.lt
  go_enter Try.func80, Try.ntmps80
  go_wp2_with fail
  have H0 := Lib.hid h
  have HC := Lib.hid hc
  have HF := Lib.hid hf
  clear h c1 c2 hc hf
  go_loopw [5, 6] (fun v5 v6 wr => ∃ (k z off cap : Nat) (s : St), k ≤ 10 ∧ v6 = .int .i64 ((7 * k : Nat) : Int) ∧ v5 = .int .u64 (z : Int) ∧ z < 18446744073709551616 ∧ (k < 10 → z < 2 ^ (7 * k)) ∧ Rd g r off cap s wr ∧ Fr w wr (fun k => k = g) ∧ longGo 10 0 0 st = longGo (10 - k) (7 * k) z s) (fun _ v6 _ => 80 - (intOf v6).toNat)
  case atStart => exact ⟨0, 0, _, _, _, by omega, rfl, rfl, by omega, fun _ => by decide, H0.out, Fr.refl _ _, rfl⟩
  case round =>
    obtain ⟨k, z, off, cap, s, hk, rfl, rfl, hz64, hz, hR, hfr, hgo⟩ := hrel
    by_cases hlt : k < 10
    · obtain ⟨bs, bad⟩ := s
      have hg1 : longGo (10 - k) (7 * k) z ⟨bs, bad⟩ = longGo ((9 - k) + 1) (7 * k) z ⟨bs, bad⟩ := by rw [show 10 - k = 9 - k + 1 by omega]
      have d0 : decide (((7 * k : Nat) : Int) < 70) = true := decide_eq_true (by omega)
      have f2 := hR.free 2
      have c2 := hR.c2
      cases bad with
      | true =>
        have hm := Lib.hid (hR.mark true)
        have hP := Lib.hid (Put.of_fr (hfr.setCell (p := ⟨g, 2, none⟩) (.inl rfl) (.bool true)) hbg HBL.out)
        have hr : rdNum n0 st = (n0, ⟨bs, true⟩) := by
          unfold rdNum
          rw [hgo, longGo_bad]
        have HRN := Lib.hid hr
        clear hr hR hfr hgo hg1
        go_wp2_with fail
        go_end0
        rw [HRN.out]
        exact ⟨rfl, ⟨_, _, hm.out⟩, hP.out⟩
      | false =>
        have HH := Lib.hid hfr
        have HGO := Lib.hid hgo
        have HG1 := Lib.hid hg1
        have HZ := Lib.hid hz
        clear hfr hgo hg1 hz
        cases bs with
        | nil =>
          go_wp2_with fail
          refine (byte_nil hR).mono ?_
          rintro e wb ⟨rfl, ⟨offb, capb, hRb⟩, hfb⟩
          have hcb : wb.cell? ⟨b, o, none⟩ = some (.int .i64 n0) := (cell_of_blk (a := ⟨b, o, none⟩) ((HH.out.trans hfb (fun i hi => .inl hi)).block b hb hbg)).trans HC.out
          have hff : wb.frozen? ⟨b, o, none⟩ = false := (World.frozen?_of_block (a := ⟨b, o, none⟩) ((HH.out.trans hfb (fun i hi => .inl hi)).block b hb hbg)).trans HF.out
          have HR := Lib.hid hRb
          have HB := Lib.hid hfb
          clear hRb hfb
          go_wp2_with fail
          refine bodyPost_ret (results_none rfl _ _ _) rfl ?_
          have hkk : 7 * k ≤ 63 := by omega
          have hr : rdNum n0 st = (unzz ((z + 0 % 128 * 2 ^ (7 * k) % 18446744073709551616) % 18446744073709551616), ⟨[], true⟩) := by
            unfold rdNum
            rw [HGO.out, HG1.out]
            simp [longGo]
          rw [hr]
          have e := round_or z 0 (7 * k) hkk (HZ.out hlt) (by decide)
          have e2 := tail_num _ (round_lt z 0 (7 * k) hkk (HZ.out hlt))
          rw [← e] at e2
          rw [show ((0 : Nat) : Int) = 0 from rfl] at e2
          rw [e2]
          exact ⟨rfl, ⟨_, _, HR.out.fr ((Fr.refl wb (fun k => k = b)).setCell (.inl rfl) _) (fun he => hbg he.symm) (fun he => hbr he.symm)⟩, Put.set (HH.out.trans HB.out (fun i hi => .inl hi)) HBL.out hbg HO.out _⟩
        | cons x rest =>
          by_cases hx : x.toNat < 128
          · go_wp2_with fail
            refine (byte_cons hR).mono ?_
            rintro e wb ⟨rfl, ⟨offb, capb, hRb⟩, hfb⟩
            have hcb : wb.cell? ⟨b, o, none⟩ = some (.int .i64 n0) := (cell_of_blk (a := ⟨b, o, none⟩) ((HH.out.trans hfb (fun i hi => .inl hi)).block b hb hbg)).trans HC.out
            have hff : wb.frozen? ⟨b, o, none⟩ = false := (World.frozen?_of_block (a := ⟨b, o, none⟩) ((HH.out.trans hfb (fun i hi => .inl hi)).block b hb hbg)).trans HF.out
            have dx : decide ((x.toNat : Int) < 128) = true := decide_eq_true (by omega)
            have HR := Lib.hid hRb
            have HB := Lib.hid hfb
            clear hRb hfb
            go_wp2_with fail
            refine bodyPost_ret (results_none rfl _ _ _) rfl ?_
            have hkk : 7 * k ≤ 63 := by omega
            have hr : rdNum n0 st = (unzz ((z + x.toNat % 128 * 2 ^ (7 * k) % 18446744073709551616) % 18446744073709551616), ⟨rest, false⟩) := by
              unfold rdNum
              rw [HGO.out, HG1.out]
              simp [longGo, hx]
            rw [hr]
            have e := round_or z x.toNat (7 * k) hkk (HZ.out hlt) x.toNat_lt
            have e2 := tail_num _ (round_lt z x.toNat (7 * k) hkk (HZ.out hlt))
            rw [← e] at e2
            rw [e2]
            refine ⟨rfl, ⟨_, _, HR.out.fr ((Fr.refl wb (fun k => k = b)).setCell (.inl rfl) _) (fun he => hbg he.symm) (fun he => hbr he.symm)⟩, Put.set (HH.out.trans HB.out (fun i hi => .inl hi)) HBL.out hbg HO.out _⟩
          · go_wp2_with fail
            refine (byte_cons hR).mono ?_
            rintro e wb ⟨rfl, ⟨offb, capb, hRb⟩, hfb⟩
            have dx : decide ((x.toNat : Int) < 128) = false := decide_eq_false (by omega)
            have HR := Lib.hid hRb
            have HB := Lib.hid hfb
            clear hRb hfb
            go_wp2_with fail
            go_round
            case rel =>
              have hkk : 7 * k ≤ 63 := by omega
              have e := round_or z x.toNat (7 * k) hkk (HZ.out hlt) x.toNat_lt
              rw [e]
              refine ⟨k + 1, _, _, _, _, by omega, by go_num, rfl, round_lt z x.toNat (7 * k) hkk (HZ.out hlt), fun _ => ?_, HR.out, HH.out.trans HB.out (fun i hi => .inl hi), ?_⟩
              · have := round_lt2 z x.toNat (7 * k) (HZ.out hlt)
                rw [show 7 * (k + 1) = 7 * k + 7 by omega]
                exact this
              · rw [HGO.out, HG1.out]
                simp only [longGo, Bool.false_eq_true, if_false, if_neg hx]
                rw [show 10 - (k + 1) = 9 - k by omega, show 7 * (k + 1) = 7 * k + 7 by omega]
            case measure => simp [intOf]; omega
    · obtain rfl : k = 10 := by omega
      have f2 := hR.free 2
      have c2 := hR.c2
      have hm := Lib.hid (hR.mark true)
      have hP := Lib.hid (Put.of_fr (hfr.setCell (p := ⟨g, 2, none⟩) (.inl rfl) (.bool true)) hbg HBL.out)
      have hr : rdNum n0 st = (n0, ⟨s.bs, true⟩) := by
        unfold rdNum
        rw [hgo]
        rfl
      have HRN := Lib.hid hr
      clear hr hR hfr hgo
      go_wp2_with fail
      go_end0
      rw [HRN.out]
      exact ⟨rfl, ⟨_, _, hm.out⟩, hP.out⟩
end Go.Proofs.Ytlcgkcmicklihaa.Wire
