/- The contract of long, writing. -/
import Derived.Test.YtlcgkcmicklihaaLong
namespace Go.Proofs.Ytlcgkcmicklihaa.Wire
set_option linter.unusedVariables false
set_option linter.unusedSimpArgs false
open Go.RowKit Go.Proofs.YtlcgkcmicklihaaW.PrintWords Go.Proofs.YtlcgkcmicklihaaW.PrintLast Go.Proofs.YtlcgkcmicklihaaW.PrintMore
theorem xor0u (a : Int) (h0 : 0 ≤ a) (h1 : a < 18446744073709551616) : bits .xor .u64 a 0 = a := by
  obtain ⟨n, rfl⟩ := Int.eq_ofNat_of_zero_le h0
  have e : (BitVec.ofInt 64 (n : Int) ^^^ BitVec.ofInt 64 0).toNat = n := by
    have : BitVec.ofInt 64 0 = 0#64 := rfl
    rw [this, BitVec.xor_zero, BitVec.ofInt_natCast, BitVec.toNat_ofNat]
    omega
  have h : bits .xor .u64 (n : Int) 0 = IntKind.u64.wrap ((BitVec.ofInt 64 (n : Int) ^^^ BitVec.ofInt 64 0).toNat : Int) := rfl
  rw [h, e, wraps_u64 _ (by omega) (by omega)]
theorem xormu (a : Int) (h0 : 0 ≤ a) (h1 : a < 18446744073709551616) : bits .xor .u64 a 18446744073709551615 = 18446744073709551615 - a := by
  obtain ⟨n, rfl⟩ := Int.eq_ofNat_of_zero_le h0
  have e : (BitVec.ofInt 64 (n : Int) ^^^ BitVec.ofInt 64 18446744073709551615).toNat = 18446744073709551615 - n := by
    have : BitVec.ofInt 64 18446744073709551615 = BitVec.allOnes 64 := rfl
    rw [this, BitVec.xor_allOnes, BitVec.toNat_not, BitVec.ofInt_natCast, BitVec.toNat_ofNat]
    omega
  have h : bits .xor .u64 (n : Int) 18446744073709551615 = IntKind.u64.wrap ((BitVec.ofInt 64 (n : Int) ^^^ BitVec.ofInt 64 18446744073709551615).toNat : Int) := rfl
  rw [h, e, wraps_u64 _ (by omega) (by omega)]
  omega
theorem u64_wrap (n : Int) : IntKind.u64.wrap n = n % 18446744073709551616 := by simp [IntKind.wrap, IntKind.bits, IntKind.signed]
theorem u8_wrap (n : Int) : IntKind.u8.wrap n = n % 256 := by simp [IntKind.wrap, IntKind.bits, IntKind.signed]
theorem zz_bits (n : Int) (h : Fits n) : bits .xor .u64 (IntKind.u64.wrap (IntKind.u64.wrap n * 2)) (IntKind.u64.wrap (n / 9223372036854775808)) = (zz n : Int) := by
  obtain ⟨h0, h1⟩ := h
  rw [u64_wrap, u64_wrap, u64_wrap]
  unfold zz
  split
  · rename_i hn
    have e : n / 9223372036854775808 % 18446744073709551616 = 0 := by omega
    rw [e, xor0u _ (by omega) (by omega)]
    omega
  · rename_i hn
    have e : n / 9223372036854775808 % 18446744073709551616 = 18446744073709551615 := by omega
    rw [e, xormu _ (by omega) (by omega)]
    omega
theorem or128_fin : ∀ x : Fin 256, bits .or .u8 ((x.val : Nat) : Int) 128 = ((x.val % 128 + 128 : Nat) : Int) := by decide +kernel
theorem or128 (z : Nat) : bits .or .u8 (IntKind.u8.wrap (z : Int)) 128 = ((z % 128 + 128 : Nat) : Int) := by
  have h := or128_fin ⟨z % 256, Nat.mod_lt _ (by decide)⟩
  simp only [] at h
  rw [u8_wrap, show ((z : Int) % 256) = ((z % 256 : Nat) : Int) by omega, h]
  congr 2
  omega
def cell8 (x : UInt8) : Value := .int .u8 (x.toNat : Int)
/-- At block g a codec that writes: its bytes, in a row of its own. -/
structure Wr (g : Nat) (v : Value) (out : List UInt8) (w : World) : Prop where
  blk : w.heap[g]? = some (.cells #[v, .bool false, .bool false] 133 (0, 0))
  own : w.ownsRow 0 5 1 v out.length (out.map cell8)
  ne : v.ownBlock ≠ some g
theorem Wr.c0 {g : Nat} {v : Value} {out : List UInt8} {w : World} (h : Wr g v out w) : w.cell? ⟨g, 0, none⟩ = some v := (blk_cell h.blk 0).trans rfl
theorem Wr.c1 {g : Nat} {v : Value} {out : List UInt8} {w : World} (h : Wr g v out w) : w.cell? ⟨g, 1, none⟩ = some (.bool false) := (blk_cell h.blk 1).trans rfl
theorem Wr.c2 {g : Nat} {v : Value} {out : List UInt8} {w : World} (h : Wr g v out w) : w.cell? ⟨g, 2, none⟩ = some (.bool false) := (blk_cell h.blk 2).trans rfl
theorem Wr.free {g : Nat} {v : Value} {out : List UInt8} {w : World} (h : Wr g v out w) (j : Nat) : w.frozen? ⟨g, j, none⟩ = false := blk_frozen h.blk j
/-- The row of bytes is the one that it was, or a new one. -/
def Next (w : World) (c c' : Option Nat) : Prop := c' = c ∨ ∃ k, c' = some k ∧ w.heap.size ≤ k
theorem Next.refl (w : World) (c : Option Nat) : Next w c c := .inl rfl
theorem Next.trans {w w1 : World} {c c1 c2 : Option Nat} (h : Next w c c1) (k : Next w1 c1 c2) (hs : w.heap.size ≤ w1.heap.size) : Next w c c2 := by
  rcases k with rfl | ⟨k, rfl, hk⟩
  · exact h
  · exact .inr ⟨k, rfl, Nat.le_trans hs hk⟩
/-- The codec and its row: what a writer may turn. -/
def Own (g : Nat) (c : Option Nat) (k : Nat) : Prop := k = g ∨ c = some k
theorem Own.next {w : World} {g : Nat} {c c' : Option Nat} (h : Next w c c') : ∀ k, Own g c' k → Own g c k ∨ w.heap.size ≤ k := by
  rintro k (hk | hk)
  · exact .inl (.inl hk)
  · rcases h with rfl | ⟨k', rfl, hle⟩
    · exact .inl (.inr hk)
    · injection hk with hk
      exact .inr (hk ▸ hle)
theorem Wr.lt {g : Nat} {v : Value} {out : List UInt8} {w : World} (h : Wr g v out w) : g < w.heap.size := blk_lt h.blk
theorem Wr.next {g : Nat} {v : Value} {out : List UInt8} {w w' : World} (h : Wr g v out w) (f : Below w.heap.size w w') : Wr g v out w' := by
  have f := Fr.of_below f (fun _ => False)
  exact ⟨f.blk h.blk (fun h => h), f.own h.own (fun _ _ h => h), h.ne⟩
theorem Wr.fr {g : Nat} {v : Value} {out : List UInt8} {w w' : World} {S : Nat → Prop} (h : Wr g v out w) (f : Fr w w' S) (hg : ¬ S g) (hv : ∀ k, v.ownBlock = some k → ¬ S k) : Wr g v out w' :=
  ⟨f.blk h.blk hg, f.own h.own hv, h.ne⟩
theorem Wr.appended {g : Nat} {v v1 : Value} {out news : List UInt8} {w W1 w' : World} (h : Wr g v out w) (f : Below w.heap.size w W1) (hgrow : W1.grownBy w' v.ownBlock)
    (hown : w'.ownsRow 0 5 1 v1 (out ++ news).length ((out ++ news).map cell8)) (hat : Next w v.ownBlock v1.ownBlock) :
    Wr g v1 (out ++ news) (w'.setCell ⟨g, 0, none⟩ v1) ∧ Fr w (w'.setCell ⟨g, 0, none⟩ v1) (Own g v.ownBlock) := by
  have fg : Fr W1 w' (fun k => v.ownBlock = some k) := Fr.of_grown hgrow
  have f1 : Fr w w' (fun k => v.ownBlock = some k) := (Fr.of_below f (fun k => v.ownBlock = some k)).trans fg (fun i hi => .inl hi)
  have hv1 : v1.ownBlock ≠ some g := by
    rcases hat with he | ⟨k, he, hk⟩
    · rw [he]; exact h.ne
    · rw [he]
      intro h2
      injection h2 with h2
      have := h.lt
      omega
  have kb := f1.blk h.blk h.ne
  refine ⟨⟨blk_put kb 0 v1 (by simp), ?_, hv1⟩, (f1.mono (fun k hk => .inr hk)).setCell (.inl (.inl rfl)) _⟩
  exact (Fr.refl w' (fun k => k = g)).setCell (p := ⟨g, 0, none⟩) (.inl rfl) v1 |>.own hown (fun k hk he => hv1 (by rw [hk, he]))
theorem Wr.seen {g : Nat} {v : Value} {out : List UInt8} {w W1 w' : World} (h : Wr g v out w) (f : Below w.heap.size w W1) (hgrow : W1.grownBy w' v.ownBlock) : w'.cell? ⟨g, 0, none⟩ = some v ∧ w'.frozen? ⟨g, 0, none⟩ = false := by
  have kb := (Fr.of_grown hgrow).blk ((h.next f).blk) h.ne
  exact ⟨(blk_cell kb 0).trans rfl, blk_frozen kb 0⟩
theorem at_next {w : World} {v : Value} {g' : Nat} {n c : Nat} (h : v.ownBlock = some g' ∨ g' = w.heap.size + 1) : Next w v.ownBlock (Value.slice (some ⟨g', 0, none⟩) n c).ownBlock := by
  rcases h with h | h
  · exact .inl h.symm
  · exact .inr ⟨g', rfl, by omega⟩
theorem u8_cell (n : Nat) (h : n < 256) : cell8 (UInt8.ofNat n) = .int .u8 (n : Int) := by
  unfold cell8
  rw [u8_toNat n h]
theorem info5 : (Try.prog.info? 5).map (fun i => (i.zero, i.size, i.bytes)) = some (some (.int .u8 0), 1, 1) := by kernel_rfl
set_option maxRecDepth 100000 in
set_option maxHeartbeats 2000000 in
theorem long_write {g b o T : Nat} {pre post : List Value} {v : Value} {out : List UInt8} {w : World} {n : Int} (h : Wr g v out w) (hB : Blk w b T pre [.int .i64 n] post) (ho : o = pre.length) (hbg : b ≠ g) (hbv : v.ownBlock ≠ some b) (hn : Fits n) (hl : (out ++ num n).length ≤ 68719476736) :
    Calls Try.prog 80 #[.pointer (some ⟨g, 0, none⟩), .pointer (some ⟨b, o, none⟩)] w fun e w' => e = .returned (.tuple #[]) ∧ ∃ v', Wr g v' (out ++ num n) w' ∧ Next w v.ownBlock v'.ownBlock ∧ Fr w w' (Own g v.ownBlock) := by
  obtain ⟨i0, hi0, hz0, hz1, hz2⟩ := info_parts info5
  have H0 := Lib.hid h
  have HL := Lib.hid hl
  have HZ := Lib.hid (zz_bits n hn)
  have HZL := zz_lt n hn.1 hn.2
  have HN := Lib.hid hn
  have HI0 := Lib.hid hi0
  have HI1 := Lib.hid hz0
  have HI2 := Lib.hid hz1
  have HI3 := Lib.hid hz2
  have hc := hB.cell ho
  have hf := hB.free o
  have c1 := h.c1
  clear hB ho h hl hn hi0 hz0 hz1 hz2
  go_enter Try.func80, Try.ntmps80
  go_wp2_with fail
  go_quiet (fail)
  go_wp2_with fail
  rw [HZ.out]
  clear c1 hc hf
  go_loopw [4] (fun v4 wr => ∃ (z : Nat) (u : Value) (ys : List UInt8), v4 = .int .u64 (z : Int) ∧ z < 18446744073709551616 ∧ Wr g u ys wr ∧ ys ++ leb z = out ++ num n ∧ Next w v.ownBlock u.ownBlock ∧ Fr w wr (Own g v.ownBlock)) (fun v4 _ => (intOf v4).toNat)
  case atStart => exact ⟨zz n, v, out, rfl, HZL, H0.out.next (pw_below_drewN (Below.refl _ _) nq), rfl, .inl rfl, Fr.of_below (pw_below_drewN (Below.refl _ _) nq) _⟩
  case round =>
    obtain ⟨z, u, ys, rfl, hz, hW, hys, hnx, hfr⟩ := hrel
    have HW := Lib.hid hW
    have HY := Lib.hid hys
    have HX := Lib.hid hnx
    have HF := Lib.hid hfr
    have c0 := hW.c0
    have f0 := hW.free 0
    have hle : ys.length + 1 ≤ 68719476736 := by
      have h1 := congrArg List.length hys
      have h2 := HL.out
      have h3 := leb_pos z
      rw [← h1, List.length_append] at h2
      omega
    clear hW hys hnx hfr
    by_cases hlt : z < 128
    · have hnews : Hid (∀ j u, [Value.int .u8 (z : Int)][j]? = some u → (wr.alloc (.cells #[.int .u8 (z : Int)] 5)).cell? ((⟨wr.heap.size, 0, none⟩ : Addr).add j) = some u) := fun j u hj => World.news_of_block (blk_new wr _) j u (by simpa using hj)
      have dz : decide ((128 : Int) ≤ (z : Int)) = false := decide_eq_false (by omega)
      go_wp2_with (at_builtin; (refine wpList_append_lies _ rfl (.tmp 44) (.tmp 47) 131 rfl 0 5 i0 (.int .u8 0) 1 1 Try.underlying131 HI0.out HI1.out HI2.out HI3.out rfl (by decide) u ys.length (ys.map cell8) (by simp [Act.eval]) (HW.out.own.alloc _) ⟨wr.heap.size, 0, none⟩ 1 1 [.int .u8 (z : Int)] (by simp [Act.eval]) rfl hnews.out (by simp [Value.oneCell']) (by omega) (by simp only [maxLen]; omega) (by omega) (by simp) (wr.heap.size + 1) (by simp) ?_); intro g' cap' w' hown hgrow hrow hlt2; obtain ⟨k0, k1⟩ := HW.out.seen ((Below.refl wr.heap.size wr).alloc (Nat.le_refl _) _) hgrow)
      refine bodyPost_ret (results_none rfl _ _ _) rfl ?_
      rw [← u8_cell z (by omega)] at hown
      obtain ⟨q1, q2⟩ := HW.out.appended (news := [UInt8.ofNat z]) ((Below.refl wr.heap.size wr).alloc (Nat.le_refl _) _) hgrow (by simpa using hown) (at_next hrow)
      have hy2 := HY.out
      rw [leb.eq_def z, dif_pos hlt] at hy2
      rw [hy2] at q1
      exact ⟨rfl, _, q1, HX.out.trans (at_next hrow) HF.out.size, HF.out.trans q2 (Own.next HX.out)⟩
    · have hnews : Hid (∀ j u, [Value.int .u8 (bits .or .u8 (IntKind.u8.wrap (z : Int)) 128)][j]? = some u → (wr.alloc (.cells #[.int .u8 (bits .or .u8 (IntKind.u8.wrap (z : Int)) 128)] 5)).cell? ((⟨wr.heap.size, 0, none⟩ : Addr).add j) = some u) := fun j u hj => World.news_of_block (blk_new wr _) j u (by simpa using hj)
      have dz : decide ((128 : Int) ≤ (z : Int)) = true := decide_eq_true (by omega)
      go_wp2_with (at_builtin; (refine wpList_append_lies _ rfl (.tmp 32) (.tmp 36) 131 rfl 0 5 i0 (.int .u8 0) 1 1 Try.underlying131 HI0.out HI1.out HI2.out HI3.out rfl (by decide) u ys.length (ys.map cell8) (by simp [Act.eval]) (HW.out.own.alloc _) ⟨wr.heap.size, 0, none⟩ 1 1 [.int .u8 (bits .or .u8 (IntKind.u8.wrap (z : Int)) 128)] (by simp [Act.eval]) rfl hnews.out (by simp [Value.oneCell']) (by omega) (by simp only [maxLen]; omega) (by omega) (by simp) (wr.heap.size + 1) (by simp) ?_); intro g' cap' w' hown hgrow hrow hlt2; obtain ⟨k0, k1⟩ := HW.out.seen ((Below.refl wr.heap.size wr).alloc (Nat.le_refl _) _) hgrow)
      go_roundw
      case rel =>
        rw [or128, ← u8_cell (z % 128 + 128) (by omega)] at hown
        obtain ⟨q1, q2⟩ := HW.out.appended (news := [UInt8.ofNat (z % 128 + 128)]) ((Below.refl wr.heap.size wr).alloc (Nat.le_refl _) _) hgrow (by simpa using hown) (at_next hrow)
        refine ⟨z / 128, _, _, rfl, by omega, q1, ?_, HX.out.trans (at_next hrow) HF.out.size, HF.out.trans q2 (Own.next HX.out)⟩
        rw [← HY.out, leb.eq_def z, dif_neg hlt, List.append_assoc]
        rfl
      case measure => simp [intOf]; omega
end Go.Proofs.Ytlcgkcmicklihaa.Wire
