/- The walk of the law StripTurns: for every payload and every number it returns true. -/
import Derived.Test.YtcpokaglofopbaaLinkE
import Derived.ChangeAlike
import Derived.IntWalk
import Derived.Lib.Hide
namespace Go.Proofs.Ytcpokaglofopbaa.Turns
open Go.RowKit Go.Proofs.Ytcpokaglofopbaa.PAll Go.Proofs.YtcpokaglofopbaaW.PrintWords Go.Proofs.YtcpokaglofopbaaW.PrintLast Go.Proofs.Ytcpokaglofopbaa.Crc Go.Proofs.Ytcpokaglofopbaa.Link

theorem put_calls (p s : ByteArray) (e : Int) (h : putAns p = (s, e)) (w : World) : Calls Try.prog 12 #[.string p] w fun x w' => x = .returned (.tuple #[.string s, .int .i64 e]) ∧ Below w.heap.size w w' := by
  obtain ⟨k, hk⟩ := (put_go p).rounds
  exact strip_Put.calls k p s e w (hk.trans (congrArg some h))
theorem awake_calls (w : World) : Calls Try.prog 9 #[] w fun x w' => x = .returned (.bool true) ∧ Below w.heap.size w w' := by
  obtain ⟨k, hk⟩ := awake_go.rounds
  exact lintellaw03_awake.calls k true w hk
theorem scan_calls (s : ByteArray) (hf : first s.data.toList = none) (hs : s.size ≤ 70368744177664) (w : World) :
    Calls Try.prog 14 #[.string s] w fun x w' => ∃ (A : Option Addr) (c : Nat), x = .returned (.tuple #[.slice A 0 c, .int .i64 0]) ∧ Below w.heap.size w w' := by
  obtain ⟨k, hk⟩ := (scanned s hs).rounds
  rw [told_none hf] at hk
  refine (strip_Scan.calls k s [] 0 w hk).mono ?_
  rintro e w' ⟨v, rfl, hR, hb⟩
  obtain ⟨A, c, rfl⟩ := Kd.R_slice hR
  exact ⟨A, c, rfl, hb⟩

/-- A byte of which one bit has turned is another byte. -/
theorem xor_byte (y : UInt8) (j : Nat) (hj : j < 8) : ∃ b : UInt8, Go.bits .xor .u8 (y.toNat : Int) ((2 : Int) ^ j % 256) = (b.toNat : Int) ∧ b ≠ y := by
  obtain ⟨m, hm, hm0⟩ : ∃ m : BitVec 8, BitVec.ofInt 8 ((2 : Int) ^ j % 256) = m ∧ m ≠ 0#8 := by
    refine ⟨_, rfl, ?_⟩
    rcases (by omega : j = 0 ∨ j = 1 ∨ j = 2 ∨ j = 3 ∨ j = 4 ∨ j = 5 ∨ j = 6 ∨ j = 7) with rfl | rfl | rfl | rfl | rfl | rfl | rfl | rfl <;> decide
  refine ⟨UInt8.ofBitVec (y.toBitVec ^^^ m), ?_, fun h => hm0 ?_⟩
  · show IntKind.u8.wrap ((BitVec.ofInt 8 (y.toNat : Int) ^^^ BitVec.ofInt 8 ((2 : Int) ^ j % 256)).toNat : Int) = _
    rw [hm, BitVec.ofInt_natCast]
    have e : BitVec.ofNat 8 y.toNat = y.toBitVec := by
      show BitVec.ofNat 8 y.toBitVec.toNat = y.toBitVec
      rw [BitVec.ofNat_toNat, BitVec.setWidth_eq]
    rw [e, IntKind.wrap_u8]
    have := (y.toBitVec ^^^ m).isLt
    show ((y.toBitVec ^^^ m).toNat : Int) % 256 = ((y.toBitVec ^^^ m).toNat : Int)
    omega
  · have e := congrArg UInt8.toBitVec h
    have e2 : y.toBitVec ^^^ m = y.toBitVec := e
    have e3 := congrArg (fun z => y.toBitVec ^^^ z) e2
    simpa only [← BitVec.xor_assoc, BitVec.xor_self, BitVec.zero_xor] using e3

/-- The payload is refused, or the number lies outside: the law answers as 'awake' does. -/
theorem turns_out (p s : ByteArray) (e bit : Int) (w : World) (hp : putAns p = (s, e)) (hs : s.size ≤ 1000000)
    (ho : (e != 0) = true ∨ (e != 0) = false ∧ decide (bit < 32) = true ∨ (e != 0) = false ∧ decide (bit < 32) = false ∧ decide (8 * (s.size : Int) ≤ bit) = true) :
    Calls Try.prog 8 #[.string p, .int .i64 bit] w fun e w' => e = .returned (.bool true) ∧ Below w.heap.size w w' := by
  have H := Lib.hid hp
  clear hp
  rcases ho with h1 | ⟨h1, h2⟩ | ⟨h1, h2, h3⟩
  all_goals
    go_enter Try.func8, Try.ntmps8
    go_wp2_with (first
      | (go_at_call 12; refine (put_calls p s e H.out _).mono ?_; rintro e w1 ⟨rfl, hb1⟩)
      | (go_at_call 9; refine (awake_calls _).mono ?_; rintro e w2 ⟨rfl, hb2⟩; replace hb1 := hb1.trans (hb2.mono hb1.size)))
    go_ret
    exact ⟨rfl, hb1⟩

theorem turns_in (p s : ByteArray) (n : Nat) (w : World) (hp : putAns p = (s, 0)) (hs : s.size ≤ 1000000)
    (h2 : 32 ≤ n) (h3 : n < 8 * s.size) :
    Calls Try.prog 8 #[.string p, .int .i64 (n : Int)] w fun e w' => e = .returned (.bool true) ∧ Below w.heap.size w w' := by
  have H := Lib.hid hp
  clear hp
  have g2 : decide ((n : Int) < 32) = false := decide_eq_false (by omega)
  have g3 : decide (8 * (s.size : Int) ≤ (n : Int)) = false := decide_eq_false (by omega)
  have g4 : decide (n < 32) = false := decide_eq_false (by omega)
  have g5 : decide (8 * s.size ≤ n) = false := decide_eq_false (by omega)
  have kb := fun W => print_bytes (P := Try.prog) 9 40 5 Try.underlying9 Try.underlying40 Try.underlying5 s W
  go_enter Try.func8, Try.ntmps8
  go_wp2_with (first
      | (go_at_call 12; refine (put_calls p s 0 H.out _).mono ?_; rintro e w1 ⟨rfl, hb1⟩)
      | (go_at_call 9; refine (awake_calls _).mono ?_; rintro e w2 ⟨rfl, hb2⟩; replace hb1 := hb1.trans (hb2.mono hb1.size)))
  have hW : ∀ j, j < s.size → (Lib.bytesWorld w2 5 s).cell? ⟨w2.heap.size, j, none⟩ = some (.int .u8 (s.data.toList.getD j 0).toNat) := fun j hj => Lib.bytesWorld_cell w2 5 s j hj
  have hF : ∀ j, j < s.size → (Lib.bytesWorld w2 5 s).frozen? ⟨w2.heap.size, j, none⟩ = false := fun j hj => by
    simp [World.frozen?, Lib.bytesWorld_at_new, Lib.bytesCells]
    omega
  have hB : Below w.heap.size w (Lib.bytesWorld w2 5 s) := bytes_below hb1 hb1.size 5 s
  have hz : w2.heap.size < (Lib.bytesWorld w2 5 s).heap.size := by rw [Lib.bytesWorld_size]; omega
  generalize Lib.bytesWorld w2 5 s = W at *
  generalize grownCap w2 s.size 0 5 = cap at *
  have hi : n / 8 < s.size := by omega
  obtain ⟨b, hb, hbn⟩ := xor_byte (s.data.toList.getD (n / 8) 0) (n % 8) (by omega)
  have hlen := data_length s
  have hkc : Sem.run Try.prog (convert 40 9 (.slice (some ⟨w2.heap.size, 0, none⟩) s.size cap)) (W.setCell ⟨w2.heap.size, n / 8, none⟩ (.int .u8 (b.toNat : Int))).drew = .ok (.string (mk (s.data.toList.set (n / 8) b))) (W.setCell ⟨w2.heap.size, n / 8, none⟩ (.int .u8 (b.toNat : Int))).drew := by
    have e := run_convert_bytes_arg (P := Try.prog) (W.setCell ⟨w2.heap.size, n / 8, none⟩ (.int .u8 (b.toNat : Int))).drew 40 5 Try.underlying40 Try.underlying5 w2.heap.size 0 s.size cap ((s.data.toList.set (n / 8) b).map fun c => (c.toNat : Int))
      (by rw [List.length_map, List.length_set, hlen]) (fun i hi2 => by
        rw [Nat.zero_add]
        have hl : i < (s.data.toList.set (n / 8) b).length := by rw [List.length_set, hlen]; exact hi2
        rw [List.getD_eq_getElem?_getD, List.getElem?_map, List.getElem?_eq_getElem hl]
        simp only [Option.map_some, Option.getD_some]
        show (W.setCell ⟨w2.heap.size, n / 8, none⟩ (.int .u8 (b.toNat : Int))).cell? ⟨w2.heap.size, i, none⟩ = _
        by_cases hin : i = n / 8
        · subst hin
          rw [World.cell?_setCell_same _ _ _ (hW _ hi), List.getElem_set_self]
        · rw [World.cell?_setCell_other _ _ _ _ (fun he => hin (by injection he with _ he2 _; exact he2.symm)), hW i hi2, List.getElem_set_ne (by omega)]
          rw [List.getD_eq_getElem?_getD, List.getElem?_eq_getElem (by omega)]
          rfl) 9 Try.underlying9
    rw [e]
    congr 2
    apply bytes_ext
    rw [strOfNums_data, mk_data, List.map_map]
    conv => rhs; rw [← List.map_id (s.data.toList.set (n / 8) b)]
    apply List.map_congr_left
    intro c _
    simp
  have hp := H.out
  unfold putAns at hp
  split at hp
  · simp at hp
  · rename_i hpl
    simp only [Prod.mk.injEq, and_true] at hp
    have hsl : s.data.toList = record p.data.toList := by rw [← hp, mk_data]
    have hplen : p.data.toList.length ≤ 65536 := by rw [data_length]; omega
    have hrl := record_length p.data.toList
    have hfirst : first (s.data.toList.set (n / 8) b) = none := by
      rw [hsl]
      refine first_turned _ hplen _ (by omega) (by rw [← hrl, ← hsl, hlen]; exact hi) b ?_
      rw [← hsl]
      intro hx
      apply hbn
      rw [List.getD_eq_getElem?_getD, hx]
      rfl
    have hsc := scan_calls (mk (s.data.toList.set (n / 8) b)) (by rw [mk_data]; exact hfirst) (by rw [mk_size, List.length_set, hlen]; omega)
    have HSC := Lib.hid hsc
    have HKC := Lib.hid hkc
    clear hsc hkc hsl hplen hrl hfirst hp hpl hlen hbn
    have hc0 := hW (n / 8) hi
    have hf0 := hF (n / 8) hi
    clear hW hF kb H
    obtain ⟨y, hy⟩ : ∃ y : Int, y = ((s.data.toList.getD (n / 8) 0).toNat : Int) := ⟨_, rfl⟩
    rw [← hy] at hc0 hb
    have HY := Lib.hid hy
    have HBT := Lib.hid hb
    clear hy hb
    generalize mk (s.data.toList.set (n / 8) b) = s2 at HSC HKC
    go_region
    all_goals
      have hkc := HKC.out
      rw [← HBT.out] at hkc
      go_wp2_with (go_at_call 14; refine (HSC.out _).mono ?_; rintro e w3 ⟨A3, c3, rfl, hb3⟩)
      go_ret
      have hb4 : Below w.heap.size w ((W.setCell ⟨w2.heap.size, n / 8, none⟩ (.int .u8 (bits BinOp.xor IntKind.u8 y (2 ^ (n % 8) % 256)))).drew) := below_drew (hB.setCell hb1.size _)
      exact ⟨rfl, hb4.trans (hb3.mono hb4.size)⟩

/-- The law, whatever the payload and the number. -/
theorem turns (p : ByteArray) (bit : Int) (w : World) : Calls Try.prog 8 #[.string p, .int .i64 bit] w fun e w' => e = .returned (.bool true) ∧ Below w.heap.size w w' := by
  by_cases hl : 65536 < p.size
  · refine turns_out p ⟨#[]⟩ 30 bit w ?_ (by decide) (.inl (by decide))
    unfold putAns
    rw [if_pos hl]
  · have hp : putAns p = (mk (record p.data.toList), 0) := by
      unfold putAns
      rw [if_neg hl]
    have hs : (mk (record p.data.toList)).size ≤ 1000000 := by
      rw [mk_size, record_length, data_length]
      omega
    generalize mk (record p.data.toList) = s at hp hs
    by_cases h1 : bit < 32
    · exact turns_out p s 0 bit w hp hs (.inr (.inl ⟨by decide, decide_eq_true h1⟩))
    · by_cases h2 : 8 * (s.size : Int) ≤ bit
      · exact turns_out p s 0 bit w hp hs (.inr (.inr ⟨by decide, decide_eq_false h1, decide_eq_true h2⟩))
      · obtain ⟨n, rfl⟩ : ∃ n : Nat, bit = (n : Int) := ⟨bit.toNat, by omega⟩
        exact turns_in p s n w hp hs (by omega) (by omega)
end Go.Proofs.Ytcpokaglofopbaa.Turns
