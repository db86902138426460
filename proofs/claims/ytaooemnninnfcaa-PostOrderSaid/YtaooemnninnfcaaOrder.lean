/- The walk of the law PostOrder: for every list of letters and all picks it returns true. -/
import Derived.Test.YtaooemnninnfcaaPair
namespace Go.Proofs.Ytaooemnninnfcaa.Bag
set_option linter.unusedVariables false
set_option linter.unusedSimpArgs false
open Go.RowKit Go.Proofs.Ytaooemnninnfcaa.PAll Go.Proofs.YtaooemnninnfcaaW.PrintWords Go.Proofs.YtaooemnninnfcaaW.PrintLast Go.Proofs.YtaooemnninnfcaaW.PrintMore

theorem order_short (A : Option Addr) (l : List S28) (c : Nat) (v1 : Value) (W : World) (ho : decide (300 < (l.length : Int)) = true) :
    Calls Try.prog 4 #[.slice A l.length c, v1] W fun e w' => e = .returned (.bool true) ∧ Below W.heap.size W w' := by
  have hb := Below.refl W.heap.size W
  go_enter Try.func4, Try.ntmps4
  go_wp2_with (go_at_call 7; refine (awake_calls _).mono ?_; rintro e w1 ⟨rfl, hb2⟩; have hb1 := hb.trans (hb2.mono hb.size); clear hb hb2; have hb := hb1; clear hb1)
  go_ret
  exact ⟨rfl, hb⟩
theorem order_walk (A A1 : Option Addr) (l : List S28) (pk : List Int) (c c1 : Nat) (W : World) (h : Came W A l) (h1 : Kd.C (Kd.int .i64) W A1 pk.length pk) (hc : l.length ≤ c) (hl : l.length ≤ 300) :
    Calls Try.prog 4 #[.slice A l.length c, .slice A1 pk.length c1] W fun e w' => e = .returned (.bool true) ∧ Below W.heap.size W w' := by
  have H := Lib.hid h
  have H1 := Lib.hid h1
  have HI := Lib.hid info28
  clear h h1
  have d1 : decide (300 < (l.length : Int)) = false := decide_eq_false (by omega)
  go_enter Try.func4, Try.ntmps4
  go_wp2_with (first | (go_at_call 7; refine (awake_calls _).mono ?_; rintro e w1 ⟨rfl, hb1⟩) | (go_at_call 8; refine (new_calls _ _ (Nat.le_refl _)).mono ?_; rintro e w2 ⟨rfl, rfl⟩))
  have p0 := new_now W w1 W.heap.size hb1.size hb1
  have q0 := new_now W (w1.alloc (.cells #[.slice none 0 0] 44)) W.heap.size p0.size p0.below
  have t0 : Two W W.heap.size w1.heap.size (w1.alloc (.cells #[.slice none 0 0] 44)).heap.size (.slice none 0 0) (.slice none 0 0) [] [] ((w1.alloc (.cells #[.slice none 0 0] 44)).alloc (.cells #[.slice none 0 0] 44)) :=
    ⟨p0.next ((Below.refl _ _).alloc (Nat.le_refl _) _), q0, by simp, Far.nil _⟩
  clear p0 q0 hb1
  have e0 : (w1.alloc (.cells #[.slice none 0 0] 44)).heap.size = w1.heap.size + 1 := by simp
  rw [e0] at t0
  clear e0
  generalize (w1.alloc (.cells #[.slice none 0 0] 44)).alloc (.cells #[.slice none 0 0] 44) = w2 at *
  generalize w1.heap.size = P at *
  have hlen : l.length ≤ 9223372036854775807 := by omega
  go_loopw [29] (fun v29 wr => ∃ (k : Nat) (vp vq : Value), k ≤ l.length ∧ v29 = .int .i64 (k : Int) ∧ Two W W.heap.size P (P + 1) vp vq (l.take k) (l.take k) wr) (fun v29 _ => l.length - (intOf v29).toNat)
  case atStart => exact ⟨0, _, _, Nat.zero_le _, rfl, t0⟩
  case round =>
    obtain ⟨k, vp, vq, hk, rfl, hT⟩ := hrel
    clear t0
    by_cases hlt : k < l.length
    · obtain ⟨ad, rfl, c0, c1', c2⟩ := H.out.at_ hT.p.below k hlt
      have hT2 := hT.next ((Below.refl _ _).alloc (Nat.le_refl _) (.cells #[.int .i64 (l[k]).f0, .int .i64 (l[k]).f1, .string (l[k]).f2] 28))
      have hbx := blk_new wr (.cells #[.int .i64 (l[k]).f0, .int .i64 (l[k]).f1, .string (l[k]).f2] 28)
      have hrow := hT.p.row
      have hgl := hT.p.bag.lt
      have htk : l.take (k + 1) = l.take k ++ [l[k]] := List.take_succ_eq_append_getElem hlt
      have HTK := Lib.hid htk
      have hkl : (l.take k).length + 1 ≤ 4398046511104 := by rw [List.length_take]; omega
      clear htk hT
      generalize l[k] = x at *
      go_wp2_with fail
      generalize wr.alloc (.cells #[.int .i64 x.f0, .int .i64 x.f1, .string x.f2] 28) = w3 at *
      generalize wr.heap.size = G at *
      refine (now_send hT2.p x hkl).mono ?_
      rintro e w4 ⟨rfl, v4, hN4, hm4⟩
      have hT4 := hT2.move hN4 hm4
      have hbx4 := hm4.1.blk hbx (by
        rintro (h | h)
        · omega
        · have := hrow _ h; omega)
      obtain ⟨b0, b1, b2, _, _, _, _⟩ := box3 hbx4
      clear hT2 hN4 hm4 hbx hbx4 hrow
      go_wp2_with fail
      refine (now_send hT4.q x hkl).mono ?_
      rintro e w5 ⟨rfl, v5, hN5, hm5⟩
      have HT5 := Lib.hid (hT4.swap.move hN5 hm5).swap
      clear hT4 hN5 hm5 b0 b1 b2
      go_wp2_with fail
      go_roundw
      case rel => exact ⟨k + 1, v4, v5, by omega, by go_num, by rw [HTK.out]; exact HT5.out⟩
      case measure => simp [intOf]; omega
    · obtain rfl : k = l.length := by omega
      rw [List.take_length] at hT
      have hT2 := hT.next ((Below.refl _ _).alloc (Nat.le_refl _) (.cells #[] 28))
      have hown := World.ownsRow_made (base := W.heap.size) (e := 28) (size := 3) wr #[] 0 hT.p.size (by unfold maxLen; omega) (by simp)
      have HO : Kd.R k28 28 (wr.alloc (.cells #[] 28)) W.heap.size (fun _ => True) (.slice (some ⟨wr.heap.size, 0, none⟩) 0 0) [] := Kd.R_mono (row_R hown) (fun _ _ => trivial)
      have HR := Kd.C_below H.out hT2.p.below
      have HK : ∀ x cs, k28.K (wr.alloc (.cells #[] 28)) x cs → k28.M (wr.alloc (.cells #[] 28)) W.heap.size (fun _ => False) x cs := fun x cs hx => by
        rw [k28_open hx]
        exact k28_mkM _ _ _ x
      have h0 := Lib.hid hT
      have h2 := Lib.hid (hT2.p.below)
      have h3 := Lib.hid HO
      have h4 := Lib.hid HR
      have h5 := Lib.hid HK
      have h6 : W.heap.size ≤ (wr.alloc (.cells #[] 28)).heap.size := hT2.p.size
      have h6' := Lib.hid h6
      clear hT hT2 hown HO HR HK h6
      go_wp2_with (at_builtin; refine Kd.R_append_rows k28 (w0 := W) W.heap.size rfl (.tmp 40) (.tmp 41) 26 28 (.agg #[(.int .i64 0), (.int .i64 0), (.string ⟨#[]⟩)]) 32 rfl Try.underlying26 HI.out rfl (by decide) (by decide) (.slice (some ⟨wr.heap.size, 0, none⟩) 0 0) [] l _ _ _ (fun _ => True) (fun _ => False) rfl rfl h3.out h4.out h5.out (fun _ h => h.elim) (fun _ _ => trivial) h2.out h6'.out (by simp; omega) ?_; intro v9 w3 hR hB hG hat)
      have hrow : Row W.heap.size v9 l w3 := ⟨R_row hR⟩
      have hT3 := h0.out.grown (w1 := wr.alloc (.cells #[] 28)) ((Below.refl _ _).alloc (Nat.le_refl _) _) (Nat.le_refl _) hG
      have hnew : ∀ k, v9.ownBlock = some k → wr.heap.size ≤ k := fun k hk => by
        rcases hat with he | ⟨b, he, hb⟩
        · rw [he] at hk
          have : wr.heap.size = k := by simpa [Value.ownBlock] using hk
          omega
        · rw [he] at hk
          injection hk with hk
          simp at hb
          omega
      have hfp : Far vp v9 := fun k hk hu => by have := h0.out.p.row k hk; have := hnew k hu; omega
      have hfq : Far vq v9 := fun k hk hu => by have := h0.out.q.row k hk; have := hnew k hu; omega
      clear h0 h2 h3 h4 h5 h6' hR hB hG hat hnew
      obtain ⟨wo, rfl⟩ : ∃ wo : World, wo = wr := ⟨_, rfl⟩
      go_loopw [9, 45] (fun v9 v45 wr => ∃ (i : Nat) (vp vq : Value) (r : List S28), i ≤ l.length ∧ v45 = .int .i64 (i : Int) ∧ r.length = l.length - i ∧ Two W W.heap.size P (P + 1) vp vq (l.drop i) r wr ∧ Row W.heap.size v9 r wr ∧ Far vp v9 ∧ Far vq v9) (fun _ v45 _ => l.length - (intOf v45).toNat)
      case atStart => exact ⟨0, vp, vq, l, Nat.zero_le _, rfl, by omega, hT3, hrow, hfp, hfq⟩
      case round =>
        clear hT3 hrow hfp hfq vp vq
        obtain ⟨i, vp, vq, r, hi, rfl, hrl, hT, hrow, hfp, hfq⟩ := hrel
        by_cases hlt : i < l.length
        · obtain ⟨Ar, cr, rfl⟩ := Kd.R_slice (row_R hrow.own)
          obtain ⟨ad, rfl, c0, c1', c2⟩ := H.out.at_ hT.p.below i hlt
          have hT2 := hT.next ((Below.refl _ _).alloc (Nat.le_refl _) (.cells #[.int .i64 (l[i]).f0, .int .i64 (l[i]).f1, .string (l[i]).f2] 28))
          have hrow2 := hrow.next ((Below.refl _ _).alloc (Nat.le_refl _) (.cells #[.int .i64 (l[i]).f0, .int .i64 (l[i]).f1, .string (l[i]).f2] 28))
          have hbx := blk_new wr (.cells #[.int .i64 (l[i]).f0, .int .i64 (l[i]).f1, .string (l[i]).f2] 28)
          have hprow := hT.p.row
          have hqrow := hT.q.row
          have hgl := hT.p.bag.lt
          have hgq := hT.q.bag.lt
          have hTake := take_first hT2.p hlt hl
          simp only [lv] at hTake
          clear hT hrow
          generalize hx : l[i] = x at *
          clear hx
          go_wp2_with fail
          generalize wr.alloc (.cells #[.int .i64 x.f0, .int .i64 x.f1, .string x.f2] 28) = w3 at *
          generalize wr.heap.size = G at *
          refine hTake.mono ?_
          rintro e w4 ⟨rfl, vp4, hN4, hm4⟩
          clear hTake
          have hbx4 := hm4.1.blk hbx (by
            rintro (h | h)
            · omega
            · have := hprow _ h; omega)
          obtain ⟨hrow4, hfp4⟩ := hrow2.move hT2.p hfp hm4
          have hT4 := hT2.move hN4 hm4
          have hT5 := hT4.next ((Below.refl _ _).alloc (Nat.le_refl _) (.cells #[.int .i64 x.f0, .int .i64 x.f1, .string x.f2] 28))
          have hrow5 := hrow4.next ((Below.refl _ _).alloc (Nat.le_refl _) (.cells #[.int .i64 x.f0, .int .i64 x.f1, .string x.f2] 28))
          obtain ⟨b0, b1, b2, _, _, _, b6⟩ := box3 hbx4
          clear hT2 hrow2 hbx hbx4 hN4 hm4 hT4 hrow4 hfp
          have hrpos : 0 < r.length := by omega
          have hr300 : r.length ≤ 300 := by omega
          have HRL := Lib.hid hrl
          clear hrl
          by_cases hpi : i < pk.length
          · obtain ⟨ad1, rfl, pc⟩ := ints_at H1.out hT5.p.below i hpi
            generalize pk[i] = y at *
            go_wp2_with fail
            obtain ⟨k, hkz, hk2⟩ : ∃ k : Nat, wrap64 ((IntKind.u64.wrap y).tmod (r.length : Int)) = (k : Int) ∧ k < r.length := by
              have h0 : 0 ≤ IntKind.u64.wrap y := by rw [IntKind.wrap_u64]; omega
              rw [Int.tmod_eq_emod_of_nonneg h0]
              have h1 := Int.emod_nonneg (IntKind.u64.wrap y) (b := (r.length : Int)) (by omega)
              have h2 := Int.emod_lt_of_pos (IntKind.u64.wrap y) (b := (r.length : Int)) (by omega)
              refine ⟨(IntKind.u64.wrap y % (r.length : Int)).toNat, ?_, by omega⟩
              rw [wrap_in h1 (by omega)]
              omega
            generalize wrap64 ((IntKind.u64.wrap y).tmod (r.length : Int)) = z at *
            subst hkz
            have hTk := now_take hT5.q k hk2 (by omega)
            obtain ⟨y2, hy2⟩ : ∃ y2, r[k] = y2 := ⟨_, rfl⟩
            rw [hy2] at hTk
            simp only [lv] at hTk
            refine (hTk).mono ?_
            rintro e w6 ⟨rfl, vq6, hN6, hm6⟩
            obtain ⟨hrow6, hfq6⟩ := hrow5.move hT5.q hfq hm6
            have hT6 := (hT5.swap.move hN6 hm6).swap
            have hT7 := hT6.next ((Below.refl _ _).alloc (Nat.le_refl _) (.cells #[.int .i64 y2.f0, .int .i64 y2.f1, .string y2.f2] 28))
            have hrow7 := hrow6.next ((Below.refl _ _).alloc (Nat.le_refl _) (.cells #[.int .i64 y2.f0, .int .i64 y2.f1, .string y2.f2] 28))
            obtain ⟨rr, rfl, hrlt, hrc, rc0, rc1, rc2⟩ := hrow6.cells k hk2
            rw [hy2] at rc0 rc1 rc2
            have hT8 := fun nq => hT7.next (pw_below_drewN (Below.refl _ _) nq)
            have hrow8 := fun nq => hrow7.next (pw_below_drewN (Below.refl _ _) nq)
            have HT8 := Lib.hid hT8
            have HR8 := Lib.hid hrow8
            clear hy2 hT5 hrow5 hN6 hm6 hT6 hrow6 hfq hTk hT7 hrow7 hT8 hrow8
            go_wp2_with fail
            go_quiet (fail)
            go_wp2_with fail
            refine (without_calls (w0 := W) (HR8.out nq) k hk2 (by omega) (HT8.out nq).p.size).mono ?_
            rintro e w8 ⟨v8, rfl, hrow9, hb8, hnew8⟩
            have hT9 := Lib.hid ((HT8.out nq).next hb8)
            have hfp9 : Hid (Far vp4 v8) := fun j hj hu => by have := (HT8.out nq).p.row j hj; have := hnew8 j hu; omega
            have hfq9 : Hid (Far vq6 v8) := fun j hj hu => by have := (HT8.out nq).q.row j hj; have := hnew8 j hu; omega
            have HR9 := Lib.hid hrow9
            clear hrow9 hb8 hnew8
            go_wp2_with fail
            go_roundw
            case rel => exact ⟨i + 1, vp4, vq6, without r k, by omega, by go_num, by rw [without_length r k hk2, HRL.out]; omega, hT9.out, HR9.out, hfp9, hfq9⟩
            case measure => simp [intOf]; omega
          · have hk2 : 0 < r.length := hrpos
            have hTk0 := now_take hT5.q 0 hk2 (by omega)
            obtain ⟨y2, hy2⟩ : ∃ y2, r[0] = y2 := ⟨_, rfl⟩
            rw [hy2] at hTk0
            simp only [lv] at hTk0
            have hTk : Calls Try.prog 10 #[.pointer (some ⟨P + 1, 0, none⟩), .int .i64 0] (w4.alloc (.cells #[.int .i64 x.f0, .int .i64 x.f1, .string x.f2] 28)) fun e w' => e = .returned (.tuple #[.agg #[.int .i64 y2.f0, .int .i64 y2.f1, .string y2.f2], .bool true]) ∧ ∃ v', Now W W.heap.size (P + 1) v' (without r 0) w' ∧ Moves (w4.alloc (.cells #[.int .i64 x.f0, .int .i64 x.f1, .string x.f2] 28)) (P + 1) vq v' w' := hTk0
            clear hTk0
            go_wp2_with fail
            refine (hTk).mono ?_
            rintro e w6 ⟨rfl, vq6, hN6, hm6⟩
            obtain ⟨hrow6, hfq6⟩ := hrow5.move hT5.q hfq hm6
            have hT6 := (hT5.swap.move hN6 hm6).swap
            have hT7 := hT6.next ((Below.refl _ _).alloc (Nat.le_refl _) (.cells #[.int .i64 y2.f0, .int .i64 y2.f1, .string y2.f2] 28))
            have hrow7 := hrow6.next ((Below.refl _ _).alloc (Nat.le_refl _) (.cells #[.int .i64 y2.f0, .int .i64 y2.f1, .string y2.f2] 28))
            obtain ⟨rr, rfl, hrlt, hrc, rc0, rc1, rc2⟩ := hrow6.cells 0 hk2
            rw [hy2] at rc0 rc1 rc2
            simp only [Nat.zero_mul, Nat.zero_add] at rc0 rc1 rc2
            have hT8 := fun nq => hT7.next (pw_below_drewN (Below.refl _ _) nq)
            have hrow8 := fun nq => hrow7.next (pw_below_drewN (Below.refl _ _) nq)
            have HT8 := Lib.hid hT8
            have HR8 := Lib.hid hrow8
            clear hy2 hT5 hrow5 hN6 hm6 hT6 hrow6 hfq hTk hT7 hrow7 hT8 hrow8
            go_wp2_with fail
            go_quiet (fail)
            go_wp2_with fail
            refine (without_calls (w0 := W) (HR8.out nq) 0 hk2 (by omega) (HT8.out nq).p.size).mono ?_
            rintro e w8 ⟨v8, rfl, hrow9, hb8, hnew8⟩
            have hT9 := Lib.hid ((HT8.out nq).next hb8)
            have hfp9 : Hid (Far vp4 v8) := fun j hj hu => by have := (HT8.out nq).p.row j hj; have := hnew8 j hu; omega
            have hfq9 : Hid (Far vq6 v8) := fun j hj hu => by have := (HT8.out nq).q.row j hj; have := hnew8 j hu; omega
            have HR9 := Lib.hid hrow9
            clear hrow9 hb8 hnew8
            go_wp2_with fail
            go_roundw
            case rel => exact ⟨i + 1, vp4, vq6, without r 0, by omega, by go_num, by rw [without_length r 0 hk2, HRL.out]; omega, hT9.out, HR9.out, hfp9, hfq9⟩
            case measure => simp [intOf]; omega
        · obtain rfl : i = l.length := by omega
          rw [List.drop_length] at hT
          have hr0 : r = [] := List.eq_nil_of_length_eq_zero (by omega)
          subst hr0
          have HP := Lib.hid (now_len hT.p)
          have HQ := Lib.hid (now_len hT.q)
          have hbl := hT.p.below
          clear hT hrow hrl
          simp only [List.length_nil] at HP HQ
          go_wp2_with fail
          refine HP.out.mono ?_
          rintro e w3 ⟨rfl, rfl⟩
          go_wp2_with fail
          refine HQ.out.mono ?_
          rintro e w3 ⟨rfl, rfl⟩
          go_wp2_with fail
          go_ret
          exact ⟨rfl, hbl⟩
end Go.Proofs.Ytaooemnninnfcaa.Bag
