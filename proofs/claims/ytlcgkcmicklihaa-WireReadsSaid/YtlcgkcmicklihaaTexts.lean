/- The contract of texts. -/
import Derived.Test.YtlcgkcmicklihaaFlag
namespace Go.Proofs.Ytlcgkcmicklihaa.Wire
set_option linter.unusedVariables false
set_option linter.unusedSimpArgs false
open Go.RowKit Go.Proofs.YtlcgkcmicklihaaW.PrintWords Go.Proofs.YtlcgkcmicklihaaW.PrintLast Go.Proofs.YtlcgkcmicklihaaW.PrintMore
theorem Pre.cell_str {g b T o : Nat} {pre post : List Value} {s : Sg} {c : Option Nat} {ok : Nat → Prop} {x : ByteArray} {w : World} (h : Pre g b T pre post .str s c ok x w) (ho : o = pre.length) : w.cell? ⟨b, o, none⟩ = some (.string x) := by
  obtain ⟨seg, h1, h2⟩ := h.at_
  have h1' : seg = [.string x] := h1
  subst h1'
  exact h2.cell ho
theorem strCells_cell8 (s : ByteArray) : Lib.strCells s = s.data.toList.map cell8 := by
  simp only [Lib.strCells]
  rfl
/-- Where the row of bytes lies behind an append of a string. -/
theorem append_str_next {P : Program} (w : World) (t u ty e : TypeId) (i : TypeInfo) (ht : P.underlying t = some (.slice e)) (hu : P.underlying u = some .string) (hi : P.info? e = some i) (hz : i.zero = some (.int .u8 0))
    (hsize : i.size = 1) (hby : i.bytes = 1) (v : Value) (n : Nat) (xs : List Value) (hown : w.ownsRow 0 e 1 v n xs) (s : ByteArray) (hm : n + s.size ≤ 68719476736) (v' : Value) (w' : World)
    (hr : (Builtin.append_ #[t, u] ty #[v, .string s]).run P w = .ok v' w') : Next w v.ownBlock v'.ownBlock := by
  have hxl : xs.length = n := by simpa using hown.1
  rcases hown.2 with ⟨rfl, rfl⟩ | ⟨g, cap, cur, rfl, hbg, hg, hnc, hcm, hcs, htake⟩
  · by_cases h0 : s.size = 0
    · obtain ⟨v2, w2, hr2, _, _, hnil⟩ := Lib.run_append_own_string (P := P) w 0 t u ty e i ht hu hi hz hsize hby _ _ xs hown s (by unfold maxLen; omega) (by omega) (Nat.zero_le _)
      have := hr.symm.trans hr2
      injection this with e1 _
      rw [e1, hnil.2 ⟨rfl, h0⟩]
      exact .inl rfl
    · have hr2 := run_append_nil_string (P := P) w t u ty e i (.int .u8 0) ht hu hi hz s (by omega) (by omega) (by rw [hby]; omega)
      have := hr.symm.trans hr2
      injection this with e1 _
      rw [e1]
      exact .inr ⟨w.heap.size, rfl, Nat.le_refl _⟩
  · by_cases hroom : n + s.size ≤ cap
    · have hcs' : cur.size = cap := by simpa using hcs
      have hr2 := Lib.run_append_room_string (P := P) w t u ty e i ht hu hi hsize g n cap cur hg s hroom (by omega)
      have := hr.symm.trans hr2
      injection this with e1 _
      rw [e1]
      exact .inl rfl
    · have holds : ∀ j u, xs[j]? = some u → w.cell? ((⟨g, 0, none⟩ : Addr).add j) = some u := hown.cells (g := g) rfl
      have hr2 := Lib.run_append_grow_string (P := P) w t u ty e i (.int .u8 0) ht hu hi hz ⟨g, 0, none⟩ n cap xs (by rw [hsize]; simpa using hxl) holds s (by omega) (by omega) (by rw [hby]; exact growslice_fits (by omega) (by omega))
      have := hr.symm.trans hr2
      injection this with e1 _
      rw [e1]
      exact .inr ⟨w.heap.size, rfl, Nat.le_refl _⟩
theorem own_is_slice {w : World} {base n : Nat} {e : TypeId} {size : Nat} {v : Value} {xs : List Value} (h : w.ownsRow base e size v n xs) : ∃ A c, v = .slice A n c := by
  rcases h.2 with ⟨rfl, rfl⟩ | ⟨g, cap, cur, rfl, _⟩
  · exact ⟨_, _, rfl⟩
  · exact ⟨_, _, rfl⟩
theorem step_append_str {P : Program} {w : World} {ops : Array Oper} {o : Oper} {a : Act} {K : Act → World → Prop} {Q : Exit → Act → World → Prop} {E : Prop} (hgd : o.guard = none) (sl x : Operand) (t u : TypeId)
    (ho : o.op = .call { callee := .builtin .append, args := #[sl, x], argTypes := #[t, u] }) (e : TypeId) (i : TypeInfo) (ht : P.underlying t = some (.slice e)) (hu : P.underlying u = some .string) (hi : P.info? e = some i) (hz : i.zero = some (.int .u8 0))
    (hsize : i.size = 1) (hby : i.bytes = 1) (v : Value) (n : Nat) (xs : List Value) (hs : a.eval sl = v) (hown : w.ownsRow 0 e 1 v n xs) (s : ByteArray) (hx : a.eval x = .string s) (hm : n + s.size ≤ 68719476736)
    (h : ∀ v' w', w'.ownsRow 0 e 1 v' (n + s.size) (xs ++ Lib.strCells s) → w.grownBy w' v.ownBlock → Next w v.ownBlock v'.ownBlock → K (a.put o.dst v') w') :
    if Region.wanted o (yielded ops a.tmps) = true then Oper.wp P o a w K Q else E := by
  have hw : Region.wanted o (yielded ops a.tmps) = true := by simp [Region.wanted, hgd]
  rw [if_pos hw]
  obtain ⟨v', w', hr, h2, h3, _⟩ := Lib.run_append_own_string (P := P) w 0 t u o.type e i ht hu hi hz hsize hby v n xs hown s (by unfold maxLen; omega) (by omega) (Nat.zero_le _)
  have h4 := append_str_next w t u o.type e i ht hu hi hz hsize hby v n xs hown s hm v' w' hr
  unfold Oper.wp execOp
  simp only [ho, resolve, invoke, builtin, Sem.run_bind, Sem.run_pure, Result.andThen_ok, List.map_toArray, List.map_cons, List.map_nil, hs, hx, hr]
  exact h v' w' h2 h3 h4
theorem Done.str_wr {g b T : Nat} {pre post : List Value} {out : List UInt8} {c : Option Nat} {ok : Nat → Prop} {y : ByteArray} {w w1 w2 : World} {v v2 : Value} (h : Pre g b T pre post .str (.wr out) c ok y w)
    (hf : Fr w w1 (Own g c)) (hn : Next w c v.ownBlock) (hW : Wr g v2 (out ++ num (y.size : Int) ++ y.data.toList) w2) (hf2 : Fr w1 w2 (Own g v.ownBlock)) (hn2 : Next w1 v.ownBlock v2.ownBlock) :
    Done g b T pre post .str (.wr out) c ok y w v2.ownBlock w2 := by
  obtain ⟨seg, h1, h2⟩ := h.at_
  have h1' : seg = [.string y] := h1
  subst h1'
  have hf3 : Fr w w2 (Own g c) := hf.trans hf2 (Own.next hn)
  refine ⟨⟨v2, ?_, rfl⟩, ⟨_, rfl, h2.fr hf3 (fun hk => hk.elim h.bg h.bc)⟩, hf3.mono (fun k hk => .inl hk), hn.trans hn2 hf.size⟩
  have e : out ++ (num (y.data.toList.length : Int) ++ y.data.toList) = out ++ num (y.size : Int) ++ y.data.toList := by
    rw [List.append_assoc]
    simp
  show Wr g v2 (out ++ (num (y.data.toList.length : Int) ++ y.data.toList)) w2
  rw [e]
  exact hW
theorem foldl_push_u8 : ∀ (l : List UInt8) (s : ByteArray), (l.map (fun x => (x.toNat : Int))).foldl (fun r n => r.push (UInt8.ofNat n.toNat)) s = ⟨(s.data.toList ++ l).toArray⟩
  | [], s => by cases s; simp
  | x :: l, s => by
    simp only [List.map_cons, List.foldl_cons]
    rw [foldl_push_u8 l]
    simp [ByteArray.push]
set_option maxRecDepth 100000 in
/-- The first bytes, as a text. -/
theorem conv_bytes {g r off cap : Nat} {st : St} {w : World} (h : Rd g r off cap st w) (m : Nat) (hm : m ≤ st.bs.length) (cap' : Nat) :
    (convert 131 9 (.slice (some ⟨r, off, none⟩) m cap')).run Try.prog w.drew = .ok (.string ⟨(st.bs.take m).toArray⟩) w.drew := by
  have hl : (st.bs.take m).length = m := by rw [List.length_take]; omega
  have h5 : Try.prog.underlying 5 = some (.int .u8) := by kernel_rfl
  have hc := run_loadCells_list (P := Try.prog) w.drew ⟨r, off, none⟩ ((st.bs.take m).map cell8) (fun j v hj => by
    rw [List.getElem?_map] at hj
    have hjl : j < (st.bs.take m).length := by
      rcases Nat.lt_or_ge j (st.bs.take m).length with h' | h'
      · exact h'
      · rw [List.getElem?_eq_none h'] at hj
        cases hj
    rw [List.getElem?_eq_getElem hjl] at hj
    simp only [Option.map_some] at hj
    injection hj with hj
    subst hj
    rw [List.length_take] at hjl
    have := h.at_ j (by omega)
    have ha : (⟨r, off, none⟩ : Addr).add j = ⟨r, off + j, none⟩ := add_at _ _ _
    rw [ha, List.getElem_take]
    unfold cell8
    exact this)
  rw [List.length_map, hl] at hc
  have e2 : (st.bs.take m).map cell8 = ((st.bs.take m).map (fun x => (x.toNat : Int))).map (Value.int .u8) := by
    rw [List.map_map]
    rfl
  rw [e2] at hc
  rw [run_convert_bytes_string w.drew 131 9 5 _ m cap' Try.underlying131 h5 Try.underlying9, run_bytesToString w.drew ⟨r, off, none⟩ m cap' _ hc]
  congr 2
  exact foldl_push_u8 _ _
theorem Pre.blk_str {g b T : Nat} {pre post : List Value} {s : Sg} {c : Option Nat} {ok : Nat → Prop} {x : ByteArray} {w : World} (h : Pre g b T pre post .str s c ok x w) : Blk w b T pre [.string x] post := by
  obtain ⟨seg, h1, h2⟩ := h.at_
  have h1' : seg = [.string x] := h1
  subst h1'
  exact h2
theorem Pre.bc_ne {g b T r : Nat} {pre post : List Value} {t : Ty} {s : Sg} {c : Option Nat} {ok : Nat → Prop} {x : t.T} {w : World} (h : Pre g b T pre post t s c ok x w) (hn : Next w c (some r)) : b ≠ r := fun e =>
  hn.ne h.bc h.blt (by rw [e])
theorem Done.str_bad {g b T r off cap : Nat} {pre post : List Value} {st : St} {c : Option Nat} {ok : Nat → Prop} {w w1 w2 : World} {n1 : Int} {bs : List UInt8} {bad : Bool} (h : Pre g b T pre post .str (.rd st) c ok (⟨#[]⟩ : ByteArray) w)
    (hf : Fr w w1 (Own g c)) (hn : Next w c (some r)) (hrd : rdNum 0 st = (n1, ⟨bs, bad⟩)) (hb : bad = true ∨ n1 < 0 ∨ (bs.length : Int) < n1) (hR : Rd g r off cap ⟨bs, bad⟩ w2) (hf2 : Below w1.heap.size w1 w2) :
    Done g b T pre post .str (.rd st) c ok (⟨#[]⟩ : ByteArray) w (some r) (w2.setCell ⟨g, 2, none⟩ (.bool true)) := by
  obtain ⟨seg, h1, h2⟩ := h.at_
  have h1' : seg = [.string ⟨#[]⟩] := h1
  subst h1'
  have hf3 : Fr w (w2.setCell ⟨g, 2, none⟩ (.bool true)) (Own g c) := (hf.below hf2).setCell (p := ⟨g, 2, none⟩) (.inl (.inl rfl)) _
  have e : rdText st = ([], ⟨bs, true⟩) := by
    unfold rdText
    rw [hrd]
    exact if_pos hb
  refine ⟨⟨r, off, cap, ?_, rfl⟩, ⟨[.string ⟨#[]⟩], ?_, h2.fr hf3 (fun hk => hk.elim h.bg h.bc)⟩, hf3.mono (fun k hk => .inl hk), hn⟩
  · show Rd g r off cap (rdText st).2 _
    rw [e]
    exact hR.mark true
  · show [Value.string ⟨#[]⟩] = [Value.string ⟨(rdText st).1.toArray⟩]
    rw [e]
theorem Done.str_ok {g b T r off cap m : Nat} {pre post : List Value} {st : St} {c : Option Nat} {ok : Nat → Prop} {w w1 W3 W4 : World} {bs : List UInt8} (h : Pre g b T pre post .str (.rd st) c ok (⟨#[]⟩ : ByteArray) w)
    (hf : Fr w w1 (Own g c)) (hn : Next w c (some r)) (hrd : rdNum 0 st = ((m : Int), ⟨bs, false⟩)) (hm : m ≤ bs.length) (f3 : Fr w1 W3 (fun i => i = b)) (hk : Blk W3 b T pre [.string ⟨(bs.take m).toArray⟩] post)
    (hR : Rd g r off cap ⟨bs.drop m, false⟩ W4) (f4 : Fr W3 W4 (fun k => k = g)) :
    Done g b T pre post .str (.rd st) c ok (⟨#[]⟩ : ByteArray) w (some r) W4 := by
  have e : rdText st = (bs.take m, ⟨bs.drop m, false⟩) := by
    unfold rdText
    rw [hrd]
    simp only []
    rw [if_neg (by simp; omega), Int.toNat_natCast]
  refine ⟨⟨r, off, cap, ?_, rfl⟩, ⟨[.string ⟨(bs.take m).toArray⟩], ?_, hk.fr f4 (fun he => h.bg he)⟩, ((hf.mono (fun k hk => .inl hk)).trans f3 (fun i hi => .inl (.inr hi))).trans f4 (fun i hi => .inl (.inl (.inl hi))), hn⟩
  · show Rd g r off cap (rdText st).2 _
    rw [e]
    exact hR
  · show [Value.string ⟨(bs.take m).toArray⟩] = [Value.string ⟨(rdText st).1.toArray⟩]
    rw [e]
set_option maxRecDepth 100000 in
set_option maxHeartbeats 2000000 in
theorem texts_calls {g b T o n q : Nat} {pre post : List Value} {s : Sg} {c : Option Nat} {ok : Nat → Prop} {x : (reps .str n).T} {w : World} (h : Pre g b T pre post (reps .str n) s c ok x w) (ho : o = pre.length)
    (hq : Ptrs w q b o n) (hqg : q ≠ g) (hqb : q ≠ b) (hqc : c ≠ some q) (hn : n ≤ 1000) :
    Calls Try.prog 57 #[.pointer (some ⟨g, 0, none⟩), .slice (some ⟨q, 0, none⟩) (n + 1) (n + 1)] w fun e w' => e = .returned (.tuple #[]) ∧ ∃ c', Done g b T pre post (reps .str n) s c ok x w c' w' := by
  obtain ⟨i0, hi0, hz0, hz1, hz2⟩ := info_parts info5
  have HI0 := Lib.hid hi0
  have HI1 := Lib.hid hz0
  have HI2 := Lib.hid hz1
  have HI3 := Lib.hid hz2
  clear hi0 hz0 hz1 hz2
  have H0 := Lib.hid h
  have HO := Lib.hid ho
  have HQ := Lib.hid hq
  have HQC := Lib.hid hqc
  clear h ho hq hqc
  go_enter Try.func57, Try.ntmps57
  go_wp2_with fail
  go_loopw [9] (fun v9 wr => ∃ (k : Nat) (c' : Option Nat), v9 = .int .i64 (k : Int) ∧ k ≤ n + 1 ∧ RepsAt .str g b T n pre post s c ok x w k c' wr ∧ Ptrs wr q b o n ∧ c' ≠ some q) (fun v9 _ => n + 1 - (intOf v9).toNat)
  case atStart => exact ⟨0, c, rfl, by omega, RepsAt.start H0.out, HQ.out, HQC.out⟩
  case round =>
    obtain ⟨k, c', rfl, hk, hN, hP, hcq⟩ := hrel
    have HN := Lib.hid hN
    have HP := Lib.hid hP
    have HCQ := Lib.hid hcq
    by_cases hlt : k ≤ n
    · obtain ⟨pre', post', s', ok', y, hl, hPre, hNext⟩ := hN.round rfl hlt
      have hcp := hP k hlt
      have hcy := hPre.cell_str (o := o + k) (by rw [hl, HO.out])
      clear hN hP hcq
      have HL := Lib.hid (show o + k = pre'.length by rw [hl, HO.out])
      have HNX := Lib.hid hNext
      have hbg := hPre.bg
      have hgb : g ≠ b := fun e => hbg e.symm
      have HREL : Hid (∀ (c1 : Option Nat) (w1 : World), Done g b T pre' post' .str s' c' ok' y wr c1 w1 → RepsAt .str g b T n pre post s c ok x w (k + 1) c1 w1 ∧ Ptrs w1 q b o n ∧ c1 ≠ some q) := Lib.hid fun c1 w1 hd => ⟨HNX.out c1 w1 hd, HP.out.fr hd.fr (fun hk => by
        rcases hk with (hk | hk) | hk
        · exact hqg hk
        · exact HCQ.out hk
        · exact hqb hk), hd.nx.ne HCQ.out HP.out.lt⟩
      cases s' with
      | wr out =>
        have hgood : y.data.toList.length ≤ top := hPre.good
        have hfit : (out ++ (num y.data.toList.length ++ y.data.toList)).length ≤ 68719476736 := hPre.f1
        have HR := Lib.hid hPre
        clear hl hPre hNext
        have hys : y.size = y.data.toList.length := by simp
        have hy1 : y.size ≤ 68719476736 := by
          rw [List.length_append, List.length_append] at hfit
          omega
        have hfit1 : (out ++ num (y.size : Int)).length ≤ 68719476736 := by
          rw [hys]
          rw [List.length_append, List.length_append] at hfit
          rw [List.length_append]
          omega
        have HY := Lib.hid hys
        have HF := Lib.hid hfit
        have HF1 := Lib.hid hfit1
        clear hys hfit hfit1 hgood
        go_wp2_with fail
        refine (num_calls (y := (y.size : Int)) HR.out.co ⟨by omega, by omega⟩ HR.out.f0 HF1.out).mono ?_
        rintro e w1 ⟨rfl, c1, hd⟩
        obtain ⟨q1, q2, q3, k2, _⟩ := hd.beside
        clear hd
        obtain ⟨k0, k1⟩ := HR.out.kept q2 (o + k)
        rw [hcy] at k0
        obtain ⟨v, hW, rfl⟩ := q1.wr
        have g0 := hW.c0
        have g1 := hW.c1
        have f0 := hW.free 0
        have Q2 := Lib.hid q2
        have Q3 := Lib.hid q3
        have HW := Lib.hid hW
        clear q1 q2 q3 hW hcp hcy
        go_wp2_with fail
        have hm : (out ++ num (y.size : Int)).length + y.size ≤ 68719476736 := by
          have := HF.out
          rw [HY.out]
          rw [List.length_append, List.length_append] at this
          rw [List.length_append]
          omega
        have hown0 : w1.drew.ownsRow 0 5 1 v (out ++ num (y.size : Int)).length ((out ++ num (y.size : Int)).map cell8) := HW.out.own.drew
        obtain ⟨ol, hol⟩ : ∃ ol, ol = (out ++ num (y.size : Int)).length := ⟨_, rfl⟩
        rw [← hol] at hm hown0
        have HOL := Lib.hid hol
        have HOWN := Lib.hid hown0
        clear hol hown0
        go_region_law (refine step_append_str rfl (.tmp 48) (.tmp 51) 131 9 rfl 5 i0 Try.underlying131 Try.underlying9 HI0.out HI1.out HI2.out HI3.out v ol ((out ++ num (y.size : Int)).map cell8) (by simp [Act.eval]) HOWN.out y (by simp [Act.eval]) hm ?_; intro v' w' hown hgrow hnext; obtain ⟨k0', k1'⟩ := HW.out.seen ((Below.refl w1.heap.size w1).drew) hgrow; obtain ⟨A', cp', rfl⟩ := own_is_slice hown)
        all_goals
          go_wp2_with fail
          go_roundw
          case rel =>
            rw [strCells_cell8] at hown
            have hlen : (out ++ cNum.enc (y.size : Int) ++ y.data.toList).length = ol + y.size := by
              rw [HOL.out, HY.out, List.length_append (bs := y.data.toList)]
              rfl
            obtain ⟨p1, p2⟩ := HW.out.appended (news := y.data.toList) ((Below.refl w1.heap.size w1).drew) hgrow (by rw [hlen, List.map_append]; exact hown) hnext
            exact ⟨k + 1, _, by go_num, by omega, HREL.out _ _ (Done.str_wr HR.out Q2.out Q3.out p1 p2 hnext)⟩
          case measure => simp [intOf]; omega
      | rd st =>
        have hy : y = (⟨#[]⟩ : ByteArray) := hPre.good
        subst hy
        have hfit : st.bs.length ≤ 68719476736 := hPre.f0
        have HR := Lib.hid hPre
        clear hl hPre hNext
        have hz0 : ByteArray.size ⟨#[]⟩ = 0 := rfl
        have HZ0 := Lib.hid hz0
        clear hz0
        go_wp2_with fail
        refine (num_calls (y := 0) HR.out.co rfl HR.out.f0 (Nat.le_trans (rdNum_le 0 st) hfit)).mono ?_
        rintro e w1 ⟨rfl, c1, hd⟩
        obtain ⟨q1, q2, q3, k2, _⟩ := hd.beside
        clear hd
        obtain ⟨k0, k1⟩ := HR.out.kept q2 (o + k)
        rw [hcy] at k0
        obtain ⟨n1, bs, bad, hrd⟩ : ∃ n1 bs bad, rdNum 0 st = (n1, ⟨bs, bad⟩) := ⟨_, _, _, rfl⟩
        have hle := rdNum_le 0 st
        have hfn := rdNum_fits 0 fits0 st
        have e1 : (Sg.run cNum (Sg.rd st) 0).1 = n1 := congrArg Prod.fst hrd
        have e2 : (Sg.run cNum (Sg.rd st) 0).2 = .rd ⟨bs, bad⟩ := congrArg (fun p : Int × St => Sg.rd p.2) hrd
        rw [e1] at k2
        rw [e2] at q1
        rw [hrd] at hle hfn
        simp only [] at hle hfn
        obtain ⟨r, off, cap, hR, rfl⟩ := q1.rd
        have g0 := hR.c0
        have g1 := hR.c1
        have g2 := hR.c2
        have f0 := hR.free 0
        have f2 := hR.free 2
        have hcap := hR.le
        have htop := hR.top
        simp only [] at g0 g2 hcap
        obtain ⟨hfn0, hfn1⟩ := hfn
        have Q2 := Lib.hid q2
        have Q3 := Lib.hid q3
        have HRd := Lib.hid hR
        have HRD := Lib.hid hrd
        clear q1 q2 q3 hR hcp hcy e1 e2 hrd
        by_cases hb : bad = true ∨ n1 < 0 ∨ (bs.length : Int) < n1
        · have HB := Lib.hid hb
          rcases hb with hb | hb
          · rw [hb] at g2
            clear hb
            go_wp2_with fail
            go_quiet (fail)
            go_wp2_with fail
            go_roundw
            case rel =>
              exact ⟨k + 1, _, by go_num, by omega, HREL.out _ _ (Done.str_bad HR.out Q2.out Q3.out HRD.out HB.out (HRd.out.next (pw_below_drewN (Below.refl _ _) _)) (pw_below_drewN (Below.refl _ _) _))⟩
            case measure => simp [intOf]; omega
          · by_cases hbd : bad = true
            · rw [hbd] at g2
              clear hb
              go_wp2_with fail
              go_quiet (fail)
              go_wp2_with fail
              go_roundw
              case rel =>
                exact ⟨k + 1, _, by go_num, by omega, HREL.out _ _ (Done.str_bad HR.out Q2.out Q3.out HRD.out HB.out (HRd.out.next (pw_below_drewN (Below.refl _ _) _)) (pw_below_drewN (Below.refl _ _) _))⟩
              case measure => simp [intOf]; omega
            · rw [Bool.not_eq_true] at hbd
              rw [hbd] at g2
              by_cases hn0 : n1 < 0
              · have d1 : decide (n1 < 0) = true := decide_eq_true hn0
                clear hb
                go_wp2_with fail
                go_quiet (fail)
                go_wp2_with fail
                go_roundw
                case rel =>
                  exact ⟨k + 1, _, by go_num, by omega, HREL.out _ _ (Done.str_bad HR.out Q2.out Q3.out HRD.out HB.out (HRd.out.next (pw_below_drewN (Below.refl _ _) _)) (pw_below_drewN (Below.refl _ _) _))⟩
                case measure => simp [intOf]; omega
              · have hn2 : (bs.length : Int) < n1 := hb.resolve_left hn0
                have d1 : decide (n1 < 0) = false := decide_eq_false hn0
                have d2 : decide ((bs.length : Int) < n1) = true := decide_eq_true hn2
                clear hb
                go_wp2_with fail
                go_quiet (fail)
                go_wp2_with fail
                go_roundw
                case rel =>
                  exact ⟨k + 1, _, by go_num, by omega, HREL.out _ _ (Done.str_bad HR.out Q2.out Q3.out HRD.out HB.out (HRd.out.next (pw_below_drewN (Below.refl _ _) _)) (pw_below_drewN (Below.refl _ _) _))⟩
                case measure => simp [intOf]; omega
        · simp only [not_or, Bool.not_eq_true] at hb
          obtain ⟨rfl, hb1, hb2⟩ := hb
          obtain ⟨m, rfl⟩ := Int.eq_ofNat_of_zero_le (show (0 : Int) ≤ n1 by omega)
          have hm : m ≤ bs.length := by omega
          have d1 : decide ((m : Int) < 0) = false := decide_eq_false (by omega)
          have d2 : decide ((bs.length : Int) < (m : Int)) = false := decide_eq_false (by omega)
          go_wp2_with fail
          go_quiet (fail)
          go_wp2_with fail
          obtain ⟨W2, hW2⟩ : ∃ W2, W2 = w1.drewN nq := ⟨_, rfl⟩
          rw [← hW2]
          have H2 : Below w1.heap.size w1 W2 := hW2 ▸ pw_below_drewN (Below.refl _ _) _
          clear hW2
          have HR2 := Lib.hid (HRd.out.next H2)
          have g0' := HR2.out.c0
          have f0' := HR2.out.free 0
          have k2' := (H2.cell (p := ⟨wr.heap.size, 0, none⟩) (World.block_lt_of_cell? w1 _ k2)).trans k2
          have k0' := (H2.cell (p := ⟨b, o + k, none⟩) (World.block_lt_of_cell? w1 _ k0)).trans k0
          have k1' := (H2.frozen (p := ⟨b, o + k, none⟩) (World.block_lt_of_cell? w1 _ k0)).trans k1
          have hcv := conv_bytes HR2.out m hm cap
          have HH2 := Lib.hid H2
          clear H2 g0 f0 k2 k0 k1 g1 g2 f2
          have b1 : (m : Int) ≤ (cap : Int) := by omega
          have b2 : (m : Int) ≤ (bs.length : Int) := by omega
          have b3 : (0 : Int) ≤ (m : Int) := by omega
          have hwb : ¬ wr.heap.size = b := fun e => by have := HR.out.blt; omega
          go_still_tail 8, (by kernel_rfl)
          change wpList _ _ _ _ _ W2.drew
          go_wp2_with fail
          obtain ⟨W3, hW3⟩ : ∃ W3, W3 = (W2.setCell ⟨b, o + k, none⟩ (.string ⟨(bs.take m).toArray⟩)).drew := ⟨_, rfl⟩
          rw [← hW3]
          have F3 : Fr w1 W3 (fun i => i = b) := by
            rw [hW3]
            exact ((Fr.of_below HH2.out (fun i => i = b)).setCell (p := ⟨b, o + k, none⟩) (.inl rfl) _).drew
          have HR3 := Lib.hid (HRd.out.fr F3 (fun e => hbg e.symm) (fun e => HR.out.bc_ne Q3.out e.symm))
          have g03 := HR3.out.c0
          have f03 := HR3.out.free 0
          have k23 : W3.cell? ⟨wr.heap.size, 0, none⟩ = some (.int .i64 (m : Int)) := by
            rw [hW3]
            exact (World.cell?_setCell_other W2 ⟨b, o + k, none⟩ ⟨wr.heap.size, 0, none⟩ _ (fun e => hwb (by injection e with e1; exact e1.symm))).trans k2'
          have KB : Blk W3 b T pre' [.string ⟨(bs.take m).toArray⟩] post' := by
            rw [hW3]
            exact ((HR.out.blk_str.fr (Q2.out.below HH2.out) (fun hk => hk.elim HR.out.bg HR.out.bc)).put HL.out _)
          have HF3 := Lib.hid F3
          have HKB := Lib.hid KB
          have HW3 := Lib.hid hW3
          clear F3 KB hW3 g0' f0' k2' k0' k1' hcv
          have b4 : (m : Int) ≤ (bs.length : Int) := b2
          by_cases hcm : cap = m
          · subst hcm
            have hbm : bs.length = cap := by omega
            have HBM := Lib.hid hbm
            clear hbm
            go_still_tail 7, (by kernel_rfl)
            change wpList _ _ _ _ _ W3.drew
            go_wp2_with fail
            go_roundw
            case rel =>
              have hsk := (HR3.out.next ((Below.refl _ _).drew)).skip_all cap HBM.out.symm rfl
              simp only [HBM.out, Nat.sub_self] at hsk
              exact ⟨k + 1, _, by go_num, by omega, HREL.out _ _ (Done.str_ok HR.out Q2.out Q3.out HRD.out hm HF3.out HKB.out hsk ((Fr.refl W3 (fun k => k = g)).drew.setCell (p := ⟨g, 0, none⟩) (.inl rfl) _))⟩
            case measure => simp [intOf]; omega
          · have hcm2 : m < cap := by omega
            go_still_tail 7, (by kernel_rfl)
            change wpList _ _ _ _ _ W3.drew
            go_wp2_with fail
            go_roundw
            case rel =>
              exact ⟨k + 1, _, by go_num, by omega, HREL.out _ _ (Done.str_ok HR.out Q2.out Q3.out HRD.out hm HF3.out HKB.out ((HR3.out.next ((Below.refl _ _).drew)).skip m hm) ((Fr.refl W3 (fun k => k = g)).drew.setCell (p := ⟨g, 0, none⟩) (.inl rfl) _))⟩
            case measure => simp [intOf]; omega
    · obtain rfl : k = n + 1 := by omega
      clear hN hP hcq
      go_wp2_with fail
      go_end0
      exact ⟨rfl, c', HN.out.done⟩
end Go.Proofs.Ytlcgkcmicklihaa.Wire
