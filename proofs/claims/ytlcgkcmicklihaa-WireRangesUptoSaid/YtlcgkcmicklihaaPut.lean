/- put and get, apart from their code. -/
import Derived.Test.YtlcgkcmicklihaaTy
import Derived.Test.YtlcgkcmicklihaaList
import Derived.Test.YtlcgkcmicklihaaRNum
import Derived.Lib.ConvBytes
namespace Go.Proofs.Ytlcgkcmicklihaa.Wire
set_option linter.unusedVariables false
theorem longGo_short : ∀ (r i z : Nat) (st : St) (v : Nat) (st' : St), longGo r i z st = (some v, st') → st'.bad = false → z < 2 ^ i → st.bad = false ∧ ∃ k, 1 ≤ k ∧ v < 2 ^ (i + 7 * k) ∧ st'.bs.length + k = st.bs.length := by
  intro r
  induction r with
  | zero => intro i z st v st' h; simp [longGo] at h
  | succ r ih =>
    intro i z ⟨bs, bad⟩ v st' h hb hz
    cases bad with
    | true => simp [longGo] at h
    | false =>
      cases bs with
      | nil =>
        simp only [longGo, Bool.false_eq_true, if_false, Prod.mk.injEq] at h
        rw [← h.2] at hb
        cases hb
      | cons x rest =>
        simp only [longGo, Bool.false_eq_true, if_false] at h
        split at h
        · simp only [Prod.mk.injEq, Option.some.injEq] at h
          obtain ⟨h1, h2⟩ := h
          subst h1 h2
          exact ⟨rfl, 1, Nat.le_refl _, round_lt2 z x.toNat i hz, by simp⟩
        · obtain ⟨_, k, h1, h2, h3⟩ := ih _ _ _ v st' h hb (round_lt2 z x.toNat i hz)
          refine ⟨rfl, k + 1, by omega, ?_, ?_⟩
          · rw [show i + 7 * (k + 1) = i + 7 + 7 * k by omega]
            exact h2
          · simp only [List.length_cons]
            simp only [] at h3
            omega
theorem longGo_none : ∀ (r i z : Nat) (st st' : St), longGo r i z st = (none, st') → st'.bad = true := by
  intro r
  induction r with
  | zero => intro i z st st' h; simp [longGo] at h; rw [← h]
  | succ r ih =>
    intro i z ⟨bs, bad⟩ st' h
    cases bad with
    | true => simp [longGo] at h; rw [← h]
    | false =>
      cases bs with
      | nil => simp [longGo] at h
      | cons x rest =>
        simp only [longGo, Bool.false_eq_true, if_false] at h
        split at h
        · simp at h
        · exact ih _ _ _ _ h
theorem zz_unzz (z : Nat) : zz (unzz z) = z := by
  unfold zz unzz
  split <;> split <;> omega
theorem num_short (st : St) (h : (rdNum 0 st).2.bad = false) : (num (rdNum 0 st).1).length + (rdNum 0 st).2.bs.length ≤ st.bs.length ∧ st.bad = false := by
  unfold rdNum at h ⊢
  split at h
  · rename_i v st' he
    simp only [] at h ⊢
    obtain ⟨h0, k, h1, h2, h3⟩ := longGo_short 10 0 0 st v st' he h (by decide)
    refine ⟨?_, h0⟩
    have hv : v % 18446744073709551616 < 2 ^ (7 * ((k - 1) + 1)) := by
      rw [show 7 * ((k - 1) + 1) = 0 + 7 * k by omega]
      exact Nat.lt_of_le_of_lt (Nat.mod_le _ _) h2
    have := leb_len (k - 1) _ hv
    unfold num
    rw [zz_unzz]
    omega
  · rename_i st' he
    have := longGo_none _ _ _ _ _ he
    simp only [] at h
    rw [this] at h
    cases h
theorem listGo_short {α : Type} (c : Cod α) (hc : ∀ st, (c.dec st).2.bad = false → (c.enc (c.dec st).1).length + (c.dec st).2.bs.length ≤ st.bs.length ∧ st.bad = false) :
    ∀ (n : Nat) (acc : List α) (st : St), (listGo c n acc st).2.bad = false → st.bad = false ∧ ∃ l : List α, (listGo c n acc st).1 = acc ++ l ∧ l.length = n ∧ (encs c l).length + (listGo c n acc st).2.bs.length ≤ st.bs.length := by
  intro n
  induction n with
  | zero => intro acc st h; exact ⟨h, [], by simp [listGo], rfl, by simp [listGo, encs]⟩
  | succ n ih =>
    intro acc st h
    unfold listGo at h ⊢
    split at h
    · cases h
    · rename_i hn
      rw [if_neg hn]
      obtain ⟨h1, l, h2, h3, h4⟩ := ih _ _ h
      obtain ⟨h5, h6⟩ := hc st h1
      refine ⟨h6, (c.dec st).1 :: l, by rw [h2]; simp, by simp [h3], ?_⟩
      have : encs c ((c.dec st).1 :: l) = c.enc (c.dec st).1 ++ encs c l := by simp [encs]
      rw [this, List.length_append]
      omega
theorem Ty.short : ∀ (t : Ty) (st : St), (t.cod.dec st).2.bad = false → (t.cod.enc (t.cod.dec st).1).length + (t.cod.dec st).2.bs.length ≤ st.bs.length ∧ st.bad = false
  | .int, st, h => num_short st h
  | .bool, st, h => by
    have h : ((rdNum 0 st).2.bad || decide ((rdNum 0 st).1 < 0) || decide (1 < (rdNum 0 st).1)) = false := h
    simp only [Bool.or_eq_false_iff, decide_eq_false_iff_not] at h
    obtain ⟨⟨h1, h2⟩, h3⟩ := h
    have h4 := num_short st h1
    refine ⟨?_, h4.2⟩
    show (num (if ((rdNum 0 st).1 == 1) = true then 1 else 0)).length + (rdNum 0 st).2.bs.length ≤ st.bs.length
    have e : (if ((rdNum 0 st).1 == 1) = true then (1 : Int) else 0) = (rdNum 0 st).1 := by
      simp only [beq_iff_eq]
      split <;> omega
    rw [e]
    exact h4.1
  | .str, st, h => by
    have h : (rdText st).2.bad = false := h
    show (num (((⟨(rdText st).1.toArray⟩ : ByteArray).data.toList).length : Int) ++ (⟨(rdText st).1.toArray⟩ : ByteArray).data.toList).length + (rdText st).2.bs.length ≤ st.bs.length ∧ st.bad = false
    unfold rdText at h ⊢
    split at h
    · cases h
    · rename_i hc
      rw [if_neg hc]
      simp only [not_or, Bool.not_eq_true] at hc
      obtain ⟨h1, h2, h3⟩ := hc
      have h4 := num_short st h1
      refine ⟨?_, h4.2⟩
      simp only [List.length_append, List.length_take, List.length_drop]
      have hm : min (rdNum 0 st).1.toNat (rdNum 0 st).2.bs.length = (rdNum 0 st).1.toNat := by omega
      rw [hm]
      have e : (((rdNum 0 st).1.toNat : Nat) : Int) = (rdNum 0 st).1 := by omega
      rw [e]
      omega
  | .list e, st, h => by
    have h : ((listGo e.cod (rdNum 0 st).1.toNat [] (rdNum 0 st).2).2.bad || decide ((rdNum 0 st).1 < 0)) = false := h
    simp only [Bool.or_eq_false_iff, decide_eq_false_iff_not] at h
    obtain ⟨h1, h2⟩ := h
    obtain ⟨h3, l, h4, h5, h6⟩ := listGo_short e.cod e.short _ _ _ h1
    have h7 := num_short st h3
    refine ⟨?_, h7.2⟩
    show (num ((listGo e.cod (rdNum 0 st).1.toNat [] (rdNum 0 st).2).1.length : Int) ++ encs e.cod (listGo e.cod (rdNum 0 st).1.toNat [] (rdNum 0 st).2).1).length + (listGo e.cod (rdNum 0 st).1.toNat [] (rdNum 0 st).2).2.bs.length ≤ st.bs.length
    rw [h4, List.nil_append, List.length_append, h5]
    have e2 : (((rdNum 0 st).1.toNat : Nat) : Int) = (rdNum 0 st).1 := by omega
    rw [e2]
    omega
  | .pair a b, st, h => by
    have h1 := b.short (a.cod.dec st).2 h
    have h2 := a.short st h1.2
    refine ⟨?_, h2.2⟩
    show (a.cod.enc (a.cod.dec st).1 ++ b.cod.enc (b.cod.dec (a.cod.dec st).2).1).length + (b.cod.dec (a.cod.dec st).2).2.bs.length ≤ st.bs.length
    rw [List.length_append]
    omega
end Go.Proofs.Ytlcgkcmicklihaa.Wire
namespace Go.Proofs.Ytlcgkcmicklihaa.Wire
set_option linter.unusedVariables false
set_option linter.unusedSimpArgs false
open Go.RowKit Go.Proofs.YtlcgkcmicklihaaW.PrintWords Go.Proofs.YtlcgkcmicklihaaW.PrintLast Go.Proofs.YtlcgkcmicklihaaW.PrintMore
/-- The bytes of a text, in a row of their own. -/
theorem conv_get (w : World) (s : ByteArray) (hs : s.size ≤ 68719476736) : ∃ cp W2, (convert 9 131 (.string s)).run Try.prog w = .ok (.slice (some ⟨w.heap.size, 0, none⟩) s.size cp) W2 ∧ W2.heap.size = w.heap.size + 1 ∧ Below w.heap.size w W2 ∧ s.size ≤ cp ∧ cp ≤ 9223372036854775807 ∧
    ∀ j (hj : j < s.data.toList.length), W2.cell? ⟨w.heap.size, j, none⟩ = some (.int .u8 ((s.data.toList[j]).toNat : Int)) := by
  have hr := Lib.run_convert_string_bytes (P := Try.prog) w 9 131 5 s Try.underlying9 Try.underlying131 (by kernel_rfl)
  refine ⟨_, _, hr, Lib.bytesWorld_size w 5 s, ⟨rfl, rfl, rfl, by rw [Lib.bytesWorld_size]; omega, fun i hi => Lib.bytesWorld_at_old w 5 s i hi⟩, grownCap_ge _ _ _ _, ?_, fun j hj => ?_⟩
  · have := grownCap_le_maxLen w s.size 0 5 (by simp only [maxLen]; omega)
    simp only [maxLen] at this
    exact this
  · have hs2 : j < s.size := by simpa using hj
    rw [Lib.bytesWorld_cell w 5 s j hs2]
    simp [List.getD_eq_getElem?_getD, List.getElem?_eq_getElem hj]
/-- What get begins with. -/
theorem Pre.get {t : Ty} {T r cp : Nat} {s : ByteArray} {W2 : World} (hs : s.size ≤ 68719476736) (hr : r < W2.heap.size) (hcp : s.size ≤ cp) (hct : cp ≤ 9223372036854775807) (hc : ∀ j (hj : j < s.data.toList.length), W2.cell? ⟨r, j, none⟩ = some (.int .u8 ((s.data.toList[j]).toNat : Int))) :
    Pre W2.heap.size (W2.heap.size + 1) T [] [] t (.rd ⟨s.data.toList, false⟩) (some r) (fun _ => False) t.zero (((W2.alloc (.cells #[.slice (some ⟨r, 0, none⟩) s.size cp, .bool true, .bool false] 133)).alloc (.cells t.zcells.toArray T)).alloc (.cells t.zcells.toArray T)) := by
  have hlen : s.data.toList.length = s.size := by simp
  have hA := (Below.refl W2.heap.size W2).alloc (Nat.le_refl _) (.cells #[.slice (some ⟨r, 0, none⟩) s.size cp, .bool true, .bool false] 133)
  have hs1 : (W2.alloc (.cells #[.slice (some ⟨r, 0, none⟩) s.size cp, .bool true, .bool false] 133)).heap.size = W2.heap.size + 1 := by simp
  have e1 := blk_new W2 (.cells #[.slice (some ⟨r, 0, none⟩) s.size cp, .bool true, .bool false] 133)
  generalize hW3 : W2.alloc (.cells #[.slice (some ⟨r, 0, none⟩) s.size cp, .bool true, .bool false] 133) = W3 at *
  have hB : Below W3.heap.size W3 (W3.alloc (.cells t.zcells.toArray T)) := (Below.refl _ _).alloc (Nat.le_refl _) _
  have e2 : Blk (W3.alloc (.cells t.zcells.toArray T)) W3.heap.size T [] t.zcells [] := by
    unfold Blk
    simpa using blk_new W3 (.cells t.zcells.toArray T)
  have hs2 : (W3.alloc (.cells t.zcells.toArray T)).heap.size = W3.heap.size + 1 := by simp
  rw [hs1] at e2
  have hR : Rd W2.heap.size r 0 cp ⟨s.data.toList, false⟩ W3 := by
    refine ⟨?_, by omega, by omega, (by show s.data.toList.length ≤ cp; omega), hct, fun j hj => ?_⟩
    · rw [e1, hlen]
    · rw [Nat.zero_add]
      exact (hA.cell (p := ⟨r, j, none⟩) hr).trans (hc j hj)
  have hR2 := hR.next hB
  generalize hW4 : W3.alloc (.cells t.zcells.toArray T) = W4 at *
  have hC : Below W4.heap.size W4 (W4.alloc (.cells t.zcells.toArray T)) := (Below.refl _ _).alloc (Nat.le_refl _) _
  have hR3 := hR2.next hC
  have e3 := e2.fr (Fr.of_below hC (fun _ => False)) (fun h => h)
  have hf0 : (Sg.rd ⟨s.data.toList, false⟩).fit := by show s.data.toList.length ≤ 68719476736; omega
  exact ⟨⟨r, 0, cp, hR3, rfl⟩, ⟨_, Holds.zero t, e3⟩, fun k hk => hk.elim, by omega, (fun h => by injection h with h; omega), rfl, hf0, Nat.le_trans (t.cod.le _) hf0, e3⟩
/-- What put begins with: the struct in a block of its own, and a codec without bytes. -/
theorem Pre.put {t : Ty} {T : Nat} {x : t.T} {cs : List Value} {ok : Nat → Prop} {w : World} (hH : Holds w ok t x cs) (hok : t.cod.ok x) (hlen : (t.cod.enc x).length ≤ 68719476736) :
    Pre (w.heap.size + 1) w.heap.size T [] [] t (.wr []) none (fun k => ok k ∧ k < w.heap.size) x ((w.alloc (.cells cs.toArray T)).alloc (.cells #[.slice none 0 0, .bool false, .bool false] 133)) := by
  have hb1 : Below w.heap.size w (w.alloc (.cells cs.toArray T)) := (Below.refl _ _).alloc (Nat.le_refl _) _
  have hs1 : (w.alloc (.cells cs.toArray T)).heap.size = w.heap.size + 1 := by simp
  have hb2 : Below (w.alloc (.cells cs.toArray T)).heap.size (w.alloc (.cells cs.toArray T)) ((w.alloc (.cells cs.toArray T)).alloc (.cells #[.slice none 0 0, .bool false, .bool false] 133)) := (Below.refl _ _).alloc (Nat.le_refl _) _
  have hB : Blk (w.alloc (.cells cs.toArray T)) w.heap.size T [] cs [] := by
    unfold Blk
    simpa using blk_new w (.cells cs.toArray T)
  refine ⟨⟨.slice none 0 0, ⟨?_, World.ownsRow_nil _ _ _ _, by simp [Value.ownBlock]⟩, rfl⟩, ⟨cs, (hH.bound.below hb1).below hb2, hB.fr (Fr.of_below hb2 (fun _ => False)) (fun h => h)⟩, fun k hk => ⟨by omega, by omega, (fun h => by cases h)⟩, by omega, (fun h => by cases h), hok, Nat.zero_le _, ?_, trivial⟩
  · have := blk_new (w.alloc (.cells cs.toArray T)) (.cells #[.slice none 0 0, .bool false, .bool false] 133)
    rw [hs1] at this
    exact this
  · show ([] ++ t.cod.enc x).length ≤ 68719476736
    simpa using hlen
/-- What put ends with. -/
theorem Done.put {t : Ty} {T : Nat} {x : t.T} {cs : List Value} {ok : Nat → Prop} {c' : Option Nat} {w w' : World}
    (hd : Done (w.heap.size + 1) w.heap.size T [] [] t (.wr []) none ok x ((w.alloc (.cells cs.toArray T)).alloc (.cells #[.slice none 0 0, .bool false, .bool false] 133)) c' w') :
    Below w.heap.size w w' ∧ ∃ A n c, w'.cell? ⟨w.heap.size + 1, 0, none⟩ = some (.slice A n c) ∧ (convert 131 9 (.slice A n c)).run Try.prog w' = .ok (.string (mkb (t.cod.enc x))) w' := by
  have hb : Below w.heap.size w ((w.alloc (.cells cs.toArray T)).alloc (.cells #[.slice none 0 0, .bool false, .bool false] 133)) := ((Below.refl _ _).alloc (Nat.le_refl _) _).alloc (by simp) _
  have hbw := hd.fr.to_below (B := w.heap.size) (fun k hk => by
    rcases hk with (hk | hk) | hk
    · omega
    · cases hk
    · omega) hb.size
  obtain ⟨v, hW, _⟩ := hd.co.wr
  have c0 := hW.c0
  have hown := hW.own
  obtain ⟨A, c, rfl⟩ := own_is_slice hown
  refine ⟨hb.trans hbw, A, _, c, c0, ?_⟩
  have e : [] ++ t.cod.enc x = t.cod.enc x := rfl
  rw [e] at hown ⊢
  exact conv_own hown
/-- What get has read. -/
theorem Done.get {t : Ty} {T r : Nat} {s : ByteArray} {W2 w1 : World} {c' : Option Nat} {o1 o2 o3 : Obj} (hz : o3 = .cells t.zcells.toArray T)
    (hd : Done W2.heap.size (W2.heap.size + 1) T [] [] t (.rd ⟨s.data.toList, false⟩) (some r) (fun _ => False) t.zero (((W2.alloc o1).alloc o2).alloc o3) c' w1) (hr : r < W2.heap.size) :
    ∃ bs bad, (t.cod.dec ⟨s.data.toList, false⟩).2 = ⟨bs, bad⟩ ∧ Below r W2 w1 ∧ (∃ r' off cap, Rd W2.heap.size r' off cap ⟨bs, bad⟩ w1) ∧
      ∃ seg, Holds w1 (fun k => W2.heap.size ≤ k) t (t.cod.dec ⟨s.data.toList, false⟩).1 seg ∧ Blk w1 (W2.heap.size + 1) T [] seg [] ∧ w1.heap[W2.heap.size + 2]? = some (.cells t.zcells.toArray T (0, 0)) := by
  have hs1 : (W2.alloc o1).heap.size = W2.heap.size + 1 := by simp
  have hs2 : ((W2.alloc o1).alloc o2).heap.size = W2.heap.size + 2 := by simp
  have hs3 : (((W2.alloc o1).alloc o2).alloc o3).heap.size = W2.heap.size + 3 := by simp
  have hb : Below W2.heap.size W2 (((W2.alloc o1).alloc o2).alloc o3) := (((Below.refl _ _).alloc (Nat.le_refl _) _).alloc (by omega) _).alloc (by omega) _
  have e3 := blk_new ((W2.alloc o1).alloc o2) o3
  rw [hs2, hz] at e3
  obtain ⟨r', off, cap, hR, _⟩ := hd.co.rd
  obtain ⟨seg, h1, h2⟩ := hd.at_
  refine ⟨_, _, rfl, ?_, ⟨r', off, cap, hR⟩, seg, h1.mono (fun k hk => ?_), h2, ?_⟩
  · have h3 : Below r (((W2.alloc o1).alloc o2).alloc o3) w1 := hd.fr.to_below (fun k hk => by
      rcases hk with (hk | hk) | hk
      · omega
      · injection hk with hk; omega
      · omega) (by omega)
    exact (hb.mono (by omega)).trans h3
  · rcases hk.1 with h | h
    · exact h.elim
    · omega
  · refine (hd.fr.block (W2.heap.size + 2) (by omega) (fun hk => ?_)).trans (by subst hz; exact e3)
    rcases hk with (hk | hk) | hk
    · omega
    · injection hk with hk; omega
    · omega
/-- A whole struct, stored into a block that is known whole. -/
theorem wpList_store_whole {P : Program} {ops : Array Oper} {rest : List Oper} {o : Oper} {a : Act} {Q : Exit → Act → World → Prop} {w : World} {g : Nat} {c : Array Value} {t : TypeId} (hgd : o.guard = none) (p x : Operand) (ho : o.op = .store t p x) (c' : Array Value)
    (hp : a.eval p = .pointer (some ⟨g, 0, none⟩)) (hx : a.eval x = .agg c') (hi : (P.info? t).map (·.size) = some c'.size) (hsz : c.size = c'.size) (h1 : c'.all (·.oneCell') = true) (hg : w.heap[g]? = some (.cells c t (0, 0)))
    (h : ∀ w', w'.heap[g]? = some (.cells c' t (0, 0)) → Fr w w' (fun k => k = g) → wpList P ops Q rest (a.put o.dst undef) w') : wpList P ops Q (o :: rest) a w := by
  refine wpList_plain hgd fun K hK => ?_
  have hr : (Instr.storeAt t (.pointer (some ⟨g, 0, none⟩)) (.agg c')).run P w = .ok () (w.setRow g c') := by
    simp only [Instr.storeAt, Instr.sureAddr, Sem.run_bind, Sem.run_pure, Result.andThen]
    exact run_storeVar_row (P := P) w g t t c c' hg hi hsz h1
  unfold Oper.wp execOp
  simp only [ho, Sem.run_bind, Sem.run_pure, Result.andThen_ok, hp, hx, hr]
  exact hK _ _ (h _ (setRow_heap w g c c' t _ hg) ⟨rfl, rfl, rfl, by simp, fun i _ hn => setRow_other w g i _ hn⟩)
theorem gate_load {P : Program} {ops : Array Oper} {rest : List Oper} {o : Oper} {a : Act} {Q : Exit → Act → World → Prop} {w : World} {t : TypeId} {p : Operand} (_ho : o.op = .load t p) (h : wpList P ops Q (o :: rest) a w) : wpList P ops Q (o :: rest) a w := h
/-- A whole struct, out of a block that is known whole. -/
theorem wpList_load_whole {P : Program} {ops : Array Oper} {rest : List Oper} {o : Oper} {a : Act} {Q : Exit → Act → World → Prop} {w : World} {g : Nat} {c : Array Value} {t : TypeId} {fs : Array Field} (hgd : o.guard = none) (p : Operand) (ho : o.op = .load t p)
    (hp : a.eval p = .pointer (some ⟨g, 0, none⟩)) (hu : P.underlying t = some (.struct fs)) (hi : (P.info? t).map (·.size) = some c.size) (hg : w.heap[g]? = some (.cells c t (0, 0)))
    (h : wpList P ops Q rest (a.put o.dst (.agg c)) w) : wpList P ops Q (o :: rest) a w := by
  refine wpList_plain hgd fun K hK => ?_
  have hl := run_loadCells_list (P := P) w ⟨g, 0, none⟩ c.toList (fun j v hv => by
    rw [add_at, Nat.zero_add, blk_cell hg j]
    simpa using hv)
  have hr : (Instr.loadAt t (.pointer (some ⟨g, 0, none⟩))).run P w = .ok (.agg c) w := by
    cases hq : P.info? t with
    | none => simp [hq] at hi
    | some i =>
      have hs : i.size = c.size := by simpa [hq] using hi
      have hl' : (loadCells ⟨g, 0, none⟩ c.size).run P w = .ok c w := by simpa using hl
      simp [Instr.loadAt, Instr.sureAddr, loadVar, isAgg, run_underlying hu, sizeOf, typeInfo, hq, hs, hl', Result.andThen]
  unfold Oper.wp execOp
  simp only [ho, Sem.run_bind, Sem.run_pure, Result.andThen_ok, hp, hr]
  exact hK _ _ h
theorem all_one {cs : List Value} (h : ∀ u ∈ cs, u.oneCell' = true) : cs.toArray.all (·.oneCell') = true := by
  simp only [List.all_toArray, List.all_eq_true]
  exact h
/-- What get leaves. -/
def GetPost (t : Ty) (s : ByteArray) (w : World) (e : Ending) (w' : World) : Prop :=
  Below w.heap.size w w' ∧ ((∃ x cs, get t.cod s.data.toList = some x ∧ e = .returned (.tuple #[.agg cs.toArray, .int .i64 0]) ∧ Holds w' (fun k => w.heap.size ≤ k) t x cs) ∨
    (get t.cod s.data.toList = none ∧ e = .returned (.tuple #[.agg t.zcells.toArray, .int .i64 100])))
theorem get_none {α : Type} {c : Cod α} {s : List UInt8} (h : (c.dec ⟨s, false⟩).2.bad = true ∨ (c.dec ⟨s, false⟩).2.bs ≠ []) : get c s = none := by
  unfold get
  rw [if_pos (by rcases h with h | h; exact .inl h; exact .inr (.inl h))]
theorem get_same {α : Type} {c : Cod α} {s : List UInt8} (h : (c.dec ⟨s, false⟩).2 = ⟨[], false⟩) (he : c.enc (c.dec ⟨s, false⟩).1 = s) : get c s = some (c.dec ⟨s, false⟩).1 := by
  unfold get
  rw [if_neg (by rw [h]; simp [he])]
theorem get_other {α : Type} {c : Cod α} {s : List UInt8} (h : (c.dec ⟨s, false⟩).2 = ⟨[], false⟩) (he : ¬ c.enc (c.dec ⟨s, false⟩).1 = s) : get c s = none := by
  unfold get
  rw [if_pos (.inr (.inr he))]
theorem mkb_ne {l : List UInt8} {s : ByteArray} (h : ¬ l = s.data.toList) : ¬ mkb l = s := fun he => h (by rw [← he, mkb_data])
theorem str_ne {a b : ByteArray} (h : ¬ a = b) : (a.toList == b.toList) = false := by
  rw [Bool.eq_false_iff]
  intro he
  rw [beq_iff_eq, ByteArray.toList_eq, ByteArray.toList_eq] at he
  apply h
  cases a
  cases b
  simpa using he
theorem below_fr {w w1 w2 : World} (h : Below w.heap.size w w1) (f : Fr w1 w2 (fun k => k = w.heap.size)) : Below w.heap.size w w2 :=
  ((Fr.of_below h (fun k => k = w.heap.size)).trans f (fun i hi => .inl hi)).to_below (fun k hk => by omega) (Nat.le_refl _)
theorem keepP {W W' : World} {p0 : Addr} {v0 : Value} (q0 : W.cell? p0 = some v0) (h : Below W.heap.size W W') : W'.cell? p0 = some v0 := (h.cell (World.block_lt_of_cell? W _ q0)).trans q0
end Go.Proofs.Ytlcgkcmicklihaa.Wire
