/- What is read has no more bytes than were read. -/
import Derived.Test.YtlcgkcmicklihaaTy
namespace Go.Proofs.Ytlcgkcmicklihaa.Wire
set_option linter.unusedVariables false
theorem longGo_short : ∀ (r i z : Nat) (st : St) (v : Nat) (st' : St), longGo r i z st = (some v, st') → st'.bad = false → z < 2 ^ i → st.bad = false ∧ ∃ k, 1 ≤ k ∧ v < 2 ^ (i + 7 * k) ∧ st'.bs.length + k = st.bs.length := by
  intro r
  induction r with
  | zero => intro i z st v st' h; simp [longGo] at h
  | succ r ih =>
    intro i z ⟨bs, bad⟩ v st' h hb hz
    cases bad with
    | true => simp [longGo] at h
    | false =>
      cases bs with
      | nil =>
        simp only [longGo, Bool.false_eq_true, if_false, Prod.mk.injEq] at h
        rw [← h.2] at hb
        cases hb
      | cons x rest =>
        simp only [longGo, Bool.false_eq_true, if_false] at h
        split at h
        · simp only [Prod.mk.injEq, Option.some.injEq] at h
          obtain ⟨h1, h2⟩ := h
          subst h1 h2
          exact ⟨rfl, 1, Nat.le_refl _, round_lt2 z x.toNat i hz, by simp⟩
        · obtain ⟨_, k, h1, h2, h3⟩ := ih _ _ _ v st' h hb (round_lt2 z x.toNat i hz)
          refine ⟨rfl, k + 1, by omega, ?_, ?_⟩
          · rw [show i + 7 * (k + 1) = i + 7 + 7 * k by omega]
            exact h2
          · simp only [List.length_cons]
            simp only [] at h3
            omega
theorem longGo_none : ∀ (r i z : Nat) (st st' : St), longGo r i z st = (none, st') → st'.bad = true := by
  intro r
  induction r with
  | zero => intro i z st st' h; simp [longGo] at h; rw [← h]
  | succ r ih =>
    intro i z ⟨bs, bad⟩ st' h
    cases bad with
    | true => simp [longGo] at h; rw [← h]
    | false =>
      cases bs with
      | nil => simp [longGo] at h
      | cons x rest =>
        simp only [longGo, Bool.false_eq_true, if_false] at h
        split at h
        · simp at h
        · exact ih _ _ _ _ h
theorem zz_unzz (z : Nat) : zz (unzz z) = z := by
  unfold zz unzz
  split <;> split <;> omega
theorem num_short (st : St) (h : (rdNum 0 st).2.bad = false) : (num (rdNum 0 st).1).length + (rdNum 0 st).2.bs.length ≤ st.bs.length ∧ st.bad = false := by
  unfold rdNum at h ⊢
  split at h
  · rename_i v st' he
    simp only [] at h ⊢
    obtain ⟨h0, k, h1, h2, h3⟩ := longGo_short 10 0 0 st v st' he h (by decide)
    refine ⟨?_, h0⟩
    have hv : v % 18446744073709551616 < 2 ^ (7 * ((k - 1) + 1)) := by
      rw [show 7 * ((k - 1) + 1) = 0 + 7 * k by omega]
      exact Nat.lt_of_le_of_lt (Nat.mod_le _ _) h2
    have := leb_len (k - 1) _ hv
    unfold num
    rw [zz_unzz]
    omega
  · rename_i st' he
    have := longGo_none _ _ _ _ _ he
    simp only [] at h
    rw [this] at h
    cases h
theorem listGo_short {α : Type} (c : Cod α) (hc : ∀ st, (c.dec st).2.bad = false → (c.enc (c.dec st).1).length + (c.dec st).2.bs.length ≤ st.bs.length ∧ st.bad = false) :
    ∀ (n : Nat) (acc : List α) (st : St), (listGo c n acc st).2.bad = false → st.bad = false ∧ ∃ l : List α, (listGo c n acc st).1 = acc ++ l ∧ l.length = n ∧ (encs c l).length + (listGo c n acc st).2.bs.length ≤ st.bs.length := by
  intro n
  induction n with
  | zero => intro acc st h; exact ⟨h, [], by simp [listGo], rfl, by simp [listGo, encs]⟩
  | succ n ih =>
    intro acc st h
    unfold listGo at h ⊢
    split at h
    · cases h
    · rename_i hn
      rw [if_neg hn]
      obtain ⟨h1, l, h2, h3, h4⟩ := ih _ _ h
      obtain ⟨h5, h6⟩ := hc st h1
      refine ⟨h6, (c.dec st).1 :: l, by rw [h2]; simp, by simp [h3], ?_⟩
      have : encs c ((c.dec st).1 :: l) = c.enc (c.dec st).1 ++ encs c l := by simp [encs]
      rw [this, List.length_append]
      omega
theorem Ty.short : ∀ (t : Ty) (st : St), (t.cod.dec st).2.bad = false → (t.cod.enc (t.cod.dec st).1).length + (t.cod.dec st).2.bs.length ≤ st.bs.length ∧ st.bad = false
  | .int, st, h => num_short st h
  | .bool, st, h => by
    have h : ((rdNum 0 st).2.bad || decide ((rdNum 0 st).1 < 0) || decide (1 < (rdNum 0 st).1)) = false := h
    simp only [Bool.or_eq_false_iff, decide_eq_false_iff_not] at h
    obtain ⟨⟨h1, h2⟩, h3⟩ := h
    have h4 := num_short st h1
    refine ⟨?_, h4.2⟩
    show (num (if ((rdNum 0 st).1 == 1) = true then 1 else 0)).length + (rdNum 0 st).2.bs.length ≤ st.bs.length
    have e : (if ((rdNum 0 st).1 == 1) = true then (1 : Int) else 0) = (rdNum 0 st).1 := by
      simp only [beq_iff_eq]
      split <;> omega
    rw [e]
    exact h4.1
  | .str, st, h => by
    have h : (rdText st).2.bad = false := h
    show (num (((⟨(rdText st).1.toArray⟩ : ByteArray).data.toList).length : Int) ++ (⟨(rdText st).1.toArray⟩ : ByteArray).data.toList).length + (rdText st).2.bs.length ≤ st.bs.length ∧ st.bad = false
    unfold rdText at h ⊢
    split at h
    · cases h
    · rename_i hc
      rw [if_neg hc]
      simp only [not_or, Bool.not_eq_true] at hc
      obtain ⟨h1, h2, h3⟩ := hc
      have h4 := num_short st h1
      refine ⟨?_, h4.2⟩
      simp only [List.length_append, List.length_take, List.length_drop]
      have hm : min (rdNum 0 st).1.toNat (rdNum 0 st).2.bs.length = (rdNum 0 st).1.toNat := by omega
      rw [hm]
      have e : (((rdNum 0 st).1.toNat : Nat) : Int) = (rdNum 0 st).1 := by omega
      rw [e]
      omega
  | .list e, st, h => by
    have h : ((listGo e.cod (rdNum 0 st).1.toNat [] (rdNum 0 st).2).2.bad || decide ((rdNum 0 st).1 < 0)) = false := h
    simp only [Bool.or_eq_false_iff, decide_eq_false_iff_not] at h
    obtain ⟨h1, h2⟩ := h
    obtain ⟨h3, l, h4, h5, h6⟩ := listGo_short e.cod e.short _ _ _ h1
    have h7 := num_short st h3
    refine ⟨?_, h7.2⟩
    show (num ((listGo e.cod (rdNum 0 st).1.toNat [] (rdNum 0 st).2).1.length : Int) ++ encs e.cod (listGo e.cod (rdNum 0 st).1.toNat [] (rdNum 0 st).2).1).length + (listGo e.cod (rdNum 0 st).1.toNat [] (rdNum 0 st).2).2.bs.length ≤ st.bs.length
    rw [h4, List.nil_append, List.length_append, h5]
    have e2 : (((rdNum 0 st).1.toNat : Nat) : Int) = (rdNum 0 st).1 := by omega
    rw [e2]
    omega
  | .pair a b, st, h => by
    have h1 := b.short (a.cod.dec st).2 h
    have h2 := a.short st h1.2
    refine ⟨?_, h2.2⟩
    show (a.cod.enc (a.cod.dec st).1 ++ b.cod.enc (b.cod.dec (a.cod.dec st).2).1).length + (b.cod.dec (a.cod.dec st).2).2.bs.length ≤ st.bs.length
    rw [List.length_append]
    omega
end Go.Proofs.Ytlcgkcmicklihaa.Wire
