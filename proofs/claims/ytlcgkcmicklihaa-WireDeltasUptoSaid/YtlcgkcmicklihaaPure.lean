/- The wire's bytes, with no program in sight: how each kind of field is written and read, and that what was written is read as it was. -/
import Derived.KernelRfl
namespace Go.Proofs.Ytlcgkcmicklihaa.Wire
set_option linter.unusedVariables false
/-! ### Numbers -/
/-- The bytes of a number below 2^64. -/
def leb (z : Nat) : List UInt8 := if h : z < 128 then [UInt8.ofNat z] else UInt8.ofNat (z % 128 + 128) :: leb (z / 128)
  termination_by z
  decreasing_by omega
def zz (n : Int) : Nat := if 0 ≤ n then (2 * n).toNat else (-2 * n - 1).toNat
def unzz (z : Nat) : Int := if z % 2 = 0 then (z / 2 : Nat) else -((z / 2 : Nat) : Int) - 1
theorem unzz_zz (n : Int) : unzz (zz n) = n := by
  unfold zz unzz
  split <;> split <;> omega
theorem zz_lt (n : Int) (h0 : -9223372036854775808 ≤ n) (h1 : n ≤ 9223372036854775807) : zz n < 18446744073709551616 := by
  unfold zz
  split <;> omega
theorem unzz_range (z : Nat) (h : z < 18446744073709551616) : -9223372036854775808 ≤ unzz z ∧ unzz z ≤ 9223372036854775807 := by
  unfold unzz
  split <;> omega
/-- What a codec reads from: its bytes, and whether it has met bad ones. -/
structure St where
  bs : List UInt8
  bad : Bool
/-- The rounds of a number's reading: r to come, at shift i, z so far. The number, if there is one. -/
def longGo : Nat → Nat → Nat → St → Option Nat × St
  | 0, _, _, st => (none, ⟨st.bs, true⟩)
  | r + 1, i, z, ⟨bs, bad⟩ =>
    if bad then (none, ⟨bs, true⟩) else
    match bs with
    | [] => (some z, ⟨[], true⟩)
    | x :: rest => if x.toNat < 128 then (some (z + (x.toNat % 128 * 2 ^ i) % 18446744073709551616), ⟨rest, false⟩) else longGo r (i + 7) (z + (x.toNat % 128 * 2 ^ i) % 18446744073709551616) ⟨rest, false⟩
theorem u8_toNat (n : Nat) (h : n < 256) : (UInt8.ofNat n).toNat = n := by
  simp [Nat.mod_eq_of_lt h]
theorem longGo_leb : ∀ (r i acc z : Nat) (rest : List UInt8), z * 2 ^ i < 18446744073709551616 → z < 2 ^ (7 * r) → 0 < r → longGo r i acc ⟨leb z ++ rest, false⟩ = (some (acc + z * 2 ^ i), ⟨rest, false⟩) := by
  intro r
  induction r with
  | zero => intro i acc z rest _ _ h; omega
  | succ r ih =>
    intro i acc z rest hb hz _
    unfold leb
    split
    · rename_i h
      have e : (UInt8.ofNat z).toNat = z := u8_toNat z (by omega)
      simp only [longGo, List.cons_append, List.nil_append, e, if_pos h, Bool.false_eq_true, if_false, Nat.mod_eq_of_lt h, Nat.mod_eq_of_lt hb]
    · rename_i h
      have e : (UInt8.ofNat (z % 128 + 128)).toNat = z % 128 + 128 := u8_toNat _ (by omega)
      have hr : 0 < r := by
        rcases Nat.eq_zero_or_pos r with h0 | h0
        · subst h0
          simp at hz
          omega
        · exact h0
      have hm : z % 128 * 2 ^ i ≤ z * 2 ^ i := Nat.mul_le_mul_right _ (Nat.mod_le _ _)
      have hm2 : (z % 128 + 128) % 128 = z % 128 := by omega
      have hp : 2 ^ (i + 7) = 128 * 2 ^ i := by rw [Nat.pow_add]; omega
      have hd : z / 128 * (128 * 2 ^ i) + z % 128 * 2 ^ i = z * 2 ^ i := by
        rw [← Nat.mul_assoc, ← Nat.add_mul]
        congr 1
        omega
      have h1 : z / 128 * 2 ^ (i + 7) < 18446744073709551616 := by rw [hp]; omega
      have h2 : z / 128 < 2 ^ (7 * r) := by
        have : 2 ^ (7 * (r + 1)) = 2 ^ (7 * r) * 128 := by rw [Nat.mul_add, Nat.pow_add]
        rw [this] at hz
        omega
      have := ih (i + 7) (acc + z % 128 * 2 ^ i) (z / 128) rest h1 h2 hr
      simp only [longGo, List.cons_append, e, if_neg (by omega : ¬ z % 128 + 128 < 128), Bool.false_eq_true, if_false, hm2, Nat.mod_eq_of_lt (Nat.lt_of_le_of_lt hm hb)]
      rw [this, hp]
      congr 2
      omega
theorem leb_pos (z : Nat) : 0 < (leb z).length := by
  unfold leb
  split <;> simp
theorem leb_len : ∀ (k z : Nat), z < 2 ^ (7 * (k + 1)) → (leb z).length ≤ k + 1 := by
  intro k
  induction k with
  | zero => intro z h; unfold leb; rw [dif_pos (by simpa using h)]; simp
  | succ k ih =>
    intro z h
    unfold leb
    split
    · simp
    · have h2 : z / 128 < 2 ^ (7 * (k + 1)) := by
        have : 2 ^ (7 * (k + 1 + 1)) = 2 ^ (7 * (k + 1)) * 128 := by rw [Nat.mul_add (7) (k + 1) 1, Nat.pow_add]
        rw [this] at h
        omega
      have := ih (z / 128) h2
      simp only [List.length_cons]
      omega
/-- Reading never makes bytes. -/
theorem longGo_le : ∀ (r i z : Nat) (st : St), (longGo r i z st).2.bs.length ≤ st.bs.length := by
  intro r
  induction r with
  | zero => intro i z st; exact Nat.le_refl _
  | succ r ih =>
    intro i z ⟨bs, bad⟩
    unfold longGo
    split
    · exact Nat.le_refl _
    · split
      · exact Nat.le_refl _
      · split
        · simp
        · exact Nat.le_trans (ih _ _ _) (by simp)
theorem longGo_lt (r i z : Nat) (bs : List UInt8) (h : bs ≠ []) : (longGo (r + 1) i z ⟨bs, false⟩).2.bs.length < bs.length := by
  cases bs with
  | nil => exact absurd rfl h
  | cons x rest =>
    simp only [longGo, Bool.false_eq_true, if_false]
    split
    · simp
    · have := longGo_le r (i + 7) (z + (x.toNat % 128 * 2 ^ i) % 18446744073709551616) ⟨rest, false⟩
      simp only [List.length_cons]
      exact Nat.lt_succ_of_le this
/-- A number, into a place that holds n0. -/
def rdNum (n0 : Int) (st : St) : Int × St :=
  match longGo 10 0 0 st with
  | (some z, st') => (unzz (z % 18446744073709551616), st')
  | (none, st') => (n0, st')
def num (n : Int) : List UInt8 := leb (zz n)
def Fits (n : Int) : Prop := -9223372036854775808 ≤ n ∧ n ≤ 9223372036854775807
theorem rdNum_num (n0 n : Int) (h : Fits n) (rest : List UInt8) : rdNum n0 ⟨num n ++ rest, false⟩ = (n, ⟨rest, false⟩) := by
  have hz := zz_lt n h.1 h.2
  unfold rdNum num
  rw [longGo_leb 10 0 0 (zz n) rest (by simpa using hz) (by omega) (by omega)]
  simp only [Nat.zero_add, Nat.pow_zero, Nat.mul_one, Nat.mod_eq_of_lt hz, unzz_zz]
theorem num_pos (n : Int) : 0 < (num n).length := leb_pos _
theorem num_len (n : Int) (h : Fits n) : (num n).length ≤ 10 := leb_len 9 _ (by have := zz_lt n h.1 h.2; omega)
theorem rdNum_fits (n0 : Int) (h : Fits n0) (st : St) : Fits (rdNum n0 st).1 := by
  unfold rdNum
  split
  · exact unzz_range _ (Nat.mod_lt _ (by decide))
  · exact h
theorem rdNum_le (n0 : Int) (st : St) : (rdNum n0 st).2.bs.length ≤ st.bs.length := by
  have := longGo_le 10 0 0 st
  unfold rdNum
  split <;> (rename_i e; rw [e] at this; exact this)
theorem rdNum_lt (n0 : Int) (bs : List UInt8) (h : bs ≠ []) : (rdNum n0 ⟨bs, false⟩).2.bs.length < bs.length := by
  have := longGo_lt 9 0 0 bs h
  unfold rdNum
  split <;> (rename_i e; rw [e] at this; exact this)

/-! ### Codecs -/
/-- The most bytes that a codec is ever given. -/
abbrev top : Nat := 9223372036854775807
/-- A kind of field: its bytes, and its reading into a place that holds the kind's zero. -/
structure Cod (α : Type) where
  enc : α → List UInt8
  dec : St → α × St
  ok : α → Prop
  pos : ∀ x, 0 < (enc x).length
  rt : ∀ x r, ok x → dec ⟨enc x ++ r, false⟩ = (x, ⟨r, false⟩)
  le : ∀ st, (dec st).2.bs.length ≤ st.bs.length
  lt : ∀ bs, bs ≠ [] → (dec ⟨bs, false⟩).2.bs.length < bs.length
  sound : ∀ st, st.bs.length ≤ top → ok (dec st).1
theorem fits0 : Fits 0 := ⟨by decide, by decide⟩
def cNum : Cod Int where
  enc := num
  dec := rdNum 0
  ok := Fits
  pos := num_pos
  rt := fun n r h => rdNum_num 0 n h r
  le := rdNum_le 0
  lt := rdNum_lt 0
  sound := fun st _ => rdNum_fits 0 fits0 st
/-- A yes or no. -/
def cFlag : Cod Bool where
  enc b := num (if b then 1 else 0)
  dec st := ((rdNum 0 st).1 == 1, ⟨(rdNum 0 st).2.bs, (rdNum 0 st).2.bad || decide ((rdNum 0 st).1 < 0) || decide (1 < (rdNum 0 st).1)⟩)
  ok _ := True
  pos := fun _ => num_pos _
  rt := fun b r _ => by
    cases b
    · simp only [Bool.false_eq_true, if_false]
      rw [rdNum_num 0 0 ⟨by decide, by decide⟩ r]
      rfl
    · simp only [if_true]
      rw [rdNum_num 0 1 ⟨by decide, by decide⟩ r]
      rfl
  le := rdNum_le 0
  lt := rdNum_lt 0
  sound := fun _ _ => trivial
/-- The reading of a text. -/
def rdText (st : St) : List UInt8 × St :=
  if (rdNum 0 st).2.bad = true ∨ (rdNum 0 st).1 < 0 ∨ ((rdNum 0 st).2.bs.length : Int) < (rdNum 0 st).1 then ([], ⟨(rdNum 0 st).2.bs, true⟩)
  else ((rdNum 0 st).2.bs.take (rdNum 0 st).1.toNat, ⟨(rdNum 0 st).2.bs.drop (rdNum 0 st).1.toNat, false⟩)
theorem rdText_le (st : St) : (rdText st).2.bs.length ≤ (rdNum 0 st).2.bs.length := by
  unfold rdText
  split
  · exact Nat.le_refl _
  · simp only [List.length_drop]
    omega
/-- A text. -/
def cText : Cod (List UInt8) where
  enc s := num s.length ++ s
  dec := rdText
  ok s := s.length ≤ top
  pos := fun s => by rw [List.length_append]; have := num_pos s.length; omega
  rt := fun s r h => by
    unfold rdText
    rw [List.append_assoc, rdNum_num 0 s.length ⟨by omega, by have h' : s.length ≤ 9223372036854775807 := h; omega⟩ (s ++ r)]
    simp only [Bool.false_eq_true, false_or]
    rw [if_neg (by rw [List.length_append]; omega)]
    simp
  le := fun st => Nat.le_trans (rdText_le st) (rdNum_le 0 st)
  lt := fun bs h => Nat.lt_of_le_of_lt (rdText_le _) (rdNum_lt 0 bs h)
  sound := fun st h => by
    have := rdNum_le 0 st
    unfold rdText
    split
    · simp
    · simp only [List.length_take]
      omega
def cPair {α β : Type} (a : Cod α) (b : Cod β) : Cod (α × β) where
  enc x := a.enc x.1 ++ b.enc x.2
  dec st := (((a.dec st).1, (b.dec (a.dec st).2).1), (b.dec (a.dec st).2).2)
  ok x := a.ok x.1 ∧ b.ok x.2
  pos := fun x => by rw [List.length_append]; have := a.pos x.1; omega
  rt := fun x r h => by
    rw [List.append_assoc]
    simp only [a.rt _ _ h.1, b.rt _ _ h.2]
  le := fun st => Nat.le_trans (b.le _) (a.le _)
  lt := fun bs h => Nat.lt_of_le_of_lt (b.le _) (a.lt bs h)
  sound := fun st h => ⟨a.sound st h, b.sound _ (Nat.le_trans (a.le st) h)⟩
def cIso {α β : Type} (a : Cod α) (f : β → α) (g : α → β) (h : ∀ x, g (f x) = x) (h2 : ∀ y, f (g y) = y) : Cod β where
  enc x := a.enc (f x)
  dec st := (g (a.dec st).1, (a.dec st).2)
  ok x := a.ok (f x)
  pos := fun x => a.pos _
  rt := fun x r hx => by simp only [a.rt _ _ hx, h]
  le := fun st => a.le st
  lt := fun bs h => a.lt bs h
  sound := fun st hs => by simp only [h2]; exact a.sound st hs
/-- The rounds of a list's reading. -/
def listGo {α : Type} (c : Cod α) : Nat → List α → St → List α × St
  | 0, acc, st => (acc, st)
  | n + 1, acc, st => if st.bad = true ∨ st.bs = [] then (acc, ⟨st.bs, true⟩) else listGo c n (acc ++ [(c.dec st).1]) (c.dec st).2
theorem listGo_le {α : Type} (c : Cod α) : ∀ (n : Nat) (acc : List α) (st : St), (listGo c n acc st).2.bs.length ≤ st.bs.length := by
  intro n
  induction n with
  | zero => intro acc st; exact Nat.le_refl _
  | succ n ih =>
    intro acc st
    unfold listGo
    split
    · exact Nat.le_refl _
    · exact Nat.le_trans (ih _ _) (c.le _)
/-- No list has more elements than its bytes. -/
theorem listGo_sound {α : Type} (c : Cod α) : ∀ (n : Nat) (acc : List α) (st : St), st.bs.length ≤ top → (∀ x ∈ acc, c.ok x) → (listGo c n acc st).1.length ≤ acc.length + st.bs.length ∧ ∀ x ∈ (listGo c n acc st).1, c.ok x := by
  intro n
  induction n with
  | zero => intro acc st _ ha; exact ⟨Nat.le_add_right _ _, ha⟩
  | succ n ih =>
    intro acc ⟨bs, bad⟩ ht ha
    unfold listGo
    split
    · exact ⟨Nat.le_add_right _ _, ha⟩
    · rename_i h
      simp only [not_or, Bool.not_eq_true] at h
      obtain ⟨rfl, h⟩ := h
      have h1 := c.lt bs h
      have h2 := ih (acc ++ [(c.dec ⟨bs, false⟩).1]) (c.dec ⟨bs, false⟩).2 (by simp only [] at ht; omega) (fun x hx => by
        rcases List.mem_append.1 hx with hx | hx
        · exact ha x hx
        · obtain rfl := List.mem_singleton.1 hx
          exact c.sound _ ht)
      refine ⟨?_, h2.2⟩
      have h3 := h2.1
      rw [List.length_append, List.length_singleton] at h3
      simp only []
      omega
def encs {α : Type} (c : Cod α) (l : List α) : List UInt8 := l.flatMap c.enc
theorem listGo_encs {α : Type} (c : Cod α) : ∀ (l acc : List α) (r : List UInt8), (∀ x ∈ l, c.ok x) → listGo c l.length acc ⟨encs c l ++ r, false⟩ = (acc ++ l, ⟨r, false⟩) := by
  intro l
  induction l with
  | nil => intro acc r _; simp [listGo, encs]
  | cons x l ih =>
    intro acc r h
    have hx := c.pos x
    have e : encs c (x :: l) ++ r = c.enc x ++ (encs c l ++ r) := by simp [encs]
    have hne : c.enc x ++ (encs c l ++ r) ≠ [] := fun h0 => by
      have := congrArg List.length h0
      simp only [List.length_append, List.length_nil] at this
      omega
    rw [e]
    simp only [List.length_cons, listGo, Bool.false_eq_true, false_or]
    rw [if_neg hne, c.rt x _ (h x List.mem_cons_self)]
    simp only []
    rw [ih (acc ++ [x]) r (fun y hy => h y (List.mem_cons_of_mem _ hy))]
    simp
def cList {α : Type} (c : Cod α) : Cod (List α) where
  enc l := num l.length ++ encs c l
  dec st := ((listGo c (rdNum 0 st).1.toNat [] (rdNum 0 st).2).1, ⟨(listGo c (rdNum 0 st).1.toNat [] (rdNum 0 st).2).2.bs, (listGo c (rdNum 0 st).1.toNat [] (rdNum 0 st).2).2.bad || decide ((rdNum 0 st).1 < 0)⟩)
  ok l := l.length ≤ top ∧ ∀ x ∈ l, c.ok x
  pos := fun l => by rw [List.length_append]; have := num_pos l.length; omega
  rt := fun l r h => by
    rw [List.append_assoc, rdNum_num 0 l.length ⟨by omega, by have h' : l.length ≤ 9223372036854775807 := h.1; omega⟩]
    simp only [Int.toNat_natCast]
    rw [listGo_encs c l [] r h.2]
    have : decide ((l.length : Int) < 0) = false := decide_eq_false (by omega)
    simp [this]
  le := fun st => Nat.le_trans (listGo_le c _ _ _) (rdNum_le 0 st)
  lt := fun bs h => Nat.lt_of_le_of_lt (listGo_le c _ _ _) (rdNum_lt 0 bs h)
  sound := fun st h => by
    have h1 := rdNum_le 0 st
    have h2 := listGo_sound c (rdNum 0 st).1.toNat [] (rdNum 0 st).2 (by omega) (fun x hx => by cases hx)
    refine ⟨?_, h2.2⟩
    have h3 := h2.1
    simp only [List.length_nil, Nat.zero_add] at h3
    simp only []
    omega
/-- What is read whole, and only that. -/
def get {α : Type} (c : Cod α) (s : List UInt8) : Option α := if (c.dec ⟨s, false⟩).2.bad = true ∨ (c.dec ⟨s, false⟩).2.bs ≠ [] ∨ c.enc (c.dec ⟨s, false⟩).1 ≠ s then none else some (c.dec ⟨s, false⟩).1
theorem get_enc {α : Type} (c : Cod α) (x : α) (h : c.ok x) : get c (c.enc x) = some x := by
  have := c.rt x [] h
  rw [List.append_nil] at this
  unfold get
  rw [this]
  simp
theorem get_some {α : Type} (c : Cod α) (s : List UInt8) (x : α) (h : get c s = some x) : c.enc x = s := by
  unfold get at h
  split at h
  · cases h
  · rename_i hc
    injection h with h
    subst h
    simp only [not_or, Classical.not_not] at hc
    exact hc.2.2
/-- Bytes behind are no part of it. -/
theorem get_more {α : Type} (c : Cod α) (x : α) (h : c.ok x) (r : List UInt8) : (get c (c.enc x ++ r)).isSome = decide (r = []) := by
  cases r with
  | nil => rw [List.append_nil, get_enc c x h]; rfl
  | cons b r =>
    have := c.rt x (b :: r) h
    unfold get
    rw [this]
    simp
/-- Cut off anywhere it is none, if what is read is sound. -/
theorem get_cut {α : Type} (c : Cod α) (x : α) (h : c.ok x) (n : Nat) (hn : n < (c.enc x).length) (ht : (c.enc x).length ≤ top) : get c ((c.enc x).take n) = none := by
  cases hg : get c ((c.enc x).take n) with
  | none => rfl
  | some y =>
    have hy := get_some c _ y hg
    have hy2 : y = (c.dec ⟨(c.enc x).take n, false⟩).1 := by
      unfold get at hg
      split at hg
      · cases hg
      · injection hg with hg; exact hg.symm
    have hok : c.ok y := by rw [hy2]; exact c.sound _ (by simp only [List.length_take]; omega)
    have h1 := c.rt y ((c.enc x).drop n) hok
    rw [hy, List.take_append_drop] at h1
    have h2 := c.rt x [] h
    rw [List.append_nil, h1] at h2
    injection h2 with _ h2
    injection h2 with h2 _
    have := congrArg List.length h2
    simp only [List.length_drop, List.length_nil] at this
    omega
end Go.Proofs.Ytlcgkcmicklihaa.Wire
