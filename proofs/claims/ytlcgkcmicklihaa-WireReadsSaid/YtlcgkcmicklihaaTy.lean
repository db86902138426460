/- The kinds of what the wire bears, how they lie in memory, and what a codec's method does to one of them: read or written. -/
import Derived.Test.YtlcgkcmicklihaaLongW
namespace Go.Proofs.Ytlcgkcmicklihaa.Wire
set_option linter.unusedVariables false
set_option linter.unusedSimpArgs false
open Go.RowKit Go.Proofs.YtlcgkcmicklihaaW.PrintWords Go.Proofs.YtlcgkcmicklihaaW.PrintLast Go.Proofs.YtlcgkcmicklihaaW.PrintMore
/-! ### Kinds -/
inductive Ty where
  | int
  | bool
  | str
  | list (e : Ty)
  | pair (a b : Ty)
@[reducible] def Ty.T : Ty → Type
  | .int => Int
  | .bool => Bool
  | .str => ByteArray
  | .list e => List e.T
  | .pair a b => a.T × b.T
def Ty.sz : Ty → Nat
  | .int => 1
  | .bool => 1
  | .str => 1
  | .list _ => 1
  | .pair a b => a.sz + b.sz
def Ty.zero : (t : Ty) → t.T
  | .int => (0 : Int)
  | .bool => false
  | .str => (⟨#[]⟩ : ByteArray)
  | .list _ => []
  | .pair a b => (a.zero, b.zero)
def cStr : Cod ByteArray := cIso cText (fun s => s.data.toList) (fun l => ⟨l.toArray⟩) (fun x => by cases x; simp) (fun y => by simp)
def Ty.cod : (t : Ty) → Cod t.T
  | .int => cNum
  | .bool => cFlag
  | .str => cStr
  | .list e => cList e.cod
  | .pair a b => cPair a.cod b.cod
theorem Ty.sz_pos : ∀ t : Ty, 0 < t.sz
  | .int => Nat.one_pos
  | .bool => Nat.one_pos
  | .str => Nat.one_pos
  | .list _ => Nat.one_pos
  | .pair a b => by have := a.sz_pos; unfold Ty.sz; omega
/-- The cells of a zero. -/
def Ty.zcells : Ty → List Value
  | .int => [.int .i64 0]
  | .bool => [.bool false]
  | .str => [.string ⟨#[]⟩]
  | .list _ => [.slice none 0 0]
  | .pair a b => a.zcells ++ b.zcells
/-- The cells of a value; what they lead to lies in the blocks of ok. -/
def Holds (w : World) (ok : Nat → Prop) : (t : Ty) → t.T → List Value → Prop
  | .int, n, cs => cs = [.int .i64 n]
  | .bool, b, cs => cs = [.bool b]
  | .str, s, cs => cs = [.string s]
  | .list e, l, cs => ∃ A cap, cs = [.slice A l.length cap] ∧ l.length ≤ cap ∧ ∀ i x, l[i]? = some x → ∃ ab ao c, A = some ⟨ab, ao, none⟩ ∧ ok ab ∧ Holds w ok e x c ∧ ∀ j u, c[j]? = some u → w.cell? ⟨ab, ao + (i * e.sz + j), none⟩ = some u
  | .pair a b, x, cs => ∃ c1 c2, cs = c1 ++ c2 ∧ Holds w ok a x.1 c1 ∧ Holds w ok b x.2 c2
section
variable {w w' : World} {ok ok' : Nat → Prop}
theorem Holds.len : ∀ {t : Ty} {x : t.T} {cs : List Value}, Holds w ok t x cs → cs.length = t.sz := by
  intro t
  induction t with
  | int => intro x cs h; unfold Holds at h; subst h; rfl
  | bool => intro x cs h; unfold Holds at h; subst h; rfl
  | str => intro x cs h; unfold Holds at h; subst h; rfl
  | list e ih => intro x cs h; unfold Holds at h; obtain ⟨A, cap, rfl, _⟩ := h; rfl
  | pair a b iha ihb =>
    intro x cs h
    unfold Holds at h
    obtain ⟨c1, c2, rfl, h1, h2⟩ := h
    rw [List.length_append, iha h1, ihb h2]
    rfl
theorem Holds.one : ∀ {t : Ty} {x : t.T} {cs : List Value}, Holds w ok t x cs → ∀ u ∈ cs, u.oneCell' = true := by
  intro t
  induction t with
  | int => intro x cs h; unfold Holds at h; subst h; simp [Value.oneCell']
  | bool => intro x cs h; unfold Holds at h; subst h; simp [Value.oneCell']
  | str => intro x cs h; unfold Holds at h; subst h; simp [Value.oneCell']
  | list e ih => intro x cs h; unfold Holds at h; obtain ⟨A, cap, rfl, _⟩ := h; simp [Value.oneCell']
  | pair a b iha ihb =>
    intro x cs h
    unfold Holds at h
    obtain ⟨c1, c2, rfl, h1, h2⟩ := h
    intro u hu
    rcases List.mem_append.1 hu with hu | hu
    · exact iha h1 u hu
    · exact ihb h2 u hu
theorem Holds.mono (hok : ∀ k, ok k → ok' k) : ∀ {t : Ty} {x : t.T} {cs : List Value}, Holds w ok t x cs → Holds w ok' t x cs := by
  intro t
  induction t with
  | int => intro x cs h; exact h
  | bool => intro x cs h; exact h
  | str => intro x cs h; exact h
  | list e ih =>
    intro x cs h
    unfold Holds at h ⊢
    obtain ⟨A, cap, hcs, hl, hi⟩ := h
    refine ⟨A, cap, hcs, hl, fun i y hy => ?_⟩
    obtain ⟨ab, ao, c, ha, hk, hh, hc⟩ := hi i y hy
    exact ⟨ab, ao, c, ha, hok _ hk, ih hh, hc⟩
  | pair a b iha ihb =>
    intro x cs h
    unfold Holds at h ⊢
    obtain ⟨c1, c2, hcs, h1, h2⟩ := h
    exact ⟨c1, c2, hcs, iha h1, ihb h2⟩
/-- What it leads to is there. -/
theorem Holds.bound : ∀ {t : Ty} {x : t.T} {cs : List Value}, Holds w ok t x cs → Holds w (fun k => ok k ∧ k < w.heap.size) t x cs := by
  intro t
  induction t with
  | int => intro x cs h; exact h
  | bool => intro x cs h; exact h
  | str => intro x cs h; exact h
  | list e ih =>
    intro x cs h
    unfold Holds at h ⊢
    obtain ⟨A, cap, hcs, hl, hi⟩ := h
    refine ⟨A, cap, hcs, hl, fun i y hy => ?_⟩
    obtain ⟨ab, ao, c, ha, hk, hh, hc⟩ := hi i y hy
    have hp := e.sz_pos
    have hcl := hh.len
    have h0 : c[0]? = some (c[0]'(by omega)) := List.getElem?_eq_getElem (by omega)
    have hb := World.block_lt_of_cell? w _ (hc 0 _ h0)
    exact ⟨ab, ao, c, ha, ⟨hk, hb⟩, ih hh, hc⟩
  | pair a b iha ihb =>
    intro x cs h
    unfold Holds at h ⊢
    obtain ⟨c1, c2, hcs, h1, h2⟩ := h
    exact ⟨c1, c2, hcs, iha h1, ihb h2⟩
theorem Holds.move (hm : ∀ k, ok k → w'.heap[k]? = w.heap[k]?) : ∀ {t : Ty} {x : t.T} {cs : List Value}, Holds w ok t x cs → Holds w' ok t x cs := by
  intro t
  induction t with
  | int => intro x cs h; exact h
  | bool => intro x cs h; exact h
  | str => intro x cs h; exact h
  | list e ih =>
    intro x cs h
    unfold Holds at h ⊢
    obtain ⟨A, cap, hcs, hl, hi⟩ := h
    refine ⟨A, cap, hcs, hl, fun i y hy => ?_⟩
    obtain ⟨ab, ao, c, ha, hk, hh, hc⟩ := hi i y hy
    exact ⟨ab, ao, c, ha, hk, ih hh, fun j u hu => (cell_of_blk (w := w) (w' := w') (a := ⟨ab, ao + (i * e.sz + j), none⟩) (hm _ hk)).trans (hc j u hu)⟩
  | pair a b iha ihb =>
    intro x cs h
    unfold Holds at h ⊢
    obtain ⟨c1, c2, hcs, h1, h2⟩ := h
    exact ⟨c1, c2, hcs, iha h1, ihb h2⟩
theorem Holds.fr {S : Nat → Prop} (f : Fr w w' S) (hok : ∀ k, ok k → ¬ S k) {t : Ty} {x : t.T} {cs : List Value} (h : Holds w ok t x cs) : Holds w' ok t x cs :=
  (h.bound.move (fun k hk => f.block k hk.2 (hok k hk.1))).mono (fun _ hk => hk.1)
theorem Holds.below (f : Below w.heap.size w w') {t : Ty} {x : t.T} {cs : List Value} (h : Holds w ok t x cs) : Holds w' ok t x cs :=
  h.fr (Fr.of_below f (fun _ => False)) (fun _ _ h => h)
theorem Holds.zero : ∀ t : Ty, Holds w ok t t.zero t.zcells
  | .int => rfl
  | .bool => rfl
  | .str => rfl
  | .list e => ⟨none, 0, rfl, Nat.le_refl _, fun i x h => by simp [Ty.zero] at h⟩
  | .pair a b => ⟨_, _, rfl, Holds.zero a, Holds.zero b⟩
end
/-! ### A codec, reading or writing -/
inductive Sg where
  | rd (st : St)
  | wr (out : List UInt8)
def Sg.run {α : Type} (c : Cod α) : Sg → α → α × Sg
  | .rd st, _ => ((c.dec st).1, .rd (c.dec st).2)
  | .wr out, x => (x, .wr (out ++ c.enc x))
/-- What a codec may be put to: a zero, to be read into; or what has bytes. -/
def Sg.good (t : Ty) : Sg → t.T → Prop
  | .rd _, x => x = t.zero
  | .wr _, x => t.cod.ok x
def Sg.fit : Sg → Prop
  | .rd st => st.bs.length ≤ 68719476736
  | .wr out => out.length ≤ 68719476736
/-- At block g a codec; its row of bytes lies in block c. -/
def Co (g : Nat) (s : Sg) (c : Option Nat) (w : World) : Prop := match s with
  | .rd st => ∃ r off cap, Rd g r off cap st w ∧ c = some r
  | .wr out => ∃ v, Wr g v out w ∧ c = v.ownBlock
section
variable {g : Nat} {s : Sg} {c : Option Nat} {w w' : World}
theorem Co.glt (h : Co g s c w) : g < w.heap.size := by
  cases s with
  | rd st => obtain ⟨r, off, cap, h, _⟩ := h; exact h.glt
  | wr out => obtain ⟨v, h, _⟩ := h; exact h.lt
theorem Co.clt (h : Co g s c w) : ∀ k, c = some k → k < w.heap.size ∧ k ≠ g := by
  cases s with
  | rd st =>
    obtain ⟨r, off, cap, h, rfl⟩ := h
    rintro k ⟨⟩
    exact ⟨h.lt, fun e => h.ne e.symm⟩
  | wr out =>
    obtain ⟨v, h, rfl⟩ := h
    intro k hk
    exact ⟨(h.own.lt k hk).2, fun e => h.ne (by rw [hk, e])⟩
theorem Co.fr {S : Nat → Prop} (h : Co g s c w) (f : Fr w w' S) (hg : ¬ S g) (hc : ∀ k, c = some k → ¬ S k) : Co g s c w' := by
  cases s with
  | rd st =>
    obtain ⟨r, off, cap, h, rfl⟩ := h
    exact ⟨r, off, cap, h.fr f hg (hc r rfl), rfl⟩
  | wr out =>
    obtain ⟨v, h, rfl⟩ := h
    exact ⟨v, h.fr f hg hc, rfl⟩
theorem Co.below (h : Co g s c w) (f : Below w.heap.size w w') : Co g s c w' := h.fr (Fr.of_below f (fun _ => False)) (fun h => h) (fun _ _ h => h)
end
/-- What is read into is blank. -/
def Sg.blank (w : World) (b T : Nat) (pre post : List Value) (t : Ty) : Sg → Prop
  | .rd _ => Blk w b T pre t.zcells post
  | .wr _ => True
/-- What a codec's method is called with: kind t at block b, behind pre. -/
structure Pre (g b T : Nat) (pre post : List Value) (t : Ty) (s : Sg) (c : Option Nat) (ok : Nat → Prop) (x : t.T) (w : World) : Prop where
  co : Co g s c w
  at_ : ∃ seg, Holds w ok t x seg ∧ Blk w b T pre seg post
  sep : ∀ k, ok k → k ≠ g ∧ k ≠ b ∧ c ≠ some k
  bg : b ≠ g
  bc : c ≠ some b
  good : s.good t x
  f0 : s.fit
  f1 : (s.run t.cod x).2.fit
  zero : s.blank w b T pre post t
/-- What it leaves. -/
structure Done (g b T : Nat) (pre post : List Value) (t : Ty) (s : Sg) (c : Option Nat) (ok : Nat → Prop) (x : t.T) (w : World) (c' : Option Nat) (w' : World) : Prop where
  co : Co g (s.run t.cod x).2 c' w'
  at_ : ∃ seg, Holds w' (fun k => (ok k ∨ w.heap.size ≤ k) ∧ c' ≠ some k) t (s.run t.cod x).1 seg ∧ Blk w' b T pre seg post
  fr : Fr w w' (fun k => Own g c k ∨ k = b)
  nx : Next w c c'
theorem Sg.blank.fr {w w' : World} {b T : Nat} {pre post : List Value} {t : Ty} {s : Sg} {S : Nat → Prop} (h : s.blank w b T pre post t) (f : Fr w w' S) (hn : ¬ S b) : s.blank w' b T pre post t := by
  cases s with
  | rd st => exact Blk.fr h f hn
  | wr out => exact trivial
theorem Ty.zlen : ∀ t : Ty, t.zcells.length = t.sz
  | .int => rfl
  | .bool => rfl
  | .str => rfl
  | .list e => rfl
  | .pair a b => by
    show (a.zcells ++ b.zcells).length = a.sz + b.sz
    rw [List.length_append, a.zlen, b.zlen]
theorem Blk.same {w : World} {b T : Nat} {pre seg seg' post : List Value} (h : Blk w b T pre seg post) (h' : Blk w b T pre seg' post) : seg = seg' := by
  unfold Blk at h h'
  rw [h] at h'
  simpa using h'
/-- Function f is the method of kind t. -/
def Codes (f : Nat) (t : Ty) : Prop := ∀ {g b T o : Nat} {pre post : List Value} {s : Sg} {c : Option Nat} {ok : Nat → Prop} {x : t.T} {w : World}, Pre g b T pre post t s c ok x w → o = pre.length →
  Calls Try.prog f #[.pointer (some ⟨g, 0, none⟩), .pointer (some ⟨b, o, none⟩)] w fun e w' => e = .returned (.tuple #[]) ∧ ∃ c', Done g b T pre post t s c ok x w c' w'
section
variable {g b T : Nat} {pre post : List Value} {t t2 : Ty} {s : Sg} {c c' : Option Nat} {ok : Nat → Prop} {x : t.T} {w w0 w' : World}
theorem Pre.blt (h : Pre g b T pre post t s c ok x w) : b < w.heap.size := by
  obtain ⟨seg, _, h⟩ := h.at_
  exact h.lt
theorem Pre.below (h : Pre g b T pre post t s c ok x w) (f : Below w.heap.size w w') : Pre g b T pre post t s c ok x w' := by
  obtain ⟨seg, h1, h2⟩ := h.at_
  exact ⟨h.co.below f, ⟨seg, h1.below f, h2.fr (Fr.of_below f (fun _ => False)) (fun h => h)⟩, h.sep, h.bg, h.bc, h.good, h.f0, h.f1, h.zero.fr (Fr.of_below f (fun _ => False)) (fun h => h)⟩
theorem Done.back (f : Below w.heap.size w w0) (h : Done g b T pre post t s c ok x w0 c' w') : Done g b T pre post t s c ok x w c' w' := by
  obtain ⟨seg, h1, h2⟩ := h.at_
  have hs := f.size
  refine ⟨h.co, ⟨seg, h1.mono (fun k hk => ⟨hk.1.imp (fun h => h) (fun h => Nat.le_trans hs h), hk.2⟩), h2⟩, (Fr.of_below f (fun k => Own g c k ∨ k = b)).trans h.fr (fun i hi => .inl hi), ?_⟩
  rcases h.nx with hn | ⟨k, hk, hl⟩
  · exact .inl hn
  · exact .inr ⟨k, hk, Nat.le_trans hs hl⟩
theorem Done.below {w2 : World} (h : Done g b T pre post t s c ok x w c' w') (f : Below w'.heap.size w' w2) : Done g b T pre post t s c ok x w c' w2 := by
  obtain ⟨seg, h1, h2⟩ := h.at_
  exact ⟨h.co.below f, ⟨seg, h1.below f, h2.fr (Fr.of_below f (fun _ => False)) (fun h => h)⟩, h.fr.below f, h.nx⟩
theorem run_fst (a e : Ty) (s : Sg) (x : (Ty.pair a e).T) : (s.run (Ty.pair a e).cod x).1 = ((s.run a.cod x.1).1, ((s.run a.cod x.1).2.run e.cod x.2).1) := by
  cases s <;> rfl
theorem run_snd (a e : Ty) (s : Sg) (x : (Ty.pair a e).T) : (s.run (Ty.pair a e).cod x).2 = ((s.run a.cod x.1).2.run e.cod x.2).2 := by
  cases s with
  | rd st => rfl
  | wr out =>
    show Sg.wr (out ++ (a.cod.enc x.1 ++ e.cod.enc x.2)) = Sg.wr ((out ++ a.cod.enc x.1) ++ e.cod.enc x.2)
    rw [List.append_assoc]
theorem fit_mid {α : Type} (cd : Cod α) (s : Sg) (y : α) (h0 : s.fit) (h1 : (s.run cd y).2.fit → False) : ∀ {β : Type} (cd2 : Cod β) (z : β), ((s.run cd y).2.run cd2 z).2.fit → False := by
  intro β cd2 z h
  cases s with
  | rd st => exact h1 (Nat.le_trans (cd.le st) h0)
  | wr out =>
    refine h1 ?_
    have h : (out ++ cd.enc y ++ cd2.enc z).length ≤ 68719476736 := h
    show (out ++ cd.enc y).length ≤ 68719476736
    rw [List.length_append] at h
    omega
theorem Pre.split {a e : Ty} {x : (Ty.pair a e).T} (h : Pre g b T pre post (.pair a e) s c ok x w) : ∃ post', Pre g b T pre post' a s c ok x.1 w ∧
    ∀ c1 w1, Done g b T pre post' a s c ok x.1 w c1 w1 → ∃ pre', pre'.length = pre.length + a.sz ∧ Pre g b T pre' post e (s.run a.cod x.1).2 c1 (fun k => ok k ∧ k < w.heap.size) x.2 w1 ∧
      ∀ c2 w2, Done g b T pre' post e (s.run a.cod x.1).2 c1 (fun k => ok k ∧ k < w.heap.size) x.2 w1 c2 w2 → Done g b T pre post (.pair a e) s c ok x w c2 w2 := by
  obtain ⟨seg, h1, h2⟩ := h.at_
  obtain ⟨s1, s2, rfl, h1, h3⟩ := h1
  have hblt := h2.lt
  have hglt := h.co.glt
  have hb2 : Blk w b T pre s1 (s2 ++ post) := by
    unfold Blk at h2 ⊢
    simpa using h2
  have hf1 : (s.run a.cod x.1).2.fit := Classical.byContradiction fun hn => fit_mid a.cod s x.1 h.f0 hn e.cod x.2 (by rw [← run_snd]; exact h.f1)
  have hz : ∀ st, s = .rd st → s1 = a.zcells ∧ s2 = e.zcells := by
    rintro st rfl
    have hz := h2.same h.zero
    exact List.append_inj hz (by rw [h1.len, a.zlen])
  refine ⟨s2 ++ post, ⟨h.co, ⟨s1, h1, hb2⟩, h.sep, h.bg, h.bc, ?_, h.f0, hf1, ?_⟩, ?_⟩
  · cases s with
    | rd st => exact congrArg Prod.fst h.good
    | wr out => exact h.good.1
  · cases s with
    | rd st =>
      show Blk w b T pre a.zcells (s2 ++ post)
      rw [← (hz st rfl).1]
      exact hb2
    | wr out => exact trivial
  · intro c1 w1 hd
    obtain ⟨s1', k1, k2⟩ := hd.at_
    have hlen : s1'.length = a.sz := k1.len
    have hcne : ∀ k, ok k → k < w.heap.size → c1 ≠ some k := by
      intro k hk hlt
      rcases hd.nx with hn | ⟨k', hn, hle⟩
      · rw [hn]; exact (h.sep k hk).2.2
      · rw [hn]
        intro he
        injection he with he
        omega
    have h3' : Holds w1 (fun k => ok k ∧ k < w.heap.size) e x.2 s2 := h3.bound.fr hd.fr (fun k hk hS => by
      obtain ⟨q1, q2, q3⟩ := h.sep k hk.1
      rcases hS with (hS | hS) | hS
      · exact q1 hS
      · exact q3 hS
      · exact q2 hS)
    have hc1b : c1 ≠ some b := by
      rcases hd.nx with hn | ⟨k', hn, hle⟩
      · rw [hn]; exact h.bc
      · rw [hn]
        intro he
        injection he with he
        omega
    have k2' : Blk w1 b T (pre ++ s1') s2 post := by
      unfold Blk at k2 ⊢
      simpa using k2
    refine ⟨pre ++ s1', by rw [List.length_append, hlen], ⟨hd.co, ⟨s2, h3', k2'⟩, fun k hk => ⟨(h.sep k hk.1).1, (h.sep k hk.1).2.1, hcne k hk.1 hk.2⟩, h.bg, hc1b, ?_, hf1, ?_, ?_⟩, ?_⟩
    · cases s with
      | rd st => exact congrArg Prod.snd h.good
      | wr out => exact h.good.2
    · rw [← run_snd]; exact h.f1
    · cases s with
      | rd st =>
        show Blk w1 b T (pre ++ s1') e.zcells post
        rw [← (hz st rfl).2]
        exact k2'
      | wr out => exact trivial
    · intro c2 w2 hd2
      obtain ⟨s2', m1, m2⟩ := hd2.at_
      have hsz := hd.fr.size
      have hc2ne : ∀ k, k < w1.heap.size → c1 ≠ some k → c2 ≠ some k := by
        intro k hk hc
        rcases hd2.nx with hn | ⟨k', hn, hle⟩
        · rw [hn]; exact hc
        · rw [hn]
          intro he
          injection he with he
          omega
      refine ⟨by rw [run_snd]; exact hd2.co, ⟨s1' ++ s2', ?_, ?_⟩, ?_, hd.nx.trans hd2.nx hd.fr.size⟩
      · rw [run_fst]
        refine ⟨s1', s2', rfl, ?_, m1.mono (fun k hk => ⟨?_, hk.2⟩)⟩
        · refine ((k1.bound.fr hd2.fr (fun k hk hS => ?_)).mono (fun k hk => ⟨hk.1.1, hc2ne k hk.2 hk.1.2⟩))
          obtain ⟨⟨hk1, hk2⟩, hk3⟩ := hk
          rcases hS with (hS | hS) | hS
          · rcases hk1 with hk1 | hk1
            · exact (h.sep k hk1).1 hS
            · omega
          · exact hk2 hS
          · rcases hk1 with hk1 | hk1
            · exact (h.sep k hk1).2.1 hS
            · omega
        · rcases hk.1 with h' | h'
          · exact .inl h'.1
          · exact .inr (Nat.le_trans hsz h')
      · unfold Blk at m2 ⊢
        simpa using m2
      · refine hd.fr.trans hd2.fr (fun i hi => ?_)
        rcases hi with hi | hi
        · rcases Own.next hd.nx i hi with h' | h'
          · exact .inl (.inl h')
          · exact .inr h'
        · exact .inl (.inr hi)
end
end Go.Proofs.Ytlcgkcmicklihaa.Wire
