/- What items does to a list, apart from its code. -/
import Derived.Test.YtlcgkcmicklihaaMeth
import Derived.Deep.WholeRow
namespace Go.Proofs.Ytlcgkcmicklihaa.Wire
set_option linter.unusedVariables false
set_option linter.unusedSimpArgs false
open Go.RowKit Go.Proofs.YtlcgkcmicklihaaW.PrintWords Go.Proofs.YtlcgkcmicklihaaW.PrintLast Go.Proofs.YtlcgkcmicklihaaW.PrintMore
theorem Pre.cell_list {e : Ty} {g b T o : Nat} {pre post : List Value} {s : Sg} {c : Option Nat} {ok : Nat → Prop} {x : List e.T} {w : World} (h : Pre g b T pre post (.list e) s c ok x w) (ho : o = pre.length) :
    ∃ A cap, w.cell? ⟨b, o, none⟩ = some (.slice A x.length cap) ∧ Holds w ok (.list e) x [.slice A x.length cap] ∧ Blk w b T pre [.slice A x.length cap] post := by
  obtain ⟨seg, h1, h2⟩ := h.at_
  have h1' := h1
  unfold Holds at h1
  obtain ⟨A, cap, rfl, _⟩ := h1
  exact ⟨A, cap, h2.cell ho, h1', h2⟩
theorem gate_store {P : Program} {ops : Array Oper} {rest : List Oper} {o : Oper} {a : Act} {Q : Exit → Act → World → Prop} {w : World} {t : TypeId} {p x : Operand} (_ho : o.op = .store t p x) (h : wpList P ops Q (o :: rest) a w) : wpList P ops Q (o :: rest) a w := h
theorem encs_snoc {α : Type} (c : Cod α) (l : List α) (k : Nat) (y : α) (hy : l[k]? = some y) : encs c (l.take (k + 1)) = encs c (l.take k) ++ c.enc y := by
  have hk : k < l.length := (List.getElem?_eq_some_iff.1 hy).1
  have he : l[k] = y := (List.getElem?_eq_some_iff.1 hy).2
  rw [List.take_succ_eq_append_getElem hk, encs, List.flatMap_append, he]
  simp [encs]
theorem encs_take_le {α : Type} (c : Cod α) (l : List α) (k : Nat) : (encs c (l.take k)).length ≤ (encs c l).length := by
  have : encs c l = encs c (l.take k) ++ encs c (l.drop k) := by
    rw [encs, encs, encs, ← List.flatMap_append, List.take_append_drop]
  rw [this, List.length_append]
  omega
/-- An element, copied into a variable of its own. -/
theorem Pre.elem_wr {e : Ty} {g tid : Nat} {out : List UInt8} {c : Option Nat} {ok : Nat → Prop} {y : e.T} {cs : List Value} {w : World} (hC : Co g (.wr out) c w) (hH : Holds w ok e y cs) (hs : ∀ k, ok k → k ≠ g ∧ (k < w.heap.size → c ≠ some k))
    (hg : e.cod.ok y) (hf : (out ++ e.cod.enc y).length ≤ 68719476736) : Pre g w.heap.size tid [] [] e (.wr out) c (fun k => ok k ∧ k < w.heap.size) y (w.alloc (.cells cs.toArray tid)) := by
  have hb : Below w.heap.size w (w.alloc (.cells cs.toArray tid)) := (Below.refl _ _).alloc (Nat.le_refl _) _
  have hglt := hC.glt
  refine ⟨hC.below hb, ⟨cs, hH.bound.below hb, ?_⟩, fun k hk => ⟨(hs k hk.1).1, by omega, (hs k hk.1).2 hk.2⟩, by omega, fun he => ?_, hg, ?_, hf, trivial⟩
  · have : Blk (w.alloc (.cells cs.toArray tid)) w.heap.size tid [] cs [] := by
      unfold Blk
      simpa using blk_new w (.cells cs.toArray tid)
    exact this
  · have := (hC.clt _ he).1
    omega
  · rw [List.length_append] at hf
    show out.length ≤ 68719476736
    omega
theorem Done.elem {e : Ty} {g tid : Nat} {s : Sg} {c c' : Option Nat} {ok : Nat → Prop} {y : e.T} {cs : Array Value} {w w' : World} (hd : Done g w.heap.size tid [] [] e s c ok y (w.alloc (.cells cs tid)) c' w') :
    Co g (s.run e.cod y).2 c' w' ∧ Fr w w' (Own g c) ∧ Next w c c' := by
  have hd := hd.back (w := w) ((Below.refl _ _).alloc (Nat.le_refl _) _)
  exact ⟨hd.co, ⟨hd.fr.os, hd.fr.tape, hd.fr.output, hd.fr.size, fun i hi hn => hd.fr.block i hi (fun hS => hS.elim hn (fun h => by omega))⟩, hd.nx⟩
theorem fit_elem {e : Ty} {g b T k : Nat} {pre post : List Value} {out : List UInt8} {c : Option Nat} {ok : Nat → Prop} {x : List e.T} {y : e.T} {w : World} (h : Pre g b T pre post (.list e) (.wr out) c ok x w) (hy : x[k]? = some y) :
    (out ++ num (x.length : Int) ++ encs e.cod (x.take k) ++ e.cod.enc y).length ≤ 68719476736 := by
  have h1 : (out ++ (num x.length ++ encs e.cod x)).length ≤ 68719476736 := h.f1
  have h2 := encs_take_le e.cod x (k + 1)
  rw [encs_snoc e.cod x k y hy] at h2
  simp only [List.length_append] at h1 h2 ⊢
  omega
theorem Done.list_wr {e : Ty} {g b T : Nat} {pre post : List Value} {out : List UInt8} {c c' : Option Nat} {ok : Nat → Prop} {x : List e.T} {w w' : World} (h : Pre g b T pre post (.list e) (.wr out) c ok x w)
    (hC : Co g (.wr (out ++ num (x.length : Int) ++ encs e.cod (x.take x.length))) c' w') (hn : Next w c c') (hf : Fr w w' (Own g c)) : Done g b T pre post (.list e) (.wr out) c ok x w c' w' := by
  obtain ⟨seg, h1, h2⟩ := h.at_
  rw [List.take_length, List.append_assoc] at hC
  refine ⟨hC, ⟨seg, (h1.bound.fr hf (fun k hk hS => hS.elim (h.sep k hk.1).1 (h.sep k hk.1).2.2)).mono (fun k hk => ⟨.inl hk.1, hn.ne (h.sep k hk.1).2.2 hk.2⟩), h2.fr hf (fun hk => hk.elim h.bg h.bc)⟩, hf.mono (fun k hk => .inl hk), hn⟩
/-- A whole struct, stored into the block that was made last. -/
theorem wpList_store_new {P : Program} {ops : Array Oper} {rest : List Oper} {o : Oper} {a : Act} {Q : Exit → Act → World → Prop} {w : World} {c : Array Value} {t : TypeId} (hgd : o.guard = none) (p x : Operand) (ho : o.op = .store t p x) (c' : Array Value)
    (hp : a.eval p = .pointer (some ⟨w.heap.size, 0, none⟩)) (hx : a.eval x = .agg c') (hi : (P.info? t).map (·.size) = some c'.size) (hsz : c.size = c'.size) (h1 : c'.all (·.oneCell') = true)
    (h : wpList P ops Q rest (a.put o.dst undef) (w.alloc (.cells c' t))) : wpList P ops Q (o :: rest) a (w.alloc (.cells c t)) := by
  refine wpList_plain hgd fun K hK => ?_
  have hr := run_storeAt_new (P := P) w t c c' hi hsz h1
  unfold Oper.wp execOp
  simp only [ho, Sem.run_bind, Sem.run_pure, Result.andThen_ok, hp, hx, hr]
  exact hK _ _ h
theorem Holds.list_at {e : Ty} {w : World} {ok : Nat → Prop} {l : List e.T} {A : Option Addr} {n cap i : Nat} {y : e.T} (h : Holds w ok (.list e) l [.slice A n cap]) (hy : l[i]? = some y) :
    ∃ ab ao c, A = some ⟨ab, ao, none⟩ ∧ ok ab ∧ Holds w ok e y c ∧ ∀ j u, c[j]? = some u → w.cell? ⟨ab, ao + i * e.sz + j, none⟩ = some u := by
  unfold Holds at h
  obtain ⟨A', cap', hcs, hl, hi⟩ := h
  injection hcs with h1 _
  injection h1 with h1 h2 h3
  subst h1
  obtain ⟨ab, ao, c, ha, hk, hh, hc⟩ := hi i y hy
  exact ⟨ab, ao, c, ha, hk, hh, fun j u hu => by rw [Nat.add_assoc]; exact hc j u hu⟩
theorem fit_head {e : Ty} {g b T : Nat} {pre post : List Value} {out : List UInt8} {c : Option Nat} {ok : Nat → Prop} {x : List e.T} {w : World} (h : Pre g b T pre post (.list e) (.wr out) c ok x w) : ((Sg.wr out).run cNum (x.length : Int)).2.fit := by
  have h1 : (out ++ (num x.length ++ encs e.cod x)).length ≤ 68719476736 := h.f1
  show (out ++ num x.length).length ≤ 68719476736
  rw [List.length_append, List.length_append] at h1
  rw [List.length_append]
  omega
theorem Holds.and {w : World} {ok ok' : Nat → Prop} : ∀ {t : Ty} {x : t.T} {cs : List Value}, Holds w ok t x cs → Holds w ok' t x cs → Holds w (fun k => ok k ∧ ok' k) t x cs := by
  intro t
  induction t with
  | int => intro x cs h _; exact h
  | bool => intro x cs h _; exact h
  | str => intro x cs h _; exact h
  | list e ih =>
    intro x cs h h'
    unfold Holds at h h' ⊢
    obtain ⟨A, cap, hcs, hl, hi⟩ := h
    obtain ⟨A', cap', hcs', hl', hi'⟩ := h'
    rw [hcs] at hcs'
    injection hcs' with hcs' _
    injection hcs' with e1 e2 e3
    subst e1
    refine ⟨A, cap, hcs, hl, fun i y hy => ?_⟩
    obtain ⟨ab, ao, c, ha, hk, hh, hc⟩ := hi i y hy
    obtain ⟨ab', ao', c', ha', hk', hh', hc'⟩ := hi' i y hy
    rw [ha] at ha'
    injection ha' with ha'
    injection ha' with e4 e5
    subst e4 e5
    have ec : c = c' := by
      apply List.ext_getElem
      · rw [hh.len, hh'.len]
      · intro j h1 h2
        have q1 := hc j _ (List.getElem?_eq_getElem h1)
        have q2 := hc' j _ (List.getElem?_eq_getElem h2)
        rw [q1] at q2
        injection q2
    subst ec
    exact ⟨ab, ao, c, ha, ⟨hk, hk'⟩, ih hh hh', hc⟩
  | pair a b iha ihb =>
    intro x cs h h'
    unfold Holds at h h' ⊢
    obtain ⟨c1, c2, hcs, h1, h2⟩ := h
    obtain ⟨c1', c2', hcs', h1', h2'⟩ := h'
    rw [hcs] at hcs'
    have := List.append_inj hcs' (by rw [h1.len, h1'.len])
    obtain ⟨e1, e2⟩ := this
    subst e1 e2
    exact ⟨c1, c2, hcs, iha h1 h1', ihb h2 h2'⟩
/-- A list that grows: its elements lie in a row of its own, from block B on; c is the codec's. -/
def Row (e : Ty) (tid B : Nat) (c : Option Nat) (w : World) (v : Value) (acc : List e.T) (rows : List (List Value)) : Prop :=
  (∀ j, v.ownBlock = some j → c ≠ some j) ∧ rows.length = acc.length ∧ w.ownsRow B tid e.sz v acc.length rows.flatten ∧
    ∀ (i : Nat) (y : e.T) (cs : List Value), acc[i]? = some y → rows[i]? = some cs → Holds w (fun j => B ≤ j ∧ v.ownBlock ≠ some j ∧ c ≠ some j) e y cs
section
variable {e : Ty} {tid B : Nat} {c c' : Option Nat} {w w' W1 : World} {v v1 : Value} {acc : List e.T} {rows : List (List Value)}
theorem Row.nil : Row e tid B c w (.slice none 0 0) [] [] := ⟨fun j hj => by simp [Value.ownBlock] at hj, rfl, World.ownsRow_nil _ _ _ _, fun i y cs h => by simp at h⟩
theorem Row.fr {S : Nat → Prop} (h : Row e tid B c w v acc rows) (f : Fr w w' S) (hS : ∀ j, S j → j < B ∨ c = some j) : Row e tid B c w' v acc rows := by
  obtain ⟨h1, h2, h3, h4⟩ := h
  refine ⟨h1, h2, f.own h3 (fun k hk hs => ?_), fun i y cs hy hcs => (h4 i y cs hy hcs).fr f (fun k hk hs => ?_)⟩
  · have := (h3.lt k hk).1
    rcases hS k hs with h5 | h5
    · omega
    · exact h1 k hk h5
  · rcases hS k hs with h5 | h5
    · have := hk.1
      omega
    · exact hk.2.2 h5
theorem Row.next (h : Row e tid B c w v acc rows) (hn : Next w c c') : Row e tid B c' w v acc rows := by
  obtain ⟨h1, h2, h3, h4⟩ := h
  exact ⟨fun j hj => hn.ne (h1 j hj) (h3.lt j hj).2, h2, h3, fun i y cs hy hcs => ((h4 i y cs hy hcs).bound).mono (fun k hk => ⟨hk.1.1, hk.1.2.1, hn.ne hk.1.2.2 hk.2⟩)⟩
/-- Behind an event that may turn the codec's row. -/
theorem Row.fr' {S : Nat → Prop} {c0 : Option Nat} (h : Row e tid B c w v acc rows) (f : Fr w w' S) (h0 : Row e tid B c0 w v acc rows) (hS : ∀ j, S j → j < B ∨ c0 = some j) : Row e tid B c w' v acc rows := by
  have h1 := h0.fr f hS
  refine ⟨h.1, h.2.1, h1.2.2.1, fun i y cs hy hcs => ?_⟩
  have h3 := h0.2.2.2 i y cs hy hcs
  have h4 := h.2.2.2 i y cs hy hcs
  have h5 := h3.bound
  exact (h4.and h3).fr f (fun k hk hs => by
    rcases hS k hs with h6 | h6
    · have := hk.1.1
      omega
    · exact hk.2.2.2 h6) |>.mono (fun k hk => hk.1)
theorem Row.append {y : e.T} {cs : List Value} (h : Row e tid B c w v acc rows) (f : Below w.heap.size w W1) (hy : Holds w (fun j => B ≤ j ∧ v.ownBlock ≠ some j ∧ c ≠ some j) e y cs) (hg : W1.grownBy w' v.ownBlock)
    (hown : w'.ownsRow B tid e.sz v1 (acc.length + 1) (rows.flatten ++ cs)) (hat : Next w v.ownBlock v1.ownBlock) (hc : ∀ k, c = some k → k < w.heap.size) : Row e tid B c w' v1 (acc ++ [y]) (rows ++ [cs]) := by
  obtain ⟨h1, h2, h3, h4⟩ := h
  have fg : Fr w w' (fun k => v.ownBlock = some k) := (Fr.of_below f (fun k => v.ownBlock = some k)).trans (Fr.of_grown hg) (fun i hi => .inl hi)
  have step : ∀ {z : e.T} {ds : List Value}, Holds w (fun j => B ≤ j ∧ v.ownBlock ≠ some j ∧ c ≠ some j) e z ds → Holds w' (fun j => B ≤ j ∧ v1.ownBlock ≠ some j ∧ c ≠ some j) e z ds := fun hz =>
    (hz.bound.fr fg (fun k hk hs => hk.1.2.1 hs)).mono (fun k hk => ⟨hk.1.1, hat.ne hk.1.2.1 hk.2, hk.1.2.2⟩)
  refine ⟨fun j hj => ?_, by rw [List.length_append, List.length_append, h2]; rfl, ?_, fun i z ds hz hds => ?_⟩
  · intro hcj
    rcases hat with ha | ⟨k, ha, hk⟩
    · rw [ha] at hj
      exact h1 j hj hcj
    · rw [ha] at hj
      injection hj with hj
      have := hc j hcj
      omega
  · rw [List.length_append, List.length_singleton, List.flatten_append, List.flatten_singleton]
    exact hown
  · rcases Nat.lt_or_ge i acc.length with hi | hi
    · rw [List.getElem?_append_left hi] at hz
      rw [List.getElem?_append_left (by omega)] at hds
      exact step (h4 i z ds hz hds)
    · rw [List.getElem?_append_right hi] at hz
      rw [List.getElem?_append_right (by omega), h2] at hds
      have hi0 : i - acc.length = 0 := by
        rcases Nat.eq_zero_or_pos (i - acc.length) with h0 | h0
        · exact h0
        · rw [List.getElem?_eq_none (by simp; omega)] at hz
          cases hz
      rw [hi0] at hz hds
      simp only [List.getElem?_cons_zero, Option.some.injEq] at hz hds
      subst hz hds
      exact step hy
theorem flatten_at : ∀ (rows : List (List Value)) (n : Nat), (∀ r ∈ rows, r.length = n) → ∀ (i j : Nat) (cs : List Value) (u : Value), rows[i]? = some cs → cs[j]? = some u → rows.flatten[i * n + j]? = some u
  | [], n, _, i, j, cs, u, h, _ => by simp at h
  | r :: rows, n, hl, 0, j, cs, u, h, hu => by
    simp only [List.getElem?_cons_zero, Option.some.injEq] at h
    subst h
    have hj : j < r.length := (List.getElem?_eq_some_iff.1 hu).1
    rw [List.flatten_cons, Nat.zero_mul, Nat.zero_add, List.getElem?_append_left hj]
    exact hu
  | r :: rows, n, hl, i + 1, j, cs, u, h, hu => by
    have hr : r.length = n := hl r List.mem_cons_self
    rw [List.getElem?_cons_succ] at h
    have ih := flatten_at rows n (fun r hr => hl r (List.mem_cons_of_mem _ hr)) i j cs u h hu
    have e1 : (i + 1) * n + j = r.length + (i * n + j) := by rw [Nat.add_mul, hr]; omega
    rw [List.flatten_cons, e1, List.getElem?_append_right (Nat.le_add_right _ _), Nat.add_sub_cancel_left]
    exact ih
/-- What has grown reads as a list. -/
theorem Row.holds (h : Row e tid B c w v acc rows) : Holds w (fun k => B ≤ k ∧ c ≠ some k) (.list e) acc [v] := by
  obtain ⟨h1, h2, h3, h4⟩ := h
  have hlen : ∀ r ∈ rows, r.length = e.sz := by
    intro r hr
    obtain ⟨i, hi, rfl⟩ := List.mem_iff_getElem.1 hr
    exact (h4 i _ _ (List.getElem?_eq_getElem (by omega)) (List.getElem?_eq_getElem hi)).len
  unfold Holds
  rcases h3.2 with ⟨hv, h0⟩ | ⟨g, cap, cur, hv, hb, hg, hnc, hcm, hcs, htake⟩
  · refine ⟨none, 0, by rw [hv, h0], by omega, fun i x hx => ?_⟩
    rw [List.getElem?_eq_none (by omega)] at hx
    cases hx
  · refine ⟨some ⟨g, 0, none⟩, cap, by rw [hv], hnc, fun i x hx => ?_⟩
    have hi : i < acc.length := (List.getElem?_eq_some_iff.1 hx).1
    have hr := List.getElem?_eq_getElem (l := rows) (i := i) (by omega)
    have hH := h4 i x _ hx hr
    refine ⟨g, 0, _, rfl, ⟨hb, h1 g (by rw [hv]; rfl)⟩, hH.mono (fun k hk => ⟨hk.1, hk.2.2⟩), fun j u hu => ?_⟩
    have h5 := h3.cells (g := g) (by rw [hv]; rfl) (i * e.sz + j) u (flatten_at rows e.sz hlen i j _ u hr hu)
    rw [add_at] at h5
    exact h5
end
/-- A variable for an element that is to be read. -/
theorem Pre.elem_rd {e : Ty} {g tid : Nat} {st : St} {c : Option Nat} {w : World} (hC : Co g (.rd st) c w) (hf : st.bs.length ≤ 68719476736) : Pre g w.heap.size tid [] [] e (.rd st) c (fun _ => False) e.zero (w.alloc (.cells e.zcells.toArray tid)) := by
  have hb : Below w.heap.size w (w.alloc (.cells e.zcells.toArray tid)) := (Below.refl _ _).alloc (Nat.le_refl _) _
  have hglt := hC.glt
  have hB : Blk (w.alloc (.cells e.zcells.toArray tid)) w.heap.size tid [] e.zcells [] := by
    unfold Blk
    simpa using blk_new w (.cells e.zcells.toArray tid)
  refine ⟨hC.below hb, ⟨e.zcells, Holds.zero e, hB⟩, fun k hk => hk.elim, by omega, fun he => ?_, rfl, hf, Nat.le_trans (e.cod.le st) hf, hB⟩
  have := (hC.clt _ he).1
  omega
theorem Pre.zero_list {e : Ty} {g b T : Nat} {pre post : List Value} {st : St} {c : Option Nat} {ok : Nat → Prop} {x : List e.T} {w : World} (h : Pre g b T pre post (.list e) (.rd st) c ok x w) : Blk w b T pre [.slice none 0 0] post := h.zero
theorem Co.mark {g : Nat} {st : St} {c : Option Nat} {w : World} (h : Co g (.rd st) c w) (b : Bool) : Co g (.rd ⟨st.bs, b⟩) c (w.setCell ⟨g, 2, none⟩ (.bool b)) := by
  obtain ⟨r, off, cap, hR, hc⟩ := h.rd
  exact ⟨r, off, cap, hR.mark b, hc⟩
theorem Done.list_rd {e : Ty} {g b T tid : Nat} {pre post : List Value} {st : St} {c c' : Option Nat} {ok : Nat → Prop} {w w' : World} {n1 : Int} {bs bs' : List UInt8} {bad bad' bad2 : Bool} {acc : List e.T} {rows : List (List Value)} {v : Value}
    (h : Pre g b T pre post (.list e) (.rd st) c ok [] w) (hrd : rdNum 0 st = (n1, ⟨bs, bad⟩)) (hgo : listGo e.cod n1.toNat [] ⟨bs, bad⟩ = (acc, ⟨bs', bad'⟩)) (hC : Co g (.rd ⟨bs', bad2⟩) c' w') (hb : bad2 = (bad' || decide (n1 < 0)))
    (hn : Next w c c') (hf : Fr w w' (fun i => Own g c i ∨ i = b)) (hB : Blk w' b T pre [v] post) (hR : Row e tid w.heap.size c' w' v acc rows) : Done g b T pre post (.list e) (.rd st) c ok [] w c' w' := by
  have e1 : (listGo e.cod (rdNum 0 st).1.toNat [] (rdNum 0 st).2) = (acc, ⟨bs', bad'⟩) := by rw [hrd]; exact hgo
  refine ⟨?_, ⟨[v], ?_, hB⟩, hf, hn⟩
  · show Co g (.rd ⟨(listGo e.cod (rdNum 0 st).1.toNat [] (rdNum 0 st).2).2.bs, (listGo e.cod (rdNum 0 st).1.toNat [] (rdNum 0 st).2).2.bad || decide ((rdNum 0 st).1 < 0)⟩) c' w'
    rw [e1, hrd, ← hb]
    exact hC
  · show Holds w' _ (.list e) (listGo e.cod (rdNum 0 st).1.toNat [] (rdNum 0 st).2).1 [v]
    rw [e1]
    exact hR.holds.mono (fun k hk => ⟨.inr hk.1, hk.2⟩)
/-- The loop is left early. -/
theorem Done.list_cut {e : Ty} {g b T tid k : Nat} {pre post : List Value} {st : St} {c c' : Option Nat} {ok : Nat → Prop} {w wr : World} {n1 : Int} {bs bs' : List UInt8} {bad bad' : Bool} {acc : List e.T} {rows : List (List Value)} {v : Value}
    (h : Pre g b T pre post (.list e) (.rd st) c ok [] w) (hrd : rdNum 0 st = (n1, ⟨bs, bad⟩)) (hgo : listGo e.cod n1.toNat [] ⟨bs, bad⟩ = listGo e.cod (n1.toNat - k) acc ⟨bs', bad'⟩) (hk : (k : Int) < n1) (hb : bad' = true ∨ bs' = [])
    (hC : Co g (.rd ⟨bs', bad'⟩) c' wr) (hn : Next w c c') (hf : Fr w wr (fun i => Own g c i ∨ i = b)) (hB : Blk wr b T pre [v] post) (hR : Row e tid w.heap.size c' wr v acc rows) :
    Done g b T pre post (.list e) (.rd st) c ok [] w c' (wr.setCell ⟨g, 2, none⟩ (.bool true)) := by
  have hg := h.co.glt
  have f2 : Fr wr (wr.setCell ⟨g, 2, none⟩ (.bool true)) (fun i => i = g) := (Fr.refl wr (fun i => i = g)).setCell (p := ⟨g, 2, none⟩) (.inl rfl) _
  refine Done.list_rd (bad' := true) (bad2 := true) h hrd ?_ (hC.mark true) rfl hn (hf.trans f2 (fun i hi => .inl (.inl (.inl hi)))) (hB.fr f2 h.bg) (hR.fr f2 (fun j hj => .inl (by have hj : j = g := hj; omega)))
  rw [hgo]
  obtain ⟨m, hm⟩ : ∃ m, n1.toNat - k = m + 1 := ⟨n1.toNat - k - 1, by omega⟩
  rw [hm]
  unfold listGo
  rw [if_pos hb]
/-- The loop has come to its end. -/
theorem Done.list_end {e : Ty} {g b T tid k : Nat} {pre post : List Value} {st : St} {c c' : Option Nat} {ok : Nat → Prop} {w wr : World} {n1 : Int} {bs bs' : List UInt8} {bad bad' bad2 : Bool} {acc : List e.T} {rows : List (List Value)} {v : Value}
    (h : Pre g b T pre post (.list e) (.rd st) c ok [] w) (hrd : rdNum 0 st = (n1, ⟨bs, bad⟩)) (hgo : listGo e.cod n1.toNat [] ⟨bs, bad⟩ = listGo e.cod (n1.toNat - k) acc ⟨bs', bad'⟩) (hk : ¬ (k : Int) < n1)
    (hC : Co g (.rd ⟨bs', bad'⟩) c' wr) (hb : bad2 = (bad' || decide (n1 < 0))) (hn : Next w c c') (hf : Fr w wr (fun i => Own g c i ∨ i = b)) (hB : Blk wr b T pre [v] post) (hR : Row e tid w.heap.size c' wr v acc rows) :
    Done g b T pre post (.list e) (.rd st) c ok [] w c' (wr.setCell ⟨g, 2, none⟩ (.bool bad2)) := by
  have hg := h.co.glt
  have f2 : Fr wr (wr.setCell ⟨g, 2, none⟩ (.bool bad2)) (fun i => i = g) := (Fr.refl wr (fun i => i = g)).setCell (p := ⟨g, 2, none⟩) (.inl rfl) _
  refine Done.list_rd (bad' := bad') (bad2 := bad2) h hrd ?_ (hC.mark bad2) hb hn (hf.trans f2 (fun i hi => .inl (.inl (.inl hi)))) (hB.fr f2 h.bg) (hR.fr f2 (fun j hj => .inl (by have hj : j = g := hj; omega)))
  rw [hgo, show n1.toNat - k = 0 by omega]
  rfl
/-- The local number's block is not the codec's row. -/
theorem Done.apart {g T2 : Nat} {s : Sg} {c c' : Option Nat} {y : Int} {w w' : World} (hC : Co g s c w) (hd : Done g w.heap.size T2 [] [] .int s c (fun _ => False) y (w.alloc (.cells #[.int .i64 y] T2)) c' w') : c' ≠ some w.heap.size := by
  have hs : (w.alloc (.cells #[.int .i64 y] T2)).heap.size = w.heap.size + 1 := by simp
  rcases hd.nx with hn | ⟨k, hn, hl⟩
  · rw [hn]
    intro he
    have := (hC.clt _ he).1
    omega
  · rw [hn]
    intro he
    injection he with he
    omega
section
variable {e : Ty} {g b T tid k o : Nat} {pre post : List Value} {st s1 : St} {c c' c2 : Option Nat} {ok : Nat → Prop} {w wr w2 w' : World} {acc : List e.T} {rows : List (List Value)} {v u : Value} {zc : Array Value}
/-- Behind an element's reading. -/
theorem list_mid (h : Pre g b T pre post (.list e) (.rd st) c ok [] w) (hn : Next w c c') (hw : w.heap.size ≤ wr.heap.size) (hB : Blk wr b T pre [v] post) (hR : Row e tid w.heap.size c' wr v acc rows)
    (hd : Done g wr.heap.size tid [] [] e (.rd s1) c' (fun _ => False) e.zero (wr.alloc (.cells zc tid)) c2 w2) : Blk w2 b T pre [v] post ∧ Row e tid w.heap.size c2 w2 v acc rows ∧ (∀ j, v.ownBlock = some j → w.heap.size ≤ j) ∧ b < w.heap.size ∧
      ∃ seg, Holds w2 (fun j => w.heap.size ≤ j ∧ v.ownBlock ≠ some j ∧ c2 ≠ some j) e (e.cod.dec s1).1 seg ∧ Blk w2 wr.heap.size tid [] seg [] := by
  have hg := h.co.glt
  have hb := h.blt
  obtain ⟨seg, hs1, hs2⟩ := hd.at_
  have hd1 := hd.elem
  obtain ⟨d1, d2, d3⟩ := hd1
  have hbc : c' ≠ some b := hn.ne h.bc hb
  have hsz : (wr.alloc (.cells zc tid)).heap.size = wr.heap.size + 1 := by simp
  have hown : ∀ j, v.ownBlock = some j → w.heap.size ≤ j ∧ j < wr.heap.size := fun j hj => hR.2.2.1.lt j hj
  refine ⟨hB.fr d2 (fun hS => hS.elim h.bg hbc), (hR.next d3).fr' d2 hR (fun j hj => ?_), fun j hj => (hown j hj).1, hb, seg, hs1.mono (fun j hj => ⟨?_, ?_, hj.2⟩), hs2⟩
  · rcases hj with hj | hj
    · exact .inl (by omega)
    · exact .inr hj
  · rcases hj.1 with hj1 | hj1
    · exact hj1.elim
    · omega
  · intro hv
    have := (hown j hv).2
    rcases hj.1 with hj1 | hj1
    · exact hj1.elim
    · omega
/-- Behind an element's append. -/
theorem list_round {W1 : World} {v1 : Value} {seg : List Value} (h : Pre g b T pre post (.list e) (.rd st) c ok [] w) (ho : o = pre.length) (hn : Next w c c') (hf : Fr w wr (fun i => Own g c i ∨ i = b)) (hq : wr.cell? ⟨w.heap.size, 0, none⟩ = some u) (hcq : c' ≠ some w.heap.size)
    (hd : Done g wr.heap.size tid [] [] e (.rd s1) c' (fun _ => False) e.zero (wr.alloc (.cells zc tid)) c2 w2) (hB : Blk w2 b T pre [v] post) (hR : Row e tid w.heap.size c2 w2 v acc rows) (hov : ∀ j, v.ownBlock = some j → w.heap.size ≤ j)
    (hvq : v.ownBlock ≠ some w.heap.size)
    (hH : Holds w2 (fun j => w.heap.size ≤ j ∧ v.ownBlock ≠ some j ∧ c2 ≠ some j) e (e.cod.dec s1).1 seg) (hW1 : Below w2.heap.size w2 W1) (hgrow : W1.grownBy w' v.ownBlock) (hown : w'.ownsRow w.heap.size tid e.sz v1 (acc.length + 1) (rows.flatten ++ seg)) (hat : Next w2 v.ownBlock v1.ownBlock) :
    Co g (.rd (e.cod.dec s1).2) c2 (w'.setCell ⟨b, o, none⟩ v1) ∧ Next w c c2 ∧ Fr w (w'.setCell ⟨b, o, none⟩ v1) (fun i => Own g c i ∨ i = b) ∧ Blk (w'.setCell ⟨b, o, none⟩ v1) b T pre [v1] post ∧
      Row e tid w.heap.size c2 (w'.setCell ⟨b, o, none⟩ v1) v1 (acc ++ [(e.cod.dec s1).1]) (rows ++ [seg]) ∧ (w'.setCell ⟨b, o, none⟩ v1).cell? ⟨w.heap.size, 0, none⟩ = some u ∧ c2 ≠ some w.heap.size ∧ v1.ownBlock ≠ some w.heap.size := by
  have hg := h.co.glt
  have hb := h.blt
  have hbg := h.bg
  obtain ⟨d1, d2, d3⟩ := hd.elem
  have hqlt : w.heap.size < wr.heap.size := World.block_lt_of_cell? wr _ hq
  have hws : w.heap.size ≤ wr.heap.size := hf.size
  have hw2s : wr.heap.size ≤ w2.heap.size := d2.size
  have hn2 : Next w c c2 := hn.trans d3 hws
  have hc2b : c2 ≠ some b := hn2.ne h.bc hb
  have fg : Fr w2 w' (fun k => v.ownBlock = some k) := (Fr.of_below hW1 (fun k => v.ownBlock = some k)).trans (Fr.of_grown hgrow) (fun i hi => .inl hi)
  have fs : Fr w' (w'.setCell ⟨b, o, none⟩ v1) (fun k => k = b) := (Fr.refl w' (fun k => k = b)).setCell (p := ⟨b, o, none⟩) (.inl rfl) _
  have hcl2 : ∀ k, c2 = some k → k < w2.heap.size := fun k hk => (d1.clt k hk).1
  have hnv : ¬ v.ownBlock = some b := fun hv => by have := hov b hv; omega
  have co' : Co g (.rd (e.cod.dec s1).2) c2 w' := Co.fr (s := .rd (e.cod.dec s1).2) d1 fg (fun hv => by have := hov g hv; omega) (fun k hk hv => hR.1 k hv hk)
  have blk' := hB.fr fg hnv
  have row' := hR.append (y := (e.cod.dec s1).1) (cs := seg) hW1 hH hgrow hown hat hcl2
  refine ⟨co'.fr fs (fun he => hbg he.symm) (fun k hk he => hc2b (by rw [hk, he])), hn2, ?_, blk'.put ho v1, row'.fr fs (fun j hj => .inl (by have hj : j = b := hj; omega)), ?_, d3.ne hcq hqlt, hat.ne hvq (by omega)⟩
  · refine ((hf.trans d2 (fun i hi => ?_)).trans fg (fun i hi => .inr (hov i hi))).trans fs (fun i hi => .inl (.inr hi))
    rcases Own.next hn i hi with h1 | h1
    · exact .inl (.inl h1)
    · exact .inr h1
  · have h1 : w2.cell? ⟨w.heap.size, 0, none⟩ = some u := (cell_of_blk (a := ⟨w.heap.size, 0, none⟩) (d2.block w.heap.size (by omega) (fun hS => hS.elim (fun he => by have he : w.heap.size = g := he; omega) hcq))).trans hq
    have h2 : w'.cell? ⟨w.heap.size, 0, none⟩ = some u := (cell_of_blk (a := ⟨w.heap.size, 0, none⟩) (fg.block w.heap.size (by omega) (fun hv => hvq hv))).trans h1
    exact (cell_of_blk (a := ⟨w.heap.size, 0, none⟩) (fs.block w.heap.size (World.block_lt_of_cell? w' _ h2) (fun he => by have he : w.heap.size = b := he; omega))).trans h2
theorem list_more {n k : Nat} {acc : List e.T} {bs' : List UInt8} (hk : k < n) (hne : bs' ≠ []) : listGo e.cod (n - k) acc ⟨bs', false⟩ = listGo e.cod (n - (k + 1)) (acc ++ [(e.cod.dec ⟨bs', false⟩).1]) (e.cod.dec ⟨bs', false⟩).2 := by
  rw [show n - k = (n - (k + 1)) + 1 by omega]
  rw [listGo, if_neg (by simp [hne])]
/-- The struct's own table row. -/
theorem info_small {P : Program} {e : TypeId} {z : Value} {size : Nat} (h : (P.info? e).map (fun i => (i.zero, i.size, decide (i.bytes ≤ 1024))) = some (some z, size, true)) :
    ∃ i, P.info? e = some i ∧ i.zero = some z ∧ i.size = size ∧ i.bytes ≤ 1024 := by
  obtain ⟨i, hi, hzz⟩ := Option.map_eq_some_iff.1 h
  simp only [Prod.mk.injEq, decide_eq_true_eq] at hzz
  exact ⟨i, hi, hzz.1, hzz.2.1, hzz.2.2⟩
theorem bytes_le {al by_ : Nat} (h : by_ ≤ 1024) (ha : al ≤ 68719476736) : (al + 1) * by_ ≤ 140737488355328 :=
  Nat.le_trans (Nat.mul_le_mul (Nat.add_le_add_right ha 1) h) (by decide)
end
end Go.Proofs.Ytlcgkcmicklihaa.Wire
