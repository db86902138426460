/- The contracts of why and flag. -/
import Derived.Test.YtlcgkcmicklihaaNums
namespace Go.Proofs.Ytlcgkcmicklihaa.Wire
set_option linter.unusedVariables false
set_option linter.unusedSimpArgs false
open Go.RowKit Go.Proofs.YtlcgkcmicklihaaW.PrintWords Go.Proofs.YtlcgkcmicklihaaW.PrintLast Go.Proofs.YtlcgkcmicklihaaW.PrintMore
/-- A local number, lent to the codec. -/
theorem Co.lend {g T2 : Nat} {s : Sg} {c : Option Nat} {y : Int} {w : World} (h : Co g s c w) (hy : s.good .int y) (f0 : s.fit) (f1 : (s.run cNum y).2.fit) :
    Pre g w.heap.size T2 [] [] .int s c (fun _ => False) y (w.alloc (.cells #[.int .i64 y] T2)) := by
  have hg := h.glt
  refine ⟨h.below ((Below.refl _ _).alloc (Nat.le_refl _) _), ⟨[.int .i64 y], rfl, ?_⟩, fun _ hk => hk.elim, fun he => by omega, fun he => ?_, hy, f0, f1, ?_⟩
  · exact blk_new w _
  · have := (h.clt _ he).1
    omega
  · cases s with
    | rd st =>
      have hx : y = (0 : Int) := hy
      subst hx
      exact blk_new w _
    | wr out => exact trivial
/-- One pointer. -/
theorem Ptrs.one {w : World} {b o T : Nat} : Ptrs (w.alloc (.cells #[.pointer (some ⟨b, o, none⟩)] T)) w.heap.size b o 0 := fun i hi => by
  obtain rfl : i = 0 := by omega
  exact (blk_cell (blk_new w _) 0).trans rfl
/-- A local number through nums. -/
theorem num_calls {g T2 T3 : Nat} {s : Sg} {c : Option Nat} {y : Int} {w : World} (h : Co g s c w) (hy : s.good .int y) (f0 : s.fit) (f1 : (s.run cNum y).2.fit) :
    Calls Try.prog 53 #[.pointer (some ⟨g, 0, none⟩), .slice (some ⟨w.heap.size + 1, 0, none⟩) 1 1] ((w.alloc (.cells #[.int .i64 y] T2)).alloc (.cells #[.pointer (some ⟨w.heap.size, 0, none⟩)] T3))
      fun e w' => e = .returned (.tuple #[]) ∧ ∃ c', Done g w.heap.size T2 [] [] .int s c (fun _ => False) y (w.alloc (.cells #[.int .i64 y] T2)) c' w' := by
  have hg := h.glt
  have hP := h.lend (T2 := T2) hy f0 f1
  have hs : (w.alloc (.cells #[.int .i64 y] T2)).heap.size = w.heap.size + 1 := by simp
  have hb : Below (w.alloc (.cells #[.int .i64 y] T2)).heap.size (w.alloc (.cells #[.int .i64 y] T2)) ((w.alloc (.cells #[.int .i64 y] T2)).alloc (.cells #[.pointer (some ⟨w.heap.size, 0, none⟩)] T3)) := (Below.refl _ _).alloc (Nat.le_refl _) _
  have hq := Ptrs.one (w := w.alloc (.cells #[.int .i64 y] T2)) (b := w.heap.size) (o := 0) (T := T3)
  rw [hs] at hq
  refine (nums_calls (n := 0) (hP.below hb) rfl hq (by omega) (by omega) (fun he => by have := (h.clt _ he).1; omega) (by omega)).mono ?_
  rintro e w' ⟨he, c', hd⟩
  exact ⟨he, c', Done.back hb hd⟩
theorem Pre.holds {g b T : Nat} {pre post : List Value} {t : Ty} {s : Sg} {c : Option Nat} {ok : Nat → Prop} {x : t.T} {w : World} (h : Pre g b T pre post t s c ok x w) : ∃ seg, Holds w ok t x seg ∧ Blk w b T pre seg post := h.at_
theorem Pre.cell_bool {g b T o : Nat} {pre post : List Value} {s : Sg} {c : Option Nat} {ok : Nat → Prop} {x : Bool} {w : World} (h : Pre g b T pre post .bool s c ok x w) (ho : o = pre.length) : w.cell? ⟨b, o, none⟩ = some (.bool x) := by
  obtain ⟨seg, h1, h2⟩ := h.at_
  have h1' : seg = [.bool x] := h1
  subst h1'
  exact h2.cell ho
/-- The target's block is as it was, where the codec alone was turned. -/
theorem Pre.kept {g b T : Nat} {pre post : List Value} {t : Ty} {s : Sg} {c : Option Nat} {ok : Nat → Prop} {x : t.T} {w w1 : World} (h : Pre g b T pre post t s c ok x w) (f : Fr w w1 (Own g c)) (o : Nat) :
    w1.cell? ⟨b, o, none⟩ = w.cell? ⟨b, o, none⟩ ∧ w1.frozen? ⟨b, o, none⟩ = false := by
  obtain ⟨seg, h1, h2⟩ := h.at_
  have hn : ¬ Own g c b := fun hk => hk.elim h.bg h.bc
  exact ⟨cell_of_blk (a := ⟨b, o, none⟩) (f.block b h2.lt hn), (h2.fr f hn).free o⟩
set_option maxRecDepth 100000 in
set_option maxHeartbeats 2000000 in
theorem codes_why : Codes 71 .int := by
  intro g b T o pre post s c ok x w h ho
  have hc := h.cell_int ho
  have H := Lib.hid h
  have HO := Lib.hid ho
  clear h ho
  go_enter Try.func71, Try.ntmps71
  go_wp2_with fail
  refine (num_calls H.out.co H.out.good H.out.f0 H.out.f1).mono ?_
  rintro e w1 ⟨rfl, c1, hd⟩
  obtain ⟨k0, k1, k2⟩ := hd.lent H.out HO.out
  have HD := Lib.hid (Done.unlend H.out HO.out hd)
  clear hd
  go_wp2_with fail
  go_end0
  exact ⟨rfl, c1, HD.out⟩
/-- What num_calls leaves, beside a block that is none of the codec's. -/
theorem Done.beside {g T2 : Nat} {s : Sg} {c c' : Option Nat} {y : Int} {w w' : World} (hd : Done g w.heap.size T2 [] [] .int s c (fun _ => False) y (w.alloc (.cells #[.int .i64 y] T2)) c' w') :
    Co g (s.run cNum y).2 c' w' ∧ Fr w w' (Own g c) ∧ Next w c c' ∧ w'.cell? ⟨w.heap.size, 0, none⟩ = some (.int .i64 (s.run cNum y).1) ∧ w'.frozen? ⟨w.heap.size, 0, none⟩ = false := by
  have hd := hd.back (w := w) ((Below.refl _ _).alloc (Nat.le_refl _) _)
  have hfr : Fr w w' (Own g c) := ⟨hd.fr.os, hd.fr.tape, hd.fr.output, hd.fr.size, fun i hi hn => hd.fr.block i hi (fun hS => hS.elim hn (fun h => by omega))⟩
  obtain ⟨seg, h1, h2⟩ := hd.at_
  exact ⟨hd.co, hfr, hd.nx, hd.cell_int rfl, h2.free 0⟩
theorem Co.rd {g : Nat} {st : St} {c : Option Nat} {w : World} (h : Co g (.rd st) c w) : ∃ r off cap, Rd g r off cap st w ∧ c = some r := h
theorem Co.wr {g : Nat} {out : List UInt8} {c : Option Nat} {w : World} (h : Co g (.wr out) c w) : ∃ v, Wr g v out w ∧ c = v.ownBlock := h
theorem Done.flag {g b T o : Nat} {pre post : List Value} {s s1 : Sg} {c c1 : Option Nat} {ok : Nat → Prop} {x v : Bool} {w w1 w2 : World} (h : Pre g b T pre post .bool s c ok x w) (ho : o = pre.length)
    (hf : Fr w w1 (Own g c)) (hn : Next w c c1) (hc : Co g s1 c1 (w1.setCell ⟨b, o, none⟩ (.bool v)) → Co g (s.run cFlag x).2 c1 w2) (hc1 : Co g s1 c1 w1) (hw : Fr (w1.setCell ⟨b, o, none⟩ (.bool v)) w2 (fun k => k = g)) (hv : (s.run cFlag x).1 = v) :
    Done g b T pre post .bool s c ok x w c1 w2 := by
  obtain ⟨seg, h1, h2⟩ := h.at_
  have h1' : seg = [.bool x] := h1
  subst h1'
  have hk := (h2.fr hf (fun hk => hk.elim h.bg h.bc)).put ho (.bool v)
  have fs : Fr w1 (w1.setCell ⟨b, o, none⟩ (.bool v)) (fun k => k = b) := (Fr.refl w1 (fun k => k = b)).setCell (p := ⟨b, o, none⟩) (.inl rfl) _
  have hbc := hn.ne h.bc h2.lt
  have hco := hc1.fr fs (fun he => h.bg he.symm) (fun k hk he => hbc (by rw [hk, he]))
  subst hv
  refine ⟨hc hco, ⟨_, rfl, hk.fr hw h.bg⟩, ((hf.mono (fun k hk => .inl hk)).trans fs (fun i hi => .inl (.inr hi))).trans hw (fun i hi => .inl (.inl (.inl hi))), hn⟩
theorem Wr.mark {g : Nat} {v : Value} {out : List UInt8} {w : World} (h : Wr g v out w) : Wr g v out (w.setCell ⟨g, 2, none⟩ (.bool false)) :=
  ⟨blk_put h.blk 2 _ rfl, ((Fr.refl w (fun k => k = g)).setCell (p := ⟨g, 2, none⟩) (.inl rfl) _).own h.own (fun k hk he => h.ne (by rw [hk, he])), h.ne⟩
theorem mark_flag {g r off cap : Nat} {st : St} {c : Option Nat} {w : World} {b : Bool} (h : Rd g r off cap (cNum.dec st).2 w) (hc : c = some r) (hb : b = ((rdNum 0 st).2.bad || decide ((rdNum 0 st).1 < 0) || decide (1 < (rdNum 0 st).1))) :
    Co g (Sg.run cFlag (.rd st) false).2 c (w.setCell ⟨g, 2, none⟩ (.bool b)) := by
  subst hb
  exact ⟨r, off, cap, h.mark _, hc⟩
set_option maxRecDepth 100000 in
set_option maxHeartbeats 2000000 in
theorem codes_flag : Codes 54 .bool := by
  intro g b T o pre post s c ok x w h ho
  have hc := h.cell_bool ho
  have hlt := h.blt
  cases s with
  | rd st =>
    have hx : x = false := h.good
    subst hx
    have hco := h.co
    have hg := h.bg
    have hfit := h.f0
    have H := Lib.hid h
    have HO := Lib.hid ho
    clear h ho
    go_enter Try.func54, Try.ntmps54
    go_wp2_with fail
    refine (num_calls (y := 0) H.out.co rfl H.out.f0 (Nat.le_trans (rdNum_le 0 st) hfit)).mono ?_
    rintro e w1 ⟨rfl, c1, hd⟩
    obtain ⟨q1, q2, q3, k2, _⟩ := hd.beside
    clear hd
    obtain ⟨k0, k1⟩ := H.out.kept q2 o
    rw [hc] at k0
    obtain ⟨r, off, cap, hR, rfl⟩ := q1.rd
    have c2 := hR.c2
    have f2 := hR.free 2
    have Q2 := Lib.hid q2
    have Q3 := Lib.hid q3
    have HR := Lib.hid hR
    have hgo : g ≠ b := fun e => hg e.symm
    clear q1 q2 q3 hR hco hc
    have e1 : (Sg.run cNum (Sg.rd st) 0).1 = (rdNum 0 st).1 := rfl
    rw [e1] at k2
    go_wp2_with fail
    all_goals
      go_end0
      refine ⟨rfl, some r, Done.flag (s1 := .rd (cNum.dec st).2) H.out HO.out Q2.out Q3.out (fun hco => ?_) ⟨r, off, cap, HR.out, rfl⟩ ((Fr.refl _ (fun k => k = g)).setCell (p := ⟨g, 2, none⟩) (.inl rfl) _) rfl⟩
      obtain ⟨r', off', cap', hR', he⟩ := hco.rd
      refine mark_flag hR' he ?_
      first
        | (have hb : (rdNum 0 st).2.bad = true := ‹(cNum.dec st).2.bad = true›
           simp [hb]
           done)
        | (have hb : (rdNum 0 st).2.bad = false := Bool.eq_false_iff.2 ‹¬ (cNum.dec st).2.bad = true›
           simp [hb]
           try omega
           done)
  | wr out =>
    have hco := h.co
    have hg := h.bg
    have hfit := h.f1
    have H := Lib.hid h
    have HO := Lib.hid ho
    clear h ho
    cases x
    · go_enter Try.func54, Try.ntmps54
      go_wp2_with fail
      refine (num_calls (y := 0) H.out.co fits0 H.out.f0 hfit).mono ?_
      rintro e w1 ⟨rfl, c1, hd⟩
      obtain ⟨q1, q2, q3, k2, _⟩ := hd.beside
      clear hd
      obtain ⟨k0, k1⟩ := H.out.kept q2 o
      rw [hc] at k0
      obtain ⟨v, hW, rfl⟩ := q1.wr
      have c2 := hW.c2
      have f2 := hW.free 2
      have Q2 := Lib.hid q2
      have Q3 := Lib.hid q3
      have HW := Lib.hid hW
      have hgo : g ≠ b := fun e => hg e.symm
      clear q1 q2 q3 hW hco hc
      have e1 : (Sg.run cNum (Sg.wr out) 0).1 = 0 := rfl
      rw [e1] at k2
      clear e1
      go_wp2_with fail
      go_end0
      refine ⟨rfl, v.ownBlock, Done.flag (s1 := .wr (out ++ cNum.enc 0)) H.out HO.out Q2.out Q3.out (fun hco => ?_) ⟨v, HW.out, rfl⟩ ((Fr.refl _ (fun k => k = g)).setCell (p := ⟨g, 2, none⟩) (.inl rfl) _) rfl⟩
      obtain ⟨v', hW', he⟩ := hco.wr
      exact ⟨v', hW'.mark, he⟩
    · go_enter Try.func54, Try.ntmps54
      go_wp2_with fail
      refine (num_calls (y := 1) H.out.co ⟨by decide, by decide⟩ H.out.f0 hfit).mono ?_
      rintro e w1 ⟨rfl, c1, hd⟩
      obtain ⟨q1, q2, q3, k2, _⟩ := hd.beside
      clear hd
      obtain ⟨k0, k1⟩ := H.out.kept q2 o
      rw [hc] at k0
      obtain ⟨v, hW, rfl⟩ := q1.wr
      have c2 := hW.c2
      have f2 := hW.free 2
      have Q2 := Lib.hid q2
      have Q3 := Lib.hid q3
      have HW := Lib.hid hW
      have hgo : g ≠ b := fun e => hg e.symm
      clear q1 q2 q3 hW hco hc
      have e1 : (Sg.run cNum (Sg.wr out) 1).1 = 1 := rfl
      rw [e1] at k2
      clear e1
      go_wp2_with fail
      go_end0
      refine ⟨rfl, v.ownBlock, Done.flag (s1 := .wr (out ++ cNum.enc 1)) H.out HO.out Q2.out Q3.out (fun hco => ?_) ⟨v, HW.out, rfl⟩ ((Fr.refl _ (fun k => k = g)).setCell (p := ⟨g, 2, none⟩) (.inl rfl) _) rfl⟩
      obtain ⟨v', hW', he⟩ := hco.wr
      exact ⟨v', hW'.mark, he⟩
end Go.Proofs.Ytlcgkcmicklihaa.Wire
