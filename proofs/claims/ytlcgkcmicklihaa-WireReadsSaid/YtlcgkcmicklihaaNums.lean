/- The contracts of long and nums, reading and writing in one. -/
import Derived.Test.YtlcgkcmicklihaaTy
namespace Go.Proofs.Ytlcgkcmicklihaa.Wire
set_option linter.unusedVariables false
set_option linter.unusedSimpArgs false
open Go.RowKit Go.Proofs.YtlcgkcmicklihaaW.PrintWords Go.Proofs.YtlcgkcmicklihaaW.PrintLast Go.Proofs.YtlcgkcmicklihaaW.PrintMore
theorem codes_long : Codes 80 .int := by
  intro g b T o pre post s c ok x w h ho
  obtain ⟨seg, h1, h2⟩ := h.at_
  have h1' : seg = [.int .i64 x] := h1
  subst h1'
  cases s with
  | rd st =>
    obtain ⟨r, off, cap, hR, rfl⟩ := h.co
    have hx : x = (0 : Int) := h.good
    have hbr : b ≠ r := fun e => h.bc (by rw [e])
    rw [hx] at h2
    refine (long_read hR h2 ho h.bg hbr).mono ?_
    rintro e w' ⟨he, ⟨off', cap', hR'⟩, hP⟩
    exact ⟨he, some r, ⟨r, off', cap', hR', rfl⟩, ⟨_, rfl, hP.blk⟩, hP.fr.mono (fun k hk => hk.imp (fun h => .inl h) (fun h => h)), .inl rfl⟩
  | wr out =>
    obtain ⟨v, hW, rfl⟩ := h.co
    refine (long_write hW h2 ho h.bg h.bc h.good h.f1).mono ?_
    rintro e w' ⟨he, v', hW', hn, hf⟩
    exact ⟨he, v'.ownBlock, ⟨v', hW', rfl⟩, ⟨_, rfl, h2.fr hf (fun hk => hk.elim h.bg h.bc)⟩, hf.mono (fun k hk => .inl hk), hn⟩
/-- A number's cell, by way of a local variable: the variable is lent to the codec, and what it is then is stored. -/
theorem Pre.lend {g b T T2 : Nat} {pre post : List Value} {s : Sg} {c : Option Nat} {ok : Nat → Prop} {x : Int} {w : World} (h : Pre g b T pre post .int s c ok x w) :
    Pre g w.heap.size T2 [] [] .int s c (fun _ => False) x (w.alloc (.cells #[.int .i64 x] T2)) := by
  have hg := h.co.glt
  refine ⟨h.co.below ((Below.refl _ _).alloc (Nat.le_refl _) _), ⟨[.int .i64 x], rfl, ?_⟩, fun _ hk => hk.elim, fun he => by omega, fun he => ?_, h.good, h.f0, h.f1, ?_⟩
  · exact blk_new w _
  · have := (h.co.clt _ he).1
    omega
  · cases s with
    | rd st =>
      have hx : x = (0 : Int) := h.good
      subst hx
      exact blk_new w _
    | wr out => exact trivial
theorem Done.unlend {g b T T2 o : Nat} {pre post : List Value} {s : Sg} {c c' : Option Nat} {ok : Nat → Prop} {x : Int} {w w' : World} (h : Pre g b T pre post .int s c ok x w) (ho : o = pre.length)
    (hd : Done g w.heap.size T2 [] [] .int s c (fun _ => False) x (w.alloc (.cells #[.int .i64 x] T2)) c' w') :
    Done g b T pre post .int s c ok x w c' (w'.setCell ⟨b, o, none⟩ (.int .i64 (s.run cNum x).1)) := by
  obtain ⟨seg, h1, h2⟩ := h.at_
  have h1' : seg = [.int .i64 x] := h1
  subst h1'
  have hd := hd.back (w := w) ((Below.refl _ _).alloc (Nat.le_refl _) _)
  have hb := h2.lt
  have hbc : c' ≠ some b := by
    rcases hd.nx with hn | ⟨k, hn, hl⟩
    · rw [hn]; exact h.bc
    · rw [hn]; intro he; injection he with he; omega
  have hfr : Fr w w' (Own g c) := ⟨hd.fr.os, hd.fr.tape, hd.fr.output, hd.fr.size, fun i hi hn => hd.fr.block i hi (fun hS => hS.elim hn (fun h => by omega))⟩
  have hk : Blk w' b T pre [.int .i64 x] post := h2.fr hfr (fun hk => hk.elim h.bg h.bc)
  have fs : Fr w' (w'.setCell ⟨b, o, none⟩ (.int .i64 (s.run cNum x).1)) (fun k => k = b) := (Fr.refl w' (fun k => k = b)).setCell (p := ⟨b, o, none⟩) (.inl rfl) _
  exact ⟨hd.co.fr fs (fun he => h.bg he.symm) (fun k hk he => hbc (by rw [hk, he])), ⟨_, rfl, hk.put ho _⟩, (hfr.mono (fun k hk => .inl hk)).trans fs (fun i hi => .inl (.inr hi)), hd.nx⟩
/-- n + 1 of a kind, one behind the other. -/
def reps (t : Ty) : Nat → Ty
  | 0 => t
  | n + 1 => .pair t (reps t n)
abbrev ints (n : Nat) : Ty := reps .int n
theorem reps_sz (t : Ty) (ht : t.sz = 1) : ∀ n, (reps t n).sz = n + 1
  | 0 => ht
  | n + 1 => by show t.sz + (reps t n).sz = n + 1 + 1; rw [reps_sz t ht n, ht]; omega
/-- What a row of pointers into block b reads as. -/
def Ptrs (w : World) (q b o n : Nat) : Prop := ∀ i, i ≤ n → w.cell? ⟨q, i, none⟩ = some (.pointer (some ⟨b, o + i, none⟩))
theorem Ptrs.fr {w w' : World} {q b o n : Nat} {S : Nat → Prop} (h : Ptrs w q b o n) (f : Fr w w' S) (hn : ¬ S q) : Ptrs w' q b o n := fun i hi =>
  (cell_of_blk (a := ⟨q, i, none⟩) (f.block q (World.block_lt_of_cell? w _ (h i hi)) hn)).trans (h i hi)
theorem Ptrs.lt {w : World} {q b o n : Nat} (h : Ptrs w q b o n) : q < w.heap.size := World.block_lt_of_cell? w _ (h 0 (Nat.zero_le _))
/-- Behind k of them. -/
def RepsAt (e : Ty) (g b T n : Nat) (pre post : List Value) (s : Sg) (c : Option Nat) (ok : Nat → Prop) (x : (reps e n).T) (w : World) (k : Nat) (c' : Option Nat) (wr : World) : Prop :=
  (k = n + 1 ∧ Done g b T pre post (reps e n) s c ok x w c' wr) ∨
  ∃ (m : Nat) (pre' : List Value) (s' : Sg) (ok' : Nat → Prop) (x' : (reps e m).T), k + m = n ∧ pre'.length = pre.length + k ∧ Pre g b T pre' post (reps e m) s' c' ok' x' wr ∧ ∀ c2 w2, Done g b T pre' post (reps e m) s' c' ok' x' wr c2 w2 → Done g b T pre post (reps e n) s c ok x w c2 w2
theorem RepsAt.start {e : Ty} {g b T n : Nat} {pre post : List Value} {s : Sg} {c : Option Nat} {ok : Nat → Prop} {x : (reps e n).T} {w : World} (h : Pre g b T pre post (reps e n) s c ok x w) : RepsAt e g b T n pre post s c ok x w 0 c w :=
  .inr ⟨n, pre, s, ok, x, by omega, rfl, h, fun _ _ h => h⟩
theorem RepsAt.round {e : Ty} (he : e.sz = 1) {g b T n k : Nat} {pre post : List Value} {s : Sg} {c c' : Option Nat} {ok : Nat → Prop} {x : (reps e n).T} {w wr : World} (h : RepsAt e g b T n pre post s c ok x w k c' wr) (hk : k ≤ n) :
    ∃ (pre' post' : List Value) (s' : Sg) (ok' : Nat → Prop) (y : e.T), pre'.length = pre.length + k ∧ Pre g b T pre' post' e s' c' ok' y wr ∧ ∀ c2 w2, Done g b T pre' post' e s' c' ok' y wr c2 w2 → RepsAt e g b T n pre post s c ok x w (k + 1) c2 w2 := by
  rcases h with ⟨h, _⟩ | ⟨m, pre', s', ok', x', hm, hl, hP, hD⟩
  · omega
  · cases m with
    | zero => exact ⟨pre', post, s', ok', x', hl, hP, fun c2 w2 hd => .inl ⟨by omega, hD c2 w2 hd⟩⟩
    | succ m =>
      obtain ⟨post', hP1, hS⟩ := Pre.split (a := e) (e := reps e m) hP
      refine ⟨pre', post', s', ok', x'.1, hl, hP1, fun c2 w2 hd => ?_⟩
      obtain ⟨pre2, hl2, hP2, hD2⟩ := hS c2 w2 hd
      refine .inr ⟨m, pre2, _, _, _, by omega, ?_, hP2, fun c3 w3 hd3 => hD c3 w3 (hD2 c3 w3 hd3)⟩
      rw [hl2, hl, he]
      omega
theorem RepsAt.done {e : Ty} {g b T n : Nat} {pre post : List Value} {s : Sg} {c c' : Option Nat} {ok : Nat → Prop} {x : (reps e n).T} {w wr : World} (h : RepsAt e g b T n pre post s c ok x w (n + 1) c' wr) : Done g b T pre post (reps e n) s c ok x w c' wr := by
  rcases h with ⟨_, h⟩ | ⟨m, pre', s', ok', x', hm, _⟩
  · exact h
  · omega
theorem Next.ne {w : World} {c c' : Option Nat} {q : Nat} (h : Next w c c') (hc : c ≠ some q) (hq : q < w.heap.size) : c' ≠ some q := by
  rcases h with rfl | ⟨k, rfl, hk⟩
  · exact hc
  · intro he
    injection he with he
    omega
theorem Pre.cell_int {g b T o : Nat} {pre post : List Value} {s : Sg} {c : Option Nat} {ok : Nat → Prop} {x : Int} {w : World} (h : Pre g b T pre post .int s c ok x w) (ho : o = pre.length) : w.cell? ⟨b, o, none⟩ = some (.int .i64 x) := by
  obtain ⟨seg, h1, h2⟩ := h.at_
  have h1' : seg = [.int .i64 x] := h1
  subst h1'
  exact h2.cell ho
theorem Pre.free {g b T : Nat} {pre post : List Value} {t : Ty} {s : Sg} {c : Option Nat} {ok : Nat → Prop} {x : t.T} {w : World} (h : Pre g b T pre post t s c ok x w) (o : Nat) : w.frozen? ⟨b, o, none⟩ = false := by
  obtain ⟨seg, h1, h2⟩ := h.at_
  exact h2.free o
theorem Done.cell_int {g b T o : Nat} {pre post : List Value} {s : Sg} {c c' : Option Nat} {ok : Nat → Prop} {x : Int} {w w' : World} (h : Done g b T pre post .int s c ok x w c' w') (ho : o = pre.length) : w'.cell? ⟨b, o, none⟩ = some (.int .i64 (s.run cNum x).1) := by
  obtain ⟨seg, h1, h2⟩ := h.at_
  have h1' : seg = [.int .i64 (s.run cNum x).1] := h1
  subst h1'
  exact h2.cell ho
theorem Done.lent {g b T T2 o : Nat} {pre post : List Value} {s : Sg} {c c' : Option Nat} {ok : Nat → Prop} {x : Int} {w w' : World} (h : Pre g b T pre post .int s c ok x w) (ho : o = pre.length)
    (hd : Done g w.heap.size T2 [] [] .int s c (fun _ => False) x (w.alloc (.cells #[.int .i64 x] T2)) c' w') :
    w'.cell? ⟨b, o, none⟩ = some (.int .i64 x) ∧ w'.frozen? ⟨b, o, none⟩ = false ∧ w'.cell? ⟨w.heap.size, 0, none⟩ = some (.int .i64 (s.run cNum x).1) := by
  obtain ⟨seg, h1, h2⟩ := h.at_
  have h1' : seg = [.int .i64 x] := h1
  subst h1'
  have hb := h2.lt
  have f : Fr w w' (fun k => Own g c k ∨ k = w.heap.size) := (Fr.of_below ((Below.refl _ _).alloc (Nat.le_refl _) _) (fun k => Own g c k ∨ k = w.heap.size)).trans hd.fr (fun i hi => .inl hi)
  have hk := h2.fr f (fun hk => by
    rcases hk with (hk | hk) | hk
    · exact h.bg hk
    · exact h.bc hk
    · omega)
  exact ⟨hk.cell ho, hk.free o, hd.cell_int rfl⟩
theorem Done.size {g b T : Nat} {pre post : List Value} {t : Ty} {s : Sg} {c c' : Option Nat} {ok : Nat → Prop} {x : t.T} {w w' : World} (h : Done g b T pre post t s c ok x w c' w') : w.heap.size ≤ w'.heap.size := h.fr.size
set_option maxRecDepth 100000 in
set_option maxHeartbeats 2000000 in
theorem nums_calls {g b T o n q : Nat} {pre post : List Value} {s : Sg} {c : Option Nat} {ok : Nat → Prop} {x : (ints n).T} {w : World} (h : Pre g b T pre post (ints n) s c ok x w) (ho : o = pre.length)
    (hq : Ptrs w q b o n) (hqg : q ≠ g) (hqb : q ≠ b) (hqc : c ≠ some q) (hn : n ≤ 1000) :
    Calls Try.prog 53 #[.pointer (some ⟨g, 0, none⟩), .slice (some ⟨q, 0, none⟩) (n + 1) (n + 1)] w fun e w' => e = .returned (.tuple #[]) ∧ ∃ c', Done g b T pre post (ints n) s c ok x w c' w' := by
  have H0 := Lib.hid h
  have HO := Lib.hid ho
  have HQ := Lib.hid hq
  have HQC := Lib.hid hqc
  clear h ho hq hqc
  go_enter Try.func53, Try.ntmps53
  go_wp2_with fail
  go_loopw [9] (fun v9 wr => ∃ (k : Nat) (c' : Option Nat), v9 = .int .i64 (k : Int) ∧ k ≤ n + 1 ∧ RepsAt .int g b T n pre post s c ok x w k c' wr ∧ Ptrs wr q b o n ∧ c' ≠ some q) (fun v9 _ => n + 1 - (intOf v9).toNat)
  case atStart => exact ⟨0, c, rfl, by omega, RepsAt.start H0.out, HQ.out, HQC.out⟩
  case round =>
    obtain ⟨k, c', rfl, hk, hN, hP, hcq⟩ := hrel
    have HN := Lib.hid hN
    have HP := Lib.hid hP
    have HCQ := Lib.hid hcq
    by_cases hlt : k ≤ n
    · obtain ⟨pre', post', s', ok', y, hl, hPre, hNext⟩ := hN.round rfl hlt
      have hcp := hP k hlt
      have hcy := hPre.cell_int (o := o + k) (by rw [hl, HO.out])
      clear hN hP hcq
      have HL := Lib.hid hl
      have HR := Lib.hid hPre
      have HNX := Lib.hid hNext
      clear hl hPre hNext
      go_wp2_with fail
      refine (codes_long (HR.out.lend (T2 := 2)) rfl).mono ?_
      rintro e w1 ⟨rfl, c1, hd⟩
      obtain ⟨k0, k1, k2⟩ := hd.lent HR.out (o := o + k) (by rw [HL.out, HO.out])
      have HD := Lib.hid (Done.unlend HR.out (o := o + k) (by rw [HL.out, HO.out]) hd)
      clear hd
      go_wp2_with fail
      go_roundw
      case rel =>
        have hq := HP.out.lt
        refine ⟨k + 1, c1, by go_num, by omega, HNX.out _ _ HD.out, HP.out.fr HD.out.fr (fun hk => ?_), HD.out.nx.ne HCQ.out hq⟩
        rcases hk with (hk | hk) | hk
        · exact hqg hk
        · exact HCQ.out hk
        · exact hqb hk
      case measure => simp [intOf]; omega
    · obtain rfl : k = n + 1 := by omega
      clear hN hP hcq
      go_wp2_with fail
      go_end0
      exact ⟨rfl, c', HN.out.done⟩
end Go.Proofs.Ytlcgkcmicklihaa.Wire
