/- Loads of structs of many cells: whole, without a word for each cell. -/
import Derived.Test.YtlcgkcmicklihaaPut
namespace Go.Proofs.Ytlcgkcmicklihaa.Wire
set_option linter.unusedVariables false
set_option linter.unusedSimpArgs false
open Go.RowKit Go.Proofs.YtlcgkcmicklihaaW.PrintWords Go.Proofs.YtlcgkcmicklihaaW.PrintLast Go.Proofs.YtlcgkcmicklihaaW.PrintMore
/-- A load of a whole struct, whatever its cells, is what they hold. -/
theorem load_cells {P : Program} {w : World} {t : TypeId} {a0 : Addr} {c : List Value} {fs : Array Field} (hu : P.underlying t = some (.struct fs)) (hi : (P.info? t).map (·.size) = some c.length) (hg : ∀ j v, c[j]? = some v → w.cell? (a0.add j) = some v) :
    (Instr.loadAt t (.pointer (some a0))).run P w = .ok (.agg c.toArray) w := by
  have hl := run_loadCells_list (P := P) w a0 c hg
  cases hq : P.info? t with
  | none => simp [hq] at hi
  | some i =>
    have hs : i.size = c.length := by simpa [hq] using hi
    simp [Instr.loadAt, Instr.sureAddr, loadVar, isAgg, run_underlying hu, sizeOf, typeInfo, hq, hs, hl, Result.andThen]
/-- A whole struct, out of cells that are known as a list. -/
theorem wpList_load_cells {P : Program} {ops : Array Oper} {rest : List Oper} {o : Oper} {a : Act} {Q : Exit → Act → World → Prop} {w : World} {a0 : Addr} {c : List Value} {t : TypeId} {fs : Array Field} (hgd : o.guard = none) (p : Operand) (ho : o.op = .load t p)
    (hp : a.eval p = .pointer (some a0)) (hu : P.underlying t = some (.struct fs)) (hi : (P.info? t).map (·.size) = some c.length) (hg : ∀ j v, c[j]? = some v → w.cell? (a0.add j) = some v)
    (h : wpList P ops Q rest (a.put o.dst (.agg c.toArray)) w) : wpList P ops Q (o :: rest) a w := by
  refine wpList_plain hgd fun K hK => ?_
  unfold Oper.wp execOp
  simp only [ho, Sem.run_bind, Sem.run_pure, Result.andThen_ok, hp, load_cells hu hi hg]
  exact hK _ _ h
/-- The same, of an operation that hangs on another one. -/
theorem wpList_load_wholeG {P : Program} {ops : Array Oper} {rest : List Oper} {o : Oper} {a : Act} {Q : Exit → Act → World → Prop} {w : World} {g : Nat} {c : Array Value} {t : TypeId} {fs : Array Field} (hw : Region.wanted o (yielded ops a.tmps) = true) (p : Operand) (ho : o.op = .load t p)
    (hp : a.eval p = .pointer (some ⟨g, 0, none⟩)) (hu : P.underlying t = some (.struct fs)) (hi : (P.info? t).map (·.size) = some c.size) (hg : w.heap[g]? = some (.cells c t (0, 0)))
    (h : wpList P ops Q rest (a.put o.dst (.agg c)) w) : wpList P ops Q (o :: rest) a w := by
  refine wpList_step fun K hK => ?_
  rw [if_pos hw]
  exact wp_load_row t p ho g hp t c (0, 0) _ hg hu rfl hi (hK _ _ h)
/-- What a function returns out of a struct of its own and a temporary. -/
theorem results_cell_tmp {P : Program} {fn : Func} {p q : Tmp} {t : TypeId} {cs : Array Value} (h : fn.results = #[.cell p t, .tmp q]) (tmps : Array Value) (w : World) (g : Nat) (v : Value) (hp : tmps.getD p undef = .pointer (some ⟨g, 0, none⟩)) (hg : w.heap[g]? = some (.cells cs t (0, 0)))
    {d : TypeDesc} (hu : P.underlying t = some d) (hd : (match d with | .struct _ | .array _ _ => true | _ => false) = true) (hi : (P.info? t).map (·.size) = some cs.size) (hq : tmps.getD q undef = v) : (results fn tmps).run P w = .ok (.tuple #[.agg cs, v]) w := by
  have hp' : tmps[p]?.getD undef = .pointer (some ⟨g, 0, none⟩) := by simpa using hp
  have hq' : tmps[q]?.getD undef = v := by simpa using hq
  simp [results, h, hp', hq', asAddr, run_loadVar_row w g t t cs (0, 0) d hg hu hd hi]
end Go.Proofs.Ytlcgkcmicklihaa.Wire
