/- The law StripSums over numbers and lists: for every text of at most 2^47 - 4096 bytes the program's sum is the reference's. -/
import Derived.Test.YtcpokaglofopbaaLinkC
namespace Go.Proofs.Ytcpokaglofopbaa.Pure
open Go.RowKit Go.Proofs.Ytcpokaglofopbaa.PAll Go.Proofs.YtcpokaglofopbaaW.PrintWords Go.Proofs.YtcpokaglofopbaaW.PrintLast Go.Proofs.Ytcpokaglofopbaa.Link

theorem StripSums : lintellaw03_StripSums.Pure := by
  intro s hs
  refine Ev.rounds (r := true) ?_
  unfold lintellaw03_StripSums.f
  refine Ev.bind (f := fun k (t : Bool) => if t = true then ((strip_Sum.f k s).bind fun t126 => ((lintelref03_Sum.f k s).bind fun t127 => (some (t126 == t127)))) else (some false)) awake_go ?_
  refine Ev.congr (fun k => if_pos rfl) ?_
  refine Ev.bind (f := fun k (t126 : Int) => (lintelref03_Sum.f k s).bind fun t127 => (some (t126 == t127))) (sum_go s (by omega)) ?_
  refine Ev.bind (f := fun k (t127 : Int) => some (N (Crc.crc s.data.toList) == t127)) (sum_ref s (by omega)) ?_
  rw [beq_self_eq_true]
  exact Ev.now _

end Go.Proofs.Ytcpokaglofopbaa.Pure
