/- The law StripPuts over numbers and lists: for every payload of at most 2^47 - 4096 bytes the program's record, or refusal, is the reference's. -/
import Derived.Test.YtcpokaglofopbaaLinkC
namespace Go.Proofs.Ytcpokaglofopbaa.Pure
open Go.RowKit Go.Proofs.Ytcpokaglofopbaa.PAll Go.Proofs.YtcpokaglofopbaaW.PrintWords Go.Proofs.YtcpokaglofopbaaW.PrintLast Go.Proofs.Ytcpokaglofopbaa.Link

theorem StripPuts : lintellaw03_StripPuts.Pure := by
  intro p hp
  refine Ev.rounds (r := true) ?_
  unfold lintellaw03_StripPuts.f
  refine Ev.bind (f := fun k (x : ByteArray × Int) => (lintelref03_Put.f k p).bind fun y => ((lintellaw03_awake.f k).bind fun t => (if t = true then (if x.1.toList = y.1.toList then (some (x.2 == y.2)) else (some false)) else (some false)))) (put_go p) ?_
  refine Ev.bind (f := fun k (y : ByteArray × Int) => (lintellaw03_awake.f k).bind fun t => (if t = true then (if (putAns p).1.toList = y.1.toList then (some ((putAns p).2 == y.2)) else (some false)) else (some false))) (put_ref p) ?_
  refine Ev.bind (f := fun k (t : Bool) => (if t = true then (if (putAns p).1.toList = (putAns p).1.toList then (some ((putAns p).2 == (putAns p).2)) else (some false)) else (some false))) awake_go ?_
  refine Ev.congr (fun k => by rw [if_pos (by trivial), if_pos (by trivial), beq_self_eq_true]) (Ev.now _)

end Go.Proofs.Ytcpokaglofopbaa.Pure
