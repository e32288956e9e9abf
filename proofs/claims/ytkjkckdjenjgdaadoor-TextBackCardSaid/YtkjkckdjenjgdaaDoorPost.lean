/- The last step of a law's row, of whatever arguments: a call behind which all that lay there lies as it did, and that hands back true. -/
import Derived.Test.YtkjkckdjenjgdaaDoorRows
import Derived.Below
import Derived.ChangeSame
import Derived.ProofKit
import Derived.OpenShut
import Derived.ShutString
import Derived.LaidMore
import Derived.Stop.Joined
namespace Go.Proofs.YtkjkckdjenjgdaaDoor
open Go.ChangeShapes Go.WideShapes Go.ChangeAt Go.RowKit

theorem own : ownKnob Tryd.prog.godebug = none := by kernel_rfl
theorem bool_shut {H : Type} {enc : TypeId × Value → H} {w : World} {b : Nat} {sp : Nat → Bool} {hd : Bool} : DataW.TrodAll enc Tryd.prog w b sp hd [4] [.bool true] [.lit (.bool true)] [] :=
  trodAll_mk1 (shut_bool Tryd.underlying4 _)
/-- What is to be shown of the world behind the call. -/
theorem law_post {H : Type} {enc : TypeId × Value → H} {f : Func} {s : ChangeSpec} {W W' : World} {args : Array Value} {ds : List (DataW H)} {before : List MemPlace}
    (hs : s.vars = []) (hfn : s.fn H ds = { results := [.lit (.bool true)], args := ds }) (hft : f.resultTypes = #[4])
    (hW : DataW.Whole enc Tryd.prog f.params.toList s.vars false W args.toList ds [] before)
    (hargs : ∀ sp : Nat → Bool, (∀ p ∈ before, sp p.block = true) → DataW.TrodAll enc Tryd.prog W' 0 sp true f.params.toList args.toList ds before)
    (hb : Below W.heap.size W W') : s.post enc Tryd.prog f false true false false W args (.bool true) W' := by
  have hin : ∀ p ∈ before, decide (p.block < W.heap.size) = true := fun p hp => decide_eq_true (hW.lt p hp)
  have e : ds ++ [] = ds := List.append_nil ds
  refine ⟨ds, [], before, [], before, [], hW, ?_, ?_, ?_, ?_, fun h => nomatch h⟩
  · rw [e, hfn, hft]
    exact bool_shut
  · rw [e, hfn]
    exact hargs _ hin
  · rw [e, hfn, hs]
    rfl
  · exact World.keptBut_mono (fun p hp => ⟨hp, .inr (.inl hp)⟩) (hb.frame (· ∈ before))
end Go.Proofs.YtkjkckdjenjgdaaDoor
