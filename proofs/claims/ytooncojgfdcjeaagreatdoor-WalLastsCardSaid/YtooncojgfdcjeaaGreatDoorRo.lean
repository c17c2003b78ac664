/- What a walk over owned blocks says of a call, for the rows of this seat; the witnesses' start. No condition. -/
import Derived.Test.YtooncojgfdcjeaaGreatDoorRl
import Derived.Test.YtooncojgfdcjeaaGreatDoorRows
import Derived.ProofKit
import Derived.OpenShut
import Derived.LaidMore
import Derived.Lay
import Derived.ChangeMaps5
import Derived.Carry
import Derived.Stop.Joined
namespace Go.Proofs.YtooncojgfdcjeaaGreatDoor
open Go.ChangeShapes Go.WideShapes Go.ChangeAt Go.RowKit Go.Sep

theorem own : ownKnob Tryz.prog.godebug = none := by kernel_rfl
/-- A walk that owns nothing: the call answers so, and what was there stays. -/
theorem calls_of {f : FuncId} {args : Array Value} {v : Value} {W : World} (h : ∀ C : Ctx, FnT Tryz.prog C f args [] (fun r L => r = v ∧ L = [])) :
    Calls Tryz.prog f args W fun e W' => e = .returned v ∧ Below W.heap.size W W' := by
  refine (h ⟨W.heap.size, W⟩ W [] ⟨Below.refl _ _, Nat.le_refl _, by simp, by simp⟩).mono ?_
  rintro e W' ⟨r, L, rfl, ho, rfl, _⟩
  exact ⟨rfl, ho.low⟩
theorem str_data (s : ByteArray) : str s.data.toList = .string s := by cases s; rfl
end Go.Proofs.YtooncojgfdcjeaaGreatDoor
