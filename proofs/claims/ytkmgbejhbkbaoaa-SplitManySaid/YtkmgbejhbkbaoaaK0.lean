/- A law's last step: what a call leaves that has only made new blocks. -/
import Derived.Test.YtkmgbejhbkbaoaaL0
import Derived.Test.YtkmgbejhbkbaoaaRows
import Derived.ProofKit
import Derived.OpenShut
import Derived.ChangeSame
namespace Go.Proofs.Ytkmgbejhbkbaoaa
set_option linter.unusedSimpArgs false
set_option linter.unusedVariables false
open Go.ChangeShapes Go.WideShapes Go.ChangeAt Go.RowKit

theorem own : ownKnob Try.prog.godebug = none := by kernel_rfl
section
variable {H : Type} {enc : TypeId × Value → H} {P : Program}
/-- the world has new blocks; what was there is as it was -/
theorem post_ext {f : Func} {s : ChangeSpec} {apart fresh handsOn again : Bool} {W W' : World} {args : Array Value} {v : Value} {ds gs : List (DataW H)} {mem pa pv : List MemPlace} (hx : Ext [] W W')
    (hw : DataW.Whole enc P f.params.toList s.vars apart W args.toList ds gs mem) (hsplit : mem = pa ++ pv)
    (hr : ∀ (b : Nat) (sp : Nat → Bool) (hd : Bool), DataW.TrodAll enc P W' b sp hd f.resultTypes.toList (v.resultList f.resultTypes.size) (s.fn H (ds ++ gs)).results [])
    (ha : ∀ sp : Nat → Bool, (∀ p ∈ mem, sp p.block = true) → DataW.TrodAll enc P W' 0 sp true f.params.toList args.toList (s.fn H (ds ++ gs)).args pa)
    (hv : ∀ sp : Nat → Bool, (∀ p ∈ mem, sp p.block = true) → DataW.TrodVars enc P W' sp s.vars (s.fn H (ds ++ gs)).vars pv)
    (hok : ∀ (j : Nat) (t : TypeId) (r : Value), f.resultTypes[j]? = some t → (v.resultList f.resultTypes.size)[j]? = some r → Value.okWide P W' .any 0 t r) :
    s.post enc P f apart fresh handsOn again W args v W' := by
  subst hsplit
  have hin : ∀ q ∈ pa ++ pv, q.block < W.heap.size := fun q hq => hw.lt q hq
  refine ⟨ds, gs, pa ++ pv, [], pa, pv, hw, hr _ _ _, ha _ fun q hq => decide_eq_true (hin q hq), hv _ fun q hq => decide_eq_true (hin q hq), World.keptBut_mono ?_ (hx.below.frame (· ∈ pa ++ pv)), ?_⟩
  · intro q hq
    exact ⟨hq, .inr (by simpa using hq)⟩
  · intro _
    obtain ⟨_, _, _, _, _, hz, hn⟩ := hw
    have hall := trodAll_append (ha (fun _ => true) (fun _ _ => rfl)) (hr _ _ _)
    refine ⟨hok, _, _, ([] ++ pa) ++ pv, ⟨[] ++ pa, pv, hall, hv _ (fun _ _ => rfl), rfl, fun b off hb => ?_, fun hap => by simpa using hn hap⟩, fun q hq _ => by simpa using hq⟩
    have hq : MemPlace.cell b off ∈ pa ++ pv := by simpa using hb
    rw [hx.below.frozen (hin _ hq)]
    exact hz b off hq
end
end Go.Proofs.Ytkmgbejhbkbaoaa
