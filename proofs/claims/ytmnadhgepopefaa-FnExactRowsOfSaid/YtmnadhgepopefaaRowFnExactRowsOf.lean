/- FnExactRowsOf: for every input the law returns true, and what it reads is left as it was. -/
import Derived.Test.YtmnadhgepopefaaRows
import Derived.ProofKit
import Derived.Test.YtmnadhgepopefaaFaFnExactRowsOf
import Derived.Test.YtmnadhgepopefaaPuBaseFnExactRowsOf
import Derived.Test.YtmnadhgepopefaaPuItemFnExactRowsOf
import Derived.Test.YtmnadhgepopefaaPuVecFnExactRowsOf
import Derived.Test.YtmnadhgepopefaaPuIsVFnExactRowsOf
import Derived.Test.YtmnadhgepopefaaPuIsV2FnExactRowsOf
import Derived.Test.YtmnadhgepopefaaPuIsV3FnExactRowsOf
import Derived.Test.YtmnadhgepopefaaPuIsV4FnExactRowsOf
import Derived.Test.YtmnadhgepopefaaPuFactorFnExactRowsOf
import Derived.Test.YtmnadhgepopefaaPuFrameFnExactRowsOf
namespace Go.Proofs.Ytmnadhgepopefaa
open Go.ChangeShapes Go.WideShapes Go.ChangeAt Go.RowKit
theorem Try.own : ownKnob Try.prog.godebug = none := by kernel_rfl
theorem Try.laidOut : laidOutB Try.prog = true := by kernel_rfl
set_option maxRecDepth 100000 in
theorem fnExactRowsOf_lifted (os : Os) (started : os.Started) (H : Type) (enc : TypeId × Value → H) :
    ReturnsInHanded {} Try.checked os 6 .any (Rows.fnExactRowsOfSpec.pre6 enc Try.prog Try.f6 Rows.fnExactRowsOfRow.domain false) (Rows.fnExactRowsOfSpec.post enc Try.prog Try.f6 false true false false) := by
  refine returnsInHanded_of_change (C := Try.checked) Try.own started (by kernel_rfl) Try.func6
    (ChangeSpec.witness6 (enc := enc) (C := Try.checked) false ⟨#[], #[.agg #[.int .i64 0, .slice none 0 0, .slice none 0 0, .slice none 0 0, .slice none 0 0, .slice none 0 0, .int .i64 0, .int .i64 0]], []⟩ 8 (by kernel_rfl) (by kernel_rfl) (by kernel_rfl) (by kernel_rfl)) ?_
  intro W base args ds gs before hval0 hW _ _
  have hval : ∀ (j : Nat) t v, Try.f6.params.toList[j]? = some t → args[j]? = some v → Value.okWide Try.prog W .any base t v := fun j t v h => hval0 j t v (by rw [← Array.getElem?_toList]; exact h)
  have hW' := hW
  obtain ⟨p, q, hA0, hV, rfl, hfz, hnd⟩ := hW
  have hA : DataW.TrodAll enc Try.prog W 0 (fun _ => true) true Try.f6.params.toList args.toList ds p := hA0
  refine (AM.law_calls (T := AM.T) AM.T_ok (ptys := [.vec]) (g := fun n xs => AM.laws_FnExactRowsOf n xs) (fun n => AM.laws_FnExactRowsOf.fok n) (AM.pmv_none rfl) (by kernel_rfl) hval hA AM.pure_FnExactRowsOf).mono fun e W' he => ?_
  obtain ⟨rfl, hb⟩ := he
  exact ⟨_, rfl, AM.law_post Try.laidOut rfl ⟨_, rfl, by kernel_rfl⟩ (fun ds h => by
    match ds, h with
      | [d0], _ => rfl) (by decide +kernel) hW' hb⟩
theorem fnExactRowsOf_holds : Rows.FnExactRowsOfSaid :=
  OpenClaim.holds_of_wide 6 Try.f6 rfl rfl rfl rfl rfl rfl rfl ⟨rfl, rfl, rfl, rfl, rfl⟩ rfl rfl rfl rfl rfl (by kernel_rfl) Try.func6 (by kernel_rfl)
    (of_decide_eq_true (by kernel_rfl)) (by unfold Func.isWrapper; first | (rw [if_pos (by decide +kernel)]; kernel_rfl) | (rw [if_neg (by decide +kernel)]; exact ⟨rfl, rfl⟩))
    (fun os started H enc _ => fnExactRowsOf_lifted os started H enc)

end Go.Proofs.Ytmnadhgepopefaa
