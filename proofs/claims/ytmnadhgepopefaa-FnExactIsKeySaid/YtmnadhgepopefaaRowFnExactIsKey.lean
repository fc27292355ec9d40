/- FnExactIsKey: for every input the law returns true, and what it reads is left as it was. -/
import Derived.Test.YtmnadhgepopefaaRows
import Derived.ProofKit
import Derived.Test.YtmnadhgepopefaaFaFnExactIsKey
import Derived.Test.YtmnadhgepopefaaPuBaseFnExactIsKey
import Derived.Test.YtmnadhgepopefaaPuItemFnExactIsKey
import Derived.Test.YtmnadhgepopefaaPuVecFnExactIsKey
import Derived.Test.YtmnadhgepopefaaPuIsVFnExactIsKey
import Derived.Test.YtmnadhgepopefaaPuIsV2FnExactIsKey
import Derived.Test.YtmnadhgepopefaaPuIsV3FnExactIsKey
import Derived.Test.YtmnadhgepopefaaPuIsV4FnExactIsKey
import Derived.Test.YtmnadhgepopefaaPuFactorFnExactIsKey
import Derived.Test.YtmnadhgepopefaaPuFrameFnExactIsKey
import Derived.Test.YtmnadhgepopefaaPuSelFnExactIsKey
import Derived.Test.YtmnadhgepopefaaPuSel2FnExactIsKey
import Derived.Test.YtmnadhgepopefaaPuKeyFnExactIsKey
namespace Go.Proofs.Ytmnadhgepopefaa
open Go.ChangeShapes Go.WideShapes Go.ChangeAt Go.RowKit
theorem Try.own : ownKnob Try.prog.godebug = none := by kernel_rfl
theorem Try.laidOut : laidOutB Try.prog = true := by kernel_rfl
set_option maxRecDepth 100000 in
theorem fnExactIsKey_lifted (os : Os) (started : os.Started) (H : Type) (enc : TypeId × Value → H) :
    ReturnsInHanded {} Try.checked os 8 .any (Rows.fnExactIsKeySpec.pre6 enc Try.prog Try.f8 Rows.fnExactIsKeyRow.domain false) (Rows.fnExactIsKeySpec.post enc Try.prog Try.f8 false true false false) := by
  refine returnsInHanded_of_change (C := Try.checked) Try.own started (by kernel_rfl) Try.func8
    (ChangeSpec.witness6 (enc := enc) (C := Try.checked) false ⟨#[], #[.agg #[.int .i64 0, .slice none 0 0, .slice none 0 0, .slice none 0 0, .slice none 0 0, .slice none 0 0, .int .i64 0, .int .i64 0], .slice none 0 0], []⟩ 8 (by kernel_rfl) (by kernel_rfl) (by kernel_rfl) (by kernel_rfl)) ?_
  intro W base args ds gs before hval0 hW _ _
  have hval : ∀ (j : Nat) t v, Try.f8.params.toList[j]? = some t → args[j]? = some v → Value.okWide Try.prog W .any base t v := fun j t v h => hval0 j t v (by rw [← Array.getElem?_toList]; exact h)
  have hW' := hW
  obtain ⟨p, q, hA0, hV, rfl, hfz, hnd⟩ := hW
  have hA : DataW.TrodAll enc Try.prog W 0 (fun _ => true) true Try.f8.params.toList args.toList ds p := hA0
  refine (AM.law_calls (T := AM.T) AM.T_ok (ptys := [.vec, (.sl .str)]) (g := fun n (xs : AM.Dens [.vec, (.sl .str)]) => AM.laws_FnExactIsKey n xs.1 xs.2) (fun n => AM.laws_FnExactIsKey.fok n) (AM.pmv_none rfl) (by kernel_rfl) hval hA AM.pure_FnExactIsKey).mono fun e W' he => ?_
  obtain ⟨rfl, hb⟩ := he
  exact ⟨_, rfl, AM.law_post Try.laidOut rfl ⟨_, rfl, by kernel_rfl⟩ (fun ds h => by
    match ds, h with
      | [d0, d1], _ => rfl) (by decide +kernel) hW' hb⟩
theorem fnExactIsKey_holds : Rows.FnExactIsKeySaid :=
  OpenClaim.holds_of_wide 8 Try.f8 rfl rfl rfl rfl rfl rfl rfl ⟨rfl, rfl, rfl, rfl, rfl⟩ rfl rfl rfl rfl rfl (by kernel_rfl) Try.func8 (by kernel_rfl)
    (of_decide_eq_true (by kernel_rfl)) (by unfold Func.isWrapper; first | (rw [if_pos (by decide +kernel)]; kernel_rfl) | (rw [if_neg (by decide +kernel)]; exact ⟨rfl, rfl⟩))
    (fun os started H enc _ => fnExactIsKey_lifted os started H enc)

end Go.Proofs.Ytmnadhgepopefaa
