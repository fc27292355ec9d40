/- What a factor is; the law FnExactIsFactor in plain words. -/
import Derived.Test.YtmnadhgepopefaaFuFnExactIsKey
import Derived.Test.YtmnadhgepopefaaPuBaseFnExactIsKey
import Derived.Test.YtmnadhgepopefaaPuItemFnExactIsKey
import Derived.Test.YtmnadhgepopefaaPuVecFnExactIsKey
import Derived.Test.YtmnadhgepopefaaPuIsVFnExactIsKey
import Derived.Test.YtmnadhgepopefaaPuIsV2FnExactIsKey
import Derived.Test.YtmnadhgepopefaaPuIsV3FnExactIsKey
import Derived.Test.YtmnadhgepopefaaPuIsV4FnExactIsKey

namespace Go.AM

def sFactor : ByteArray := ⟨#[102, 97, 99, 116, 111, 114]⟩
def factorB (v : Vec) : Bool := ((vecB v && decide ((v.levels.length : Int) > 0)) && (v.cls.length : Int) == 1) && strEq (v.cls.getD 0 zS) sFactor
theorem spec_IsFactor_eq {n : Nat} (hn : FUEL ≤ n) {v : Vec} (hv : VecOK v) (ht : tsVec v ≤ 68719476736) : spec_IsFactor n v = some (factorB v) := by
  unfold spec_IsFactor factorB sFactor
  simp only [Vec.re_eq, spec_IsVector_eq hn hv ht, Option.bind_some]
  cases vecB v
  · rfl
  cases decide ((v.levels.length : Int) > 0)
  · rfl
  cases h : (v.cls.length : Int) == 1
  · rfl
  · have := eq_of_beq h
    rw [chk_of (by simp only [this]; rfl)]
    rfl
theorem impl_IsFactor_eq {n : Nat} (hn : FUEL ≤ n) {v : Vec} (hv : VecOK v) (ht : tsVec v ≤ 68719476736) : impl_IsFactor n v = some (factorB v) := by
  unfold impl_IsFactor factorB sFactor
  simp only [Vec.re_eq, impl_IsVector_eq hn hv ht, Option.bind_some]
  cases vecB v
  · rfl
  cases decide ((v.levels.length : Int) > 0)
  · rfl
  cases h : (v.cls.length : Int) == 1
  · rfl
  · have := eq_of_beq h
    rw [chk_of (by simp only [this]; rfl)]
    rfl
theorem law_FnExactIsFactor (v : Vec) (h : VecOK v) : ∃ n, laws_FnExactIsFactor n v = some true := by
  refine ⟨FUEL, ?_⟩
  have hn := Nat.le_refl FUEL
  unfold laws_FnExactIsFactor
  simp only [Vec.re_eq]
  rw [szVector_eq hn h (by omega) (by omega)]
  by_cases hc : tsVec v ≤ 1048576
  · have hT : tsVec v ≤ 68719476736 := by omega
    simp only [Option.bind_some, capd_lt hc, toVector_eq hn hT, spec_IsFactor_eq hn h hT, impl_IsFactor_eq hn h hT, eqVector_self hn hT, cond_false]
    simp
  · simp only [Option.bind_some, capd_no hc, cond_true]
theorem pure_FnExactIsFactor (xs : Dens ([.vec] ++ [])) (h : WfAll ([.vec] ++ []) xs) : ∃ n, laws_FnExactIsFactor n xs = some true :=
  law_FnExactIsFactor xs (h (unpack .vec xs) (List.mem_singleton.2 rfl))
end Go.AM
