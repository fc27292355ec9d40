/- What a vector is, third part: the program's shape test, the way down, IsVector. -/
import Derived.Test.YtmnadhgepopefaaFuFnExactIsKey
import Derived.Test.YtmnadhgepopefaaPuBaseFnExactIsKey
import Derived.Test.YtmnadhgepopefaaPuItemFnExactIsKey
import Derived.Test.YtmnadhgepopefaaPuVecFnExactIsKey
import Derived.Test.YtmnadhgepopefaaPuIsVFnExactIsKey
import Derived.Test.YtmnadhgepopefaaPuIsV2FnExactIsKey

namespace Go.AM

def atomB (k : Int) : Bool := bif (bif k == 1 then true else k == 2) then true else k == 3
theorem isAtomic_eq (v : Vec) : impl_isAtomic v = some (atomB v.kind) := rfl
def implItem (kind nlev : Int) (x : Item) : Bool := (atomB kind && itemB kind x) && !(bif (bif decide (nlev > 0) then !missing x else false) then (bif (bif x.den != 1 then true else decide (x.num < 1)) then true else decide (x.num > nlev)) else false)
theorem shapeItems_eq {n : Nat} (hn : BIG ≤ n) {v : Vec} (hv : VecOK v) (ht : tsVec v ≤ 68719476736) :
    impl_shapeValid_l2 n (v, v.items, (v.items.length : Int), (0 : Int)) = some (bif v.items.all (implItem v.kind v.levels.length) then .inl (v, v.items, (v.items.length : Int), (v.items.length : Int)) else .inr false) := by
  have hl := (fits ht).nitems
  have hh := iter_all (B := fun x : Vec × List Item × Int × Int => impl_shapeValid_r2 n x.1 x.2.1 x.2.2.1 x.2.2.2) (R := Bool) v.items (fun i => (v, v.items, (v.items.length : Int), (i : Int))) (implItem v.kind v.levels.length) false
    (fun i x hx => by
      have hi := (List.getElem?_eq_some_iff.1 hx).1
      dsimp only
      unfold impl_shapeValid_r2 implItem
      simp only [idx_lt hx, nn, Bool.and_true, chk_true, cond_true, getD_cast hx, Vec.re_eq, isAtomic_eq, isMissing_eq, w64_succ (show i + 1 ≤ 9223372036854775807 by omega), itemValid_eq hn (hv.items.2 x (List.mem_of_getElem? hx)), Option.bind_some, bne]
      cases atomB v.kind
      · rfl
      · cases itemB v.kind x
        · rfl
        · cases decide ((v.levels.length : Int) > 0)
          · rfl
          · cases missing x
            · simp only [Bool.not_true, Bool.not_false, cond_true, cond_false, Option.bind_some, Bool.true_and]
              cases (bif (bif !(x.den == 1) then true else decide (x.num < 1)) then true else decide (x.num > (v.levels.length : Int))) <;> rfl
            · rfl)
    (by dsimp only; unfold impl_shapeValid_r2; rw [idx_end]; simp only [cond_false, Vec.re_eq]) (by unfold BIG at hn; omega : v.items.length < n)
  exact hh
theorem missing_den {x : Item} (h : itemB 2 x = true) : (!missing x) = (x.den != 0) := by
  unfold itemB at h
  cases hm : missing x
  · rw [hm] at h
    simp only [cond_false, show ((2 : Int) == 1) = false from rfl, show ((2 : Int) == 2) = true from rfl, cond_true] at h
    unfold isNumber at h
    simp only [Bool.and_eq_true, decide_eq_true_eq] at h
    have : x.den ≠ 0 := by omega
    simp [this]
  · unfold missing itemEq at hm
    simp only [Bool.and_eq_true, beq_iff_eq] at hm
    have : x.den = 0 := by first | exact hm.1.2 | exact hm.2.1
    simp [this]
theorem len0 {α : Type} (xs : List α) : ((xs.length : Int) == 0) = !decide ((xs.length : Int) > 0) := by
  cases xs with
  | nil => rfl
  | cons a l => simp; omega
theorem nil_of {α : Type} {xs : List α} (h : decide ((xs.length : Int) > 0) = false) : xs = [] := by
  have := of_decide_eq_false h
  exact List.length_eq_zero_iff.1 (by omega)
theorem rare_parts {v : Vec} (h1 : (v.kind == 4) = false) (h2 : rareB v = true) : v.parts = [] := by
  unfold rareB at h2
  simp only [bne, h1, Bool.not_false, cond_true] at h2
  cases h3 : decide ((v.parts.length : Int) > 0)
  · exact nil_of h3
  · rw [h3] at h2
    revert h2
    cases (bif (bif !(v.kind == 5) then (bif !(v.code == 0) then true else !(v.env == 0)) else false) then true else (bif !(v.kind == 2) then decide ((v.levels.length : Int) > 0) else false)) <;> intro h2 <;> cases h2
theorem rare_levels {v : Vec} (h1 : (v.kind == 2) = false) (h2 : rareB v = true) : decide ((v.levels.length : Int) > 0) = false := by
  unfold rareB at h2
  simp only [bne, h1, Bool.not_false, cond_true] at h2
  cases h3 : decide ((v.levels.length : Int) > 0)
  · rfl
  · rw [h3] at h2
    revert h2
    cases (bif !(v.kind == 5) then (bif !(v.code == 0) then true else !(v.env == 0)) else false) <;> intro h2 <;> cases h2
theorem items_agree {v : Vec} (hk : kindB v = true) (h5 : (v.kind == 5) = false) (h0 : (v.kind == 0) = false) (hr : rareB v = true) :
    v.items.all (implItem v.kind v.levels.length) = (!(v.kind == 4 && decide ((v.items.length : Int) > 0)) && v.items.all (itemOf v.kind v.levels.length)) := by
  cases h4 : v.kind == 4
  · have ha : atomB v.kind = true := by
      unfold kindB at hk
      simp only [Bool.and_eq_true, decide_eq_true_eq] at hk
      have e5 := beq_eq_false_iff_ne.1 h5
      have e0 := beq_eq_false_iff_ne.1 h0
      have e4 := beq_eq_false_iff_ne.1 h4
      have : v.kind = 1 ∨ v.kind = 2 ∨ v.kind = 3 := by omega
      rcases this with e | e | e <;> rw [e] <;> rfl
    have : ∀ x, implItem v.kind v.levels.length x = itemOf v.kind v.levels.length x := by
      intro x
      unfold implItem itemOf
      rw [ha, Bool.true_and]
      cases hb : itemB v.kind x
      · rfl
      · cases h2 : v.kind == 2
        · rw [rare_levels h2 hr]; rfl
        · have e2 := eq_of_beq h2
          rw [e2] at hb
          rw [missing_den hb, not_ge, not_le]
          cases decide ((v.levels.length : Int) > 0) <;> cases x.den != 0 <;> cases x.den != 1 <;> cases decide (x.num < 1) <;> cases decide (x.num > (v.levels.length : Int)) <;> rfl
    rw [funext this]
    rfl
  · have e4 := eq_of_beq h4
    have : ∀ x, implItem v.kind v.levels.length x = false := by intro x; unfold implItem; rw [e4]; rfl
    rw [funext this]
    cases hi : v.items with
    | nil => rfl
    | cons a l => simp
theorem rare_split (v : Vec) (rest : Option Bool) : (bif (bif (bif decide ((v.levels.length : Int) > 0) then v.kind != 2 else false) then true else (bif decide ((v.parts.length : Int) > 0) then v.kind != 4 else false)) then some false
    else bif (bif v.kind != 5 then (bif v.code != 0 then true else v.env != 0) else false) then some false else rest) = bif rareB v then rest else some false := by
  unfold rareB
  simp only [bne]
  cases decide ((v.levels.length : Int) > 0) <;> cases decide ((v.parts.length : Int) > 0) <;> cases v.kind == 2 <;> cases v.kind == 4 <;> cases v.kind == 5 <;> cases v.code == 0 <;> cases v.env == 0 <;> rfl
def lastB (v : Vec) : Bool := bif v.kind == 5 then fifthB v else bif v.kind == 0 then lenV v == 0 && (v.cls.length : Int) == 0 else !(v.kind == 4 && decide ((v.items.length : Int) > 0)) && v.items.all (itemOf v.kind v.levels.length)
theorem shapeB_order (v : Vec) : shapeB v = (kindB v && (!decide (lenV v > 40) && (labelsB v.cls 3 && (labelsB v.levels 20 && ((!(bif (v.names.length : Int) != 0 then (v.names.length : Int) != lenV v else false) && namesB v.names) && (rareB v && lastB v)))))) := by
  unfold shapeB
  show (kindB v && (!decide (lenV v > 40) && (!(bif (v.names.length : Int) != 0 then (v.names.length : Int) != lenV v else false) && (namesB v.names && (labelsB v.cls 3 && (labelsB v.levels 20 && (rareB v && lastB v))))))) = _
  cases kindB v <;> cases decide (lenV v > 40) <;> cases (bif (v.names.length : Int) != 0 then (v.names.length : Int) != lenV v else false) <;> cases namesB v.names <;> cases labelsB v.cls 3 <;> cases labelsB v.levels 20 <;> cases rareB v <;> cases lastB v <;> rfl
theorem last_agree {v : Vec} (ht : tsVec v ≤ 68719476736) (hk : kindB v = true) (hr : rareB v = true) :
    (bif (bif v.kind == 5 then (bif (bif (bif (bif (bif decide ((v.items.length : Int) > 0) then true else decide ((v.names.length : Int) > 0)) then true else decide (v.code < -999)) then true else decide (v.code > 99999)) then true else decide (v.env < 0)) then true else decide (v.env > 99999)) else false) then some false
    else bif (bif v.kind == 0 then (bif decide ((v.items.length : Int) > 0) then true else decide ((v.cls.length : Int) > 0)) else false) then some false
    else some (v.items.all (implItem v.kind v.levels.length))) = some (lastB v) := by
  unfold lastB fifthB
  simp only [len0, not_ge]
  cases h5 : v.kind == 5
  · cases h0 : v.kind == 0
    · simp only [cond_false]
      rw [items_agree hk h5 h0 hr]
    · have e0 := eq_of_beq h0
      have h4 : (v.kind == 4) = false := by rw [e0]; rfl
      have hp := rare_parts h4 hr
      have hl : (lenV v == 0) = !decide ((v.items.length : Int) > 0) := by
        have hni := (fits ht).nitems
        unfold lenV
        rw [h5, hp, ← len0]
        simp only [cond_false, List.length_nil]
        rw [w64_id (by omega) (by omega)]
        simp
      simp only [cond_false, cond_true, hl]
      cases hi : decide ((v.items.length : Int) > 0)
      · rw [nil_of hi]
        cases decide ((v.cls.length : Int) > 0) <;> rfl
      · rfl
  · simp only [cond_true]
    cases hi : decide ((v.items.length : Int) > 0)
    · rw [nil_of hi]
      have e5 := eq_of_beq h5
      rw [show (v.kind == 0) = false by rw [e5]; rfl]
      cases decide ((v.names.length : Int) > 0) <;> cases decide (v.code < -999) <;> cases decide (v.code > 99999) <;> cases decide (v.env < 0) <;> cases decide (v.env > 99999) <;> rfl
    · rfl
theorem shapeValid_eq {n : Nat} (hn : BIG ≤ n) {v : Vec} (hv : VecOK v) (ht : tsVec v ≤ 68719476736) : impl_shapeValid n v = some (shapeB v) := by
  have f := fits ht
  rw [shapeB_order]
  unfold impl_shapeValid
  simp only [Vec.re_eq, length_eq, Option.bind_some, labelsValid_eq hn (show v.cls.length ≤ 68719476736 by have := f.ncls; omega), labelsValid_eq hn (show v.levels.length ≤ 68719476736 by have := f.nlevels; omega),
    allEmpty_eq hn (show v.names.length ≤ 68719476736 by have := f.nnames; omega), shapeNames_eq hn v (show v.names.length ≤ 68719476736 by have := f.nnames; omega)]
  unfold namesB
  simp only [bne, len0]
  have hk : kindB v = (!decide (v.kind < 0) && !decide (v.kind > 5)) := by unfold kindB; rw [not_ge, not_le]
  cases hk1 : decide (v.kind < 0)
  rotate_left
  · rw [hk, hk1]; rfl
  cases hk2 : decide (v.kind > 5)
  rotate_left
  · rw [hk, hk1, hk2]; rfl
  have hkt : kindB v = true := by rw [hk, hk1, hk2]; rfl
  rw [hkt]
  simp only [cond_false, Bool.true_and]
  cases decide (lenV v > 40)
  rotate_left
  · rfl
  simp only [cond_false, cond_true, Bool.not_false, Option.bind_some, Bool.true_and]
  cases labelsB v.cls 3
  · rfl
  simp only [cond_false, cond_true, Bool.not_true, Bool.not_false, Option.bind_some, Bool.true_and]
  cases labelsB v.levels 20
  · rfl
  simp only [cond_false, Bool.not_true, Bool.true_and]
  have tail : (lpK (bif v.names.all small60 then Sum.inl (v, v.names, (v.names.length : Int), (v.names.length : Int)) else Sum.inr false) (fun y6 : Vec × List ByteArray × Int × Int =>
     bif (bif (bif decide ((y6.1.levels.length : Int) > (0 : Int)) then !(y6.1.kind == (2 : Int)) else false) then true else (bif decide ((y6.1.parts.length : Int) > (0 : Int)) then !(y6.1.kind == (4 : Int)) else false)) then
     some false
     else bif (bif !(y6.1.kind == (5 : Int)) then (bif !(y6.1.code == (0 : Int)) then true else !(y6.1.env == (0 : Int))) else false) then
     some false
     else bif (bif y6.1.kind == (5 : Int) then (bif (bif (bif (bif (bif decide ((y6.1.items.length : Int) > (0 : Int)) then true else decide ((y6.1.names.length : Int) > (0 : Int))) then true else decide (y6.1.code < (-999 : Int))) then true else decide (y6.1.code > (99999 : Int))) then true else decide (y6.1.env < (0 : Int))) then true else decide (y6.1.env > (99999 : Int))) else false) then
     some false
     else bif (bif y6.1.kind == (0 : Int) then (bif decide ((y6.1.items.length : Int) > (0 : Int)) then true else decide ((y6.1.cls.length : Int) > (0 : Int))) else false) then
     some false
     else (impl_shapeValid_l2 n (y6.1, y6.1.items, (y6.1.items.length : Int), (0 : Int))).bind fun r11 => lpK r11 (fun _ => some true) (fun z13 => some z13)) (fun z7 => some z7)) = some (v.names.all small60 && (rareB v && lastB v)) := by
    cases v.names.all small60
    · rfl
    · simp only [cond_true, lpK]
      have h1 := rare_split v (bif (bif v.kind == (5 : Int) then (bif (bif (bif (bif (bif decide ((v.items.length : Int) > (0 : Int)) then true else decide ((v.names.length : Int) > (0 : Int))) then true else decide (v.code < (-999 : Int))) then true else decide (v.code > (99999 : Int))) then true else decide (v.env < (0 : Int))) then true else decide (v.env > (99999 : Int))) else false) then
       some false
       else bif (bif v.kind == (0 : Int) then (bif decide ((v.items.length : Int) > (0 : Int)) then true else decide ((v.cls.length : Int) > (0 : Int))) else false) then
       some false
       else (impl_shapeValid_l2 n (v, v.items, (v.items.length : Int), (0 : Int))).bind fun r11 => lpK r11 (fun _ => some true) (fun z13 => some z13))
      refine (h1).trans ?_
      cases hr : rareB v
      · rfl
      · simp only [cond_true, Bool.true_and]
        rw [← last_agree ht hkt hr, shapeItems_eq hn hv ht]
        cases v.items.all (implItem v.kind v.levels.length) <;> rfl
  cases hA : decide ((v.names.length : Int) > 0)
  · simp only [Bool.false_and, cond_false, Option.bind_some, Bool.not_false, Bool.not_true, Bool.true_or, Bool.and_true, Bool.true_and]
    exact tail
  · simp only [Bool.true_and, cond_true, Bool.not_true, Bool.not_false, Bool.false_or]
    cases (v.names.length : Int) == lenV v
    · rfl
    · simp only [Bool.not_true, Bool.not_false, cond_true, cond_false, Option.bind_some]
      cases v.names.all (fun x => strEq x zS)
      · simp only [cond_false, Bool.not_false, Bool.and_true, Bool.true_and]
        exact tail
      · simp
end Go.AM
