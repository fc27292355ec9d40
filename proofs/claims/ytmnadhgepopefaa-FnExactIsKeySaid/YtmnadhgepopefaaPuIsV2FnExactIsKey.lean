/- What a vector is, second part: items and shapes. -/
import Derived.Test.YtmnadhgepopefaaFuFnExactIsKey
import Derived.Test.YtmnadhgepopefaaPuBaseFnExactIsKey
import Derived.Test.YtmnadhgepopefaaPuItemFnExactIsKey
import Derived.Test.YtmnadhgepopefaaPuVecFnExactIsKey
import Derived.Test.YtmnadhgepopefaaPuIsVFnExactIsKey

namespace Go.AM

def lenV (v : Vec) : Int := bif v.kind == 5 then 1 else w64 ((v.items.length : Int) + (v.parts.length : Int))
theorem l4Len_eq (v : Vec) : spec_l4Len v = some (lenV v) := by
  unfold spec_l4Len lenV
  cases v.kind == 5 <;> rfl
theorem length_eq (v : Vec) : impl_length v = some (lenV v) := by
  unfold impl_length lenV
  cases v.kind == 5 <;> rfl

/-! ### Names -/
def small60 (x : ByteArray) : Bool := !decide ((x.size : Int) > 60)
def namesB (xs : List ByteArray) : Bool := xs.all small60 && (((xs.length : Int) == 0) || !xs.all (fun x => strEq x zS))
theorem l4Named_eq {n : Nat} (hn : BIG ≤ n) {xs : List ByteArray} (hl : xs.length ≤ 68719476736) : spec_l4Named n xs = some (namesB xs) := by
  have hh := iter_for (B := fun x : List ByteArray × Bool × Int => spec_l4Named_r0 x.1 x.2.1 x.2.2) (R := Bool) xs (fun (s : Bool) i => (xs, s, (i : Int))) (fun s x => bif small60 x then Sum.inl (s || !strEq x zS) else Sum.inr false) (fun _ _ => True)
    (fun i x s hx _ => by
      have hi := (List.getElem?_eq_some_iff.1 hx).1
      dsimp only
      unfold spec_l4Named_r0 small60
      simp only [idx_lt hx, nn, Bool.and_true, Bool.or_true, chk_true, cond_true, getD_cast hx, w64_succ (show i + 1 ≤ 9223372036854775807 by omega)]
      cases decide ((x.size : Int) > 60)
      · cases s <;> rfl
      · rfl)
    (fun _ _ _ _ _ _ _ => trivial)
    (fun s _ => by dsimp only; unfold spec_l4Named_r0; rw [idx_end]; rfl) (by unfold BIG at hn; omega : xs.length < n) ((xs.length : Int) == 0) trivial
  have gen : ∀ (l : List ByteArray) (s : Bool), forL (fun s x => bif small60 x then Sum.inl (s || !strEq x zS) else Sum.inr false) l s = bif l.all small60 then Sum.inl (s || !l.all (fun x => strEq x zS)) else .inr false := by
    intro l
    induction l with
    | nil => intro s; simp [forL]
    | cons a l ih =>
      intro s
      simp only [forL, List.all_cons]
      cases small60 a
      · rfl
      · simp only [cond_true, Bool.true_and]
        rw [ih]
        cases l.all small60
        · rfl
        · cases s <;> cases strEq a zS <;> rfl
  rw [gen] at hh
  unfold spec_l4Named namesB
  rw [show spec_l4Named_l0 n (xs, (xs.length : Int) == 0, (0 : Int)) = _ from hh]
  cases xs.all small60 <;> rfl
theorem allEmpty_eq {n : Nat} (hn : BIG ≤ n) {xs : List ByteArray} (hl : xs.length ≤ 68719476736) : impl_allEmpty n xs = some (xs.all (fun x => strEq x zS)) := by
  have hh := iter_all (B := fun x : List ByteArray × Int × Int => impl_allEmpty_r0 x.1 x.2.1 x.2.2) (R := Bool) xs (fun i => (xs, (xs.length : Int), (i : Int))) (fun x => strEq x zS) false
    (fun i x hx => by
      have hi := (List.getElem?_eq_some_iff.1 hx).1
      dsimp only
      unfold impl_allEmpty_r0
      simp only [idx_lt hx, nn, Bool.and_true, chk_true, cond_true, getD_cast hx, w64_succ (show i + 1 ≤ 9223372036854775807 by omega)]
      cases strEq x zS <;> rfl)
    (by dsimp only; unfold impl_allEmpty_r0; rw [idx_end]; rfl) (by unfold BIG at hn; omega : xs.length < n)
  unfold impl_allEmpty impl_allEmpty_l0
  rw [show (0 : Int) = ((0 : Nat) : Int) from rfl, hh]
  cases xs.all (fun x => strEq x zS) <;> rfl
theorem shapeNames_eq {n : Nat} (hn : BIG ≤ n) (v : Vec) {xs : List ByteArray} (hl : xs.length ≤ 68719476736) : impl_shapeValid_l0 n (v, xs, (xs.length : Int), (0 : Int)) = some (bif xs.all small60 then .inl (v, xs, (xs.length : Int), (xs.length : Int)) else .inr false) := by
  have hh := iter_all (B := fun x : Vec × List ByteArray × Int × Int => impl_shapeValid_r0 x.1 x.2.1 x.2.2.1 x.2.2.2) (R := Bool) xs (fun i => (v, xs, (xs.length : Int), (i : Int))) small60 false
    (fun i x hx => by
      have hi := (List.getElem?_eq_some_iff.1 hx).1
      dsimp only
      unfold impl_shapeValid_r0 small60
      simp only [idx_lt hx, nn, Bool.and_true, chk_true, cond_true, getD_cast hx, Vec.re_eq, w64_succ (show i + 1 ≤ 9223372036854775807 by omega)]
      cases decide ((x.size : Int) > 60) <;> rfl)
    (by dsimp only; unfold impl_shapeValid_r0; rw [idx_end]; simp only [cond_false, Vec.re_eq]) (by unfold BIG at hn; omega : xs.length < n)
  exact hh

/-! ### Items -/
def missing (x : Item) : Bool := itemEq x (⟨0, 0, zS⟩ : Item)
def itemB (kind : Int) (x : Item) : Bool :=
  bif missing x then true
  else bif kind == 1 then ((x.den == 1 && (decide (x.num ≥ 0) && decide (x.num ≤ 1))) && strEq x.text zS)
  else bif kind == 2 then isNumber x
  else kind == 3 && (x.num == 0 && (x.den == 1 && decide ((x.text.size : Int) ≤ 60)))
theorem l4Item_eq {n : Nat} (hn : BIG ≤ n) {kind : Int} {x : Item} (hx : ItOK x) : spec_l4Item n kind x = some (itemB kind x) := by
  unfold spec_l4Item itemB missing spec_l1In
  rw [spec_IsNumber_eq hn hx]
  cases itemEq x (⟨0, 0, zS⟩ : Item)
  · cases kind == 1
    · cases kind == 2
      · cases kind == 3 <;> cases x.num == 0 <;> cases x.den == 1 <;> rfl
      · rfl
    · cases x.den == 1 <;> cases decide (x.num ≥ 0) <;> cases decide (x.num ≤ 1) <;> rfl
  · rfl
theorem bit_num (a : Int) : (a == 0 || a == 1) = (decide (a ≥ 0) && decide (a ≤ 1)) := by
  by_cases h0 : a = 0
  · subst h0; rfl
  · by_cases h1 : a = 1
    · subst h1; rfl
    · rw [beq_eq_false_iff_ne.2 h0, beq_eq_false_iff_ne.2 h1]
      by_cases h2 : a ≥ 0
      · rw [decide_eq_false (by omega : ¬ a ≤ 1)]; simp
      · rw [decide_eq_false h2]; rfl
theorem isMissing_eq (x : Item) : impl_isMissing x = some (missing x) := rfl
theorem itemValid_eq {n : Nat} (hn : BIG ≤ n) {kind : Int} {x : Item} (hx : ItOK x) : impl_itemValid n kind x = some (itemB kind x) := by
  unfold impl_itemValid itemB
  rw [impl_IsNumber_eq hn hx, isMissing_eq, ← bit_num]
  cases missing x
  · cases kind == 1
    · cases kind == 2
      · cases kind == 3 <;> cases x.num == 0 <;> cases x.den == 1 <;> rfl
      · rfl
    · cases strEq x.text zS <;> cases x.den == 1 <;> cases x.num == 0 <;> cases x.num == 1 <;> rfl
  · rfl
/-- Of a vector with nlev levels. -/
def itemOf (kind nlev : Int) (x : Item) : Bool := itemB kind x && !(bif (bif decide (nlev > 0) then x.den != 0 else false) then (bif x.den != 1 then true else !(decide (x.num ≥ 1) && decide (x.num ≤ nlev))) else false)

def kindB (v : Vec) : Bool := decide (v.kind ≥ 0) && decide (v.kind ≤ 5)
def rareB (v : Vec) : Bool := !(bif (bif (bif v.kind != 5 then (bif v.code != 0 then true else v.env != 0) else false) then true else (bif v.kind != 2 then decide ((v.levels.length : Int) > 0) else false)) then true else (bif v.kind != 4 then decide ((v.parts.length : Int) > 0) else false))
def fifthB (v : Vec) : Bool := ((v.items.length : Int) == 0 && (v.names.length : Int) == 0) && ((decide (v.code ≥ -999) && decide (v.code ≤ 99999)) && (decide (v.env ≥ 0) && decide (v.env ≤ 99999)))
def shapeB (v : Vec) : Bool :=
  kindB v && (!decide (lenV v > 40) && (!(bif (v.names.length : Int) != 0 then (v.names.length : Int) != lenV v else false) && (namesB v.names && (labelsB v.cls 3 && (labelsB v.levels 20 && (rareB v &&
    (bif v.kind == 5 then fifthB v else bif v.kind == 0 then lenV v == 0 && (v.cls.length : Int) == 0 else !(v.kind == 4 && decide ((v.items.length : Int) > 0)) && v.items.all (itemOf v.kind v.levels.length))))))))

theorem l1In_eq (x a b : Int) : spec_l1In x a b = some (decide (x ≥ a) && decide (x ≤ b)) := by
  unfold spec_l1In
  cases decide (x ≥ a) <;> rfl
theorem l4Is_items {n : Nat} (hn : BIG ≤ n) {v : Vec} (hv : VecOK v) (ht : tsVec v ≤ 68719476736) (nest : Int) :
    spec_l4Is_l0 n (nest, v, (0 : Int)) = some (bif v.items.all (itemOf v.kind v.levels.length) then .inl (nest, v, (v.items.length : Int)) else .inr false) := by
  have hl := (fits ht).nitems
  have hh := iter_all (B := fun x : Int × Vec × Int => spec_l4Is_r0 n x.1 x.2.1 x.2.2) (R := Bool) v.items (fun i => (nest, v, (i : Int))) (itemOf v.kind v.levels.length) false
    (fun i x hx => by
      have hi := (List.getElem?_eq_some_iff.1 hx).1
      dsimp only
      unfold spec_l4Is_r0 itemOf
      simp only [idx_lt hx, nn, Bool.and_true, chk_true, cond_true, getD_cast hx, Vec.re_eq, l1In_eq, w64_succ (show i + 1 ≤ 9223372036854775807 by omega), l4Item_eq hn (hv.items.2 x (List.mem_of_getElem? hx)), Option.bind_some, bne]
      cases itemB v.kind x
      · rfl
      · cases decide ((v.levels.length : Int) > 0)
        · rfl
        · cases x.den == 0
          · cases x.den == 1
            · rfl
            · simp only [Bool.not_true, Bool.not_false, Bool.and_true, cond_true, Bool.true_and, cond_false, Option.bind_some]
              cases (decide (x.num ≥ 1) && decide (x.num ≤ (v.levels.length : Int))) <;> rfl
          · rfl)
    (by dsimp only; unfold spec_l4Is_r0; rw [idx_end]; simp only [cond_false, Vec.re_eq]) (by unfold BIG at hn; omega : v.items.length < n)
  exact hh
theorem l4Is_parts {rec : Vec → Int → Option Bool} {n : Nat} (hn : BIG ≤ n) {v : Vec} (ht : tsVec v ≤ 68719476736) {nest : Int} {R : Vec → Bool} (hrec : nest ≠ 0 → ∀ p ∈ v.parts, rec p (w64 (nest - 1)) = some (R p)) :
    spec_l4Is_l2 rec n (nest, v, (0 : Int)) = some (bif v.parts.all (fun p => !(nest == 0) && R p) then .inl (nest, v, (v.parts.length : Int)) else .inr false) := by
  have hl := (fits ht).nparts
  have hh := iter_all (B := fun x : Int × Vec × Int => spec_l4Is_r2 rec x.1 x.2.1 x.2.2) (R := Bool) v.parts (fun i => (nest, v, (i : Int))) (fun p => !(nest == 0) && R p) false
    (fun i x hx => by
      have hi := (List.getElem?_eq_some_iff.1 hx).1
      dsimp only
      unfold spec_l4Is_r2
      simp only [idx_lt hx, nn, Bool.and_true, Bool.or_true, chk_true, cond_true, getD_cast hx, Vec.re_eq, w64_succ (show i + 1 ≤ 9223372036854775807 by omega)]
      cases hne : nest == 0
      · rw [hrec (by simpa using hne) x (List.mem_of_getElem? hx)]
        cases hR : R x <;> simp
      · rfl)
    (by dsimp only; unfold spec_l4Is_r2; rw [idx_end]; simp only [cond_false, Vec.re_eq]) (by unfold BIG at hn; omega : v.parts.length < n)
  exact hh
theorem l4Is_b_eq {rec : Vec → Int → Option Bool} {n : Nat} (hn : BIG ≤ n) {v : Vec} (hv : VecOK v) (ht : tsVec v ≤ 68719476736) {nest : Int} {R : Vec → Bool} (hrec : nest ≠ 0 → ∀ p ∈ v.parts, rec p (w64 (nest - 1)) = some (R p)) :
    spec_l4Is_b rec n v nest = some (shapeB v && v.parts.all (fun p => !(nest == 0) && R p)) := by
  have f := fits ht
  have hpar : (v.kind == 4) = false → rareB v = true → v.parts = [] := by
    intro h1 h2
    unfold rareB at h2
    simp only [bne, h1, Bool.not_false, cond_true] at h2
    cases h3 : decide ((v.parts.length : Int) > 0)
    · have := of_decide_eq_false h3
      exact List.length_eq_zero_iff.1 (by omega)
    · rw [h3] at h2
      revert h2
      cases (bif (bif !(v.kind == 5) then (bif !(v.code == 0) then true else !(v.env == 0)) else false) then true else (bif !(v.kind == 2) then decide ((v.levels.length : Int) > 0) else false)) <;> intro h2 <;> cases h2
  unfold spec_l4Is_b shapeB
  simp only [Vec.re_eq, l4Len_eq, l1In_eq, Option.bind_some, l4Named_eq hn (show v.names.length ≤ 68719476736 by have := f.nnames; omega),
    show spec_l4Labels n v.cls 3 = some (labelsB v.cls 3) from l4Labels_eq hn (by have := f.ncls; omega) (most := 3) (by omega),
    show spec_l4Labels n v.levels 20 = some (labelsB v.levels 20) from l4Labels_eq hn (by have := f.nlevels; omega) (most := 20) (by omega), l4Is_items hn hv ht, lpK]
  rw [show (decide (v.kind ≥ 0) && decide (v.kind ≤ 5)) = kindB v from rfl]
  cases kindB v
  · rfl
  cases decide (lenV v > 40)
  rotate_left
  · rfl
  cases (bif (v.names.length : Int) != 0 then (v.names.length : Int) != lenV v else false)
  rotate_left
  · rfl
  simp only [Bool.not_true, Bool.not_false, cond_true, cond_false, Option.bind_some, Bool.true_and]
  cases namesB v.names
  · rfl
  simp only [Bool.not_true, Bool.not_false, cond_true, cond_false, Option.bind_some, Bool.true_and]
  cases labelsB v.cls 3
  · rfl
  simp only [Bool.not_true, Bool.not_false, cond_true, cond_false, Option.bind_some, Bool.true_and]
  cases labelsB v.levels 20
  · rfl
  simp only [Bool.not_true, cond_false, Bool.true_and]
  rw [show (bif (bif (bif v.kind != 5 then (bif v.code != 0 then true else v.env != 0) else false) then true else (bif v.kind != 2 then decide ((v.levels.length : Int) > 0) else false)) then true else (bif v.kind != 4 then decide ((v.parts.length : Int) > 0) else false)) = !rareB v by unfold rareB; rw [Bool.not_not]]
  cases hra : rareB v
  · rfl
  simp only [Bool.not_true, cond_false, Bool.true_and]
  cases h5 : v.kind == 5
  · cases h0 : v.kind == 0
    · simp only [cond_false]
      rw [show (bif v.kind == 4 then decide ((v.items.length : Int) > 0) else false) = (v.kind == 4 && decide ((v.items.length : Int) > 0)) by cases v.kind == 4 <;> rfl]
      cases (v.kind == 4 && decide ((v.items.length : Int) > 0))
      · simp only [cond_false, Bool.not_false, Bool.true_and]
        cases v.items.all (itemOf v.kind v.levels.length)
        · rfl
        · simp only [cond_true, Bool.true_and]
          rw [l4Is_parts hn ht hrec]
          cases v.parts.all (fun p => !(nest == 0) && R p) <;> rfl
      · rfl
    · have h4 : (v.kind == 4) = false := by have := eq_of_beq h0; rw [this]; rfl
      rw [hpar h4 hra]
      cases lenV v == 0 <;> simp
  · have h4 : (v.kind == 4) = false := by have := eq_of_beq h5; rw [this]; rfl
    rw [hpar h4 hra]
    unfold fifthB
    cases (v.items.length : Int) == 0
    · rfl
    cases (v.names.length : Int) == 0
    · rfl
    simp only [cond_true, Bool.true_and, Option.bind_some, List.all_nil, Bool.and_true]
    cases (decide (v.code ≥ -999) && decide (v.code ≤ 99999))
    · rfl
    · rfl
end Go.AM
