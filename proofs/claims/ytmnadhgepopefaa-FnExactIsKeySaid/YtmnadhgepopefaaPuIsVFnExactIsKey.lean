/- What a vector is: the reference's test and the program's test agree. -/
import Derived.Test.YtmnadhgepopefaaFuFnExactIsKey
import Derived.Test.YtmnadhgepopefaaPuBaseFnExactIsKey
import Derived.Test.YtmnadhgepopefaaPuItemFnExactIsKey
import Derived.Test.YtmnadhgepopefaaPuVecFnExactIsKey

namespace Go.AM

/-- All elements, each with its place. -/
def alli {α : Type} (p : Nat → α → Bool) : Nat → List α → Bool
  | _, [] => true
  | i, a :: l => p i a && alli p (i + 1) l
theorem iter_alli {α X R : Type} {B : X → Option (Round X R)} (xs : List α) (mk : Nat → X) (p : Nat → α → Bool) (r : R)
    (step : ∀ i a, xs[i]? = some a → B (mk i) = some (bif p i a then .again (mk (i + 1)) else .ret r))
    (stop : B (mk xs.length) = some (.stop (mk xs.length))) {n : Nat} (hn : xs.length < n) :
    iter B n (mk 0) = some (bif alli p 0 xs then .inl (mk xs.length) else .inr r) := by
  have h := iter_for (B := B) xs (fun (_ : Nat) i => mk i) (fun j a => bif p j a then .inl (j + 1) else .inr r) (fun i j => j = i)
    (fun i a s ha hI => by subst hI; rw [step s a ha]; cases p s a <;> rfl) (fun i a s s' _ hI he => by
      subst hI
      cases hp : p s a
      · rw [hp] at he; cases he
      · rw [hp] at he; cases he; rfl) (fun _ _ => stop) hn 0 rfl
  have gen : ∀ (l : List α) (j : Nat), forL (fun j a => bif p j a then .inl (j + 1) else .inr r) l j = bif alli p j l then .inl (j + l.length) else .inr r := by
    intro l
    induction l with
    | nil => intro j; rfl
    | cons a l ih =>
      intro j
      simp only [forL, alli]
      cases p j a
      · rfl
      · simp only [cond_true, Bool.true_and]
        rw [ih]
        simp only [List.length_cons]
        rw [show j + 1 + l.length = j + (l.length + 1) by omega]
  rw [gen] at h
  rw [h]
  cases alli p 0 xs <;> rfl
theorem alli_const {α : Type} (p : α → Bool) : ∀ (xs : List α) (i : Nat), alli (fun _ a => p a) i xs = xs.all p := by
  intro xs
  induction xs with
  | nil => intro i; rfl
  | cons a l ih => intro i; simp only [alli, List.all_cons, ih]
theorem alli_congr {α : Type} {p q : Nat → α → Bool} : ∀ {xs : List α} {i : Nat}, (∀ j a, xs[j]? = some a → p (i + j) a = q (i + j) a) → alli p i xs = alli q i xs := by
  intro xs
  induction xs with
  | nil => intro i _; rfl
  | cons a l ih =>
    intro i h
    have h0 := h 0 a rfl
    simp only [Nat.add_zero] at h0
    simp only [alli, h0]
    congr 1
    exact ih fun j b hj => by have := h (j + 1) b (by simpa using hj); rw [show i + 1 + j = i + (j + 1) by omega]; exact this

/-! ### Finding a text -/
def findS (xs : List ByteArray) (s : ByteArray) : Option Nat := xs.findIdx? (fun x => strEq x s)
def atOr (r : Option Nat) : Int := match r with | some i => (i : Int) | none => -1
theorem forL_find {α : Type} (p : α → Bool) : ∀ (xs : List α) (j : Nat), forL (fun (j : Nat) a => if p a then Sum.inr (j : Int) else Sum.inl (j + 1)) xs j = match xs.findIdx? p with | some k => .inr ((j + k : Nat) : Int) | none => .inl (j + xs.length) := by
  intro xs
  induction xs with
  | nil => intro j; rfl
  | cons a l ih =>
    intro j
    simp only [forL, List.findIdx?_cons]
    by_cases hp : p a = true
    · simp [hp]
    · rw [if_neg hp]
      dsimp only
      rw [ih, if_neg hp]
      cases l.findIdx? p with
      | none => simp; omega
      | some k => simp; omega
theorem iter_find {α X : Type} {B : X → Option (Round X Int)} (xs : List α) (mk : Nat → X) (p : α → Bool)
    (step : ∀ i a, xs[i]? = some a → B (mk i) = some (bif p a then .ret (i : Int) else .again (mk (i + 1))))
    (stop : B (mk xs.length) = some (.stop (mk xs.length))) {n : Nat} (hn : xs.length < n) :
    iter B n (mk 0) = some (match xs.findIdx? p with | some k => .inr (k : Int) | none => .inl (mk xs.length)) := by
  have h := iter_for (B := B) xs (fun (_ : Nat) i => mk i) (fun j a => if p a then Sum.inr (j : Int) else Sum.inl (j + 1)) (fun i j => j = i)
    (fun i a s ha hI => by subst hI; rw [step s a ha]; cases p a <;> rfl) (fun i a s s' _ hI he => by
      subst hI
      by_cases hp : p a = true
      · rw [if_pos hp] at he; cases he
      · rw [if_neg hp] at he; cases he; rfl) (fun _ _ => stop) hn 0 rfl
  rw [forL_find] at h
  rw [h]
  cases xs.findIdx? p with
  | none => rfl
  | some k => simp
theorem l1Find_eq {n : Nat} (hn : BIG ≤ n) {xs : List ByteArray} (hl : xs.length ≤ 68719476736) (s : ByteArray) : spec_l1Find n xs s = some (atOr (findS xs s)) := by
  have hh := iter_find (B := fun x : List ByteArray × ByteArray × Int => spec_l1Find_r0 x.1 x.2.1 x.2.2) xs (fun i => (xs, s, (i : Int))) (fun x => strEq x s)
    (fun i x hx => by
      have hi := (List.getElem?_eq_some_iff.1 hx).1
      dsimp only
      unfold spec_l1Find_r0
      simp only [idx_lt hx, nn, Bool.and_true, chk_true, cond_true, getD_cast hx, w64_succ (show i + 1 ≤ 9223372036854775807 by omega)]
      cases strEq x s <;> rfl)
    (by dsimp only; unfold spec_l1Find_r0; rw [idx_end]; rfl) (by unfold BIG at hn; omega : xs.length < n)
  unfold spec_l1Find spec_l1Find_l0
  rw [show (0 : Int) = ((0 : Nat) : Int) from rfl, hh]
  unfold findS atOr
  cases xs.findIdx? (fun x => strEq x s) <;> rfl
theorem textIndex_eq {n : Nat} (hn : BIG ≤ n) {xs : List ByteArray} (hl : xs.length ≤ 68719476736) (s : ByteArray) : impl_textIndex n xs s = some (atOr (findS xs s)) := by
  have hh := iter_find (B := fun x : ByteArray × List ByteArray × Int × Int => impl_textIndex_r0 x.1 x.2.1 x.2.2.1 x.2.2.2) xs (fun i => (s, xs, (xs.length : Int), (i : Int))) (fun x => strEq x s)
    (fun i x hx => by
      have hi := (List.getElem?_eq_some_iff.1 hx).1
      dsimp only
      unfold impl_textIndex_r0
      simp only [idx_lt hx, nn, Bool.and_true, chk_true, cond_true, getD_cast hx, w64_succ (show i + 1 ≤ 9223372036854775807 by omega)]
      cases strEq x s <;> rfl)
    (by dsimp only; unfold impl_textIndex_r0; rw [idx_end]; rfl) (by unfold BIG at hn; omega : xs.length < n)
  unfold impl_textIndex impl_textIndex_l0
  rw [show (0 : Int) = ((0 : Nat) : Int) from rfl, hh]
  unfold findS atOr
  cases xs.findIdx? (fun x => strEq x s) <;> rfl
def hasS (xs : List ByteArray) (s : ByteArray) : Bool := xs.any (fun x => strEq x s)
theorem atOr_ge (xs : List ByteArray) (s : ByteArray) : decide (atOr (findS xs s) ≥ 0) = hasS xs s := by
  unfold findS hasS
  rw [← List.findIdx?_isSome]
  cases h : xs.findIdx? (fun x => strEq x s) with
  | none => rfl
  | some k => simp [atOr]
theorem hasText_eq {n : Nat} (hn : BIG ≤ n) {xs : List ByteArray} (hl : xs.length ≤ 68719476736) (s : ByteArray) : impl_hasText n xs s = some (hasS xs s) := by
  unfold impl_hasText
  rw [textIndex_eq hn hl]
  show some (decide (atOr (findS xs s) ≥ 0)) = _
  rw [atOr_ge]
/-- An element's first place lies before i: it occurs before i. -/
theorem find_before {xs : List ByteArray} {i : Nat} {s : ByteArray} (h : xs[i]? = some s) : decide (atOr (findS xs s) < (i : Int)) = hasS (xs.take i) s := by
  unfold findS hasS
  cases hf : xs.findIdx? (fun x => strEq x s) with
  | none =>
    rw [List.findIdx?_eq_none_iff] at hf
    have := hf s (List.mem_of_getElem? h)
    simp at this
  | some k =>
    rw [List.findIdx?_eq_some_iff_getElem] at hf
    obtain ⟨hk, h1, h2⟩ := hf
    by_cases hki : k < i
    · rw [show decide (atOr (some k) < (i : Int)) = true from decide_eq_true (show (k : Int) < i by omega)]
      symm
      rw [List.any_eq_true]
      exact ⟨xs[k], by rw [List.mem_take_iff_getElem]; exact ⟨k, by omega, rfl⟩, h1⟩
    · rw [show decide (atOr (some k) < (i : Int)) = false from decide_eq_false (show ¬ (k : Int) < i by omega)]
      symm
      rw [List.any_eq_false]
      intro x hx
      rw [List.mem_take_iff_getElem] at hx
      obtain ⟨j, hj, rfl⟩ := hx
      have := h2 j (by omega)
      simpa using this

/-! ### Labels, names -/
def labelAt (list : List ByteArray) (i : Nat) (x : ByteArray) : Bool := !(bif (bif strEq x zS then true else decide ((x.size : Int) > 60)) then true else hasS (list.take i) x)
def labelsB (list : List ByteArray) (most : Int) : Bool := decide ((list.length : Int) ≤ most) && alli (labelAt list) 0 list
theorem take_get {α : Type} {xs : List α} {k i : Nat} {a : α} (h : (xs.take k)[i]? = some a) : xs[i]? = some a ∧ i < k := by
  rw [List.getElem?_take] at h
  by_cases hk : i < k
  · rw [if_pos hk] at h; exact ⟨h, hk⟩
  · rw [if_neg hk] at h; cases h
theorem l4Labels_eq {n : Nat} (hn : BIG ≤ n) {xs : List ByteArray} (hl : xs.length ≤ 68719476736) {most : Nat} (hm : most ≤ 1000) : spec_l4Labels n xs most = some (labelsB xs most) := by
  have round : ∀ (i : Nat) x, xs[i]? = some x → i ≤ most → spec_l4Labels_r0 n xs most i = some (bif labelAt xs i x then .again (xs, (most : Int), ((i + 1 : Nat) : Int)) else .ret false) := by
    intro i x hx him
    have hi := (List.getElem?_eq_some_iff.1 hx).1
    unfold spec_l4Labels_r0 labelAt
    simp only [idx_lt hx, decide_eq_true (show (i : Int) ≤ (most : Int) by omega), nn, Bool.and_true, Bool.or_true, chk_true, cond_true, getD_cast hx, w64_succ (show i + 1 ≤ 9223372036854775807 by omega), l1Find_eq hn hl, ← find_before hx]
    cases (bif strEq x zS then true else decide ((x.size : Int) > 60))
    · simp only [Bool.not_false, cond_true, cond_false, Option.bind_some]
      cases decide (atOr (findS xs x) < (i : Int)) <;> rfl
    · rfl
  by_cases hle : xs.length ≤ most
  · have hh := iter_alli (B := fun x : List ByteArray × Int × Int => spec_l4Labels_r0 n x.1 x.2.1 x.2.2) (R := Bool) xs (fun i => (xs, (most : Int), (i : Int))) (labelAt xs) false
      (fun i x hx => round i x hx (by have := (List.getElem?_eq_some_iff.1 hx).1; omega))
      (by dsimp only; unfold spec_l4Labels_r0; rw [idx_end]; rfl) (by unfold BIG at hn; omega : xs.length < n)
    unfold spec_l4Labels spec_l4Labels_l0 labelsB
    rw [show (0 : Int) = ((0 : Nat) : Int) from rfl, hh, decide_eq_true (show (xs.length : Int) ≤ (most : Int) by omega)]
    cases alli (labelAt xs) 0 xs
    · rfl
    · simp [lpK]; omega
  · have hlen : (xs.take (most + 1)).length = most + 1 := by rw [List.length_take]; omega
    have hh := iter_alli (B := fun x : List ByteArray × Int × Int => spec_l4Labels_r0 n x.1 x.2.1 x.2.2) (R := Bool) (xs.take (most + 1)) (fun i => (xs, (most : Int), (i : Int))) (labelAt xs) false
      (fun i x hx => round i x (take_get hx).1 (by have := (take_get hx).2; omega))
      (by dsimp only; rw [hlen]; unfold spec_l4Labels_r0; rw [decide_eq_false (show ¬ (((most + 1 : Nat) : Int) ≤ (most : Int)) by omega)]; cases decide (((most + 1 : Nat) : Int) < (xs.length : Int)) <;> rfl) (by unfold BIG at hn; omega : (xs.take (most + 1)).length < n)
    unfold spec_l4Labels spec_l4Labels_l0 labelsB
    rw [show (0 : Int) = ((0 : Nat) : Int) from rfl, hh, decide_eq_false (show ¬ (xs.length : Int) ≤ (most : Int) by omega)]
    cases alli (labelAt xs) 0 (xs.take (most + 1))
    · rfl
    · simp [lpK]; omega
theorem labelsValid_eq {n : Nat} (hn : BIG ≤ n) {xs : List ByteArray} (hl : xs.length ≤ 68719476736) (most : Int) : impl_labelsValid n xs most = some (labelsB xs most) := by
  have hh := iter_alli (B := fun x : List ByteArray × List ByteArray × Int × Int => impl_labelsValid_r0 n x.1 x.2.1 x.2.2.1 x.2.2.2) (R := Bool) xs (fun i => (xs, xs, (xs.length : Int), (i : Int))) (labelAt xs) false
    (fun i x hx => by
      have hi := (List.getElem?_eq_some_iff.1 hx).1
      dsimp only
      unfold impl_labelsValid_r0 labelAt
      simp only [idx_lt hx, decide_eq_true (show (i : Int) ≤ (xs.length : Int) by omega), decide_eq_true (show (0 : Int) ≤ 0 by omega), nn, Bool.and_true, Bool.or_true, chk_true, cond_true, getD_of hx, Int.toNat_natCast, Int.toNat_zero, List.drop_zero, w64_succ (show i + 1 ≤ 9223372036854775807 by omega),
        hasText_eq hn (show (xs.take i).length ≤ 68719476736 by rw [List.length_take]; omega)]
      cases (bif strEq x zS then true else decide ((x.size : Int) > 60))
      · simp only [Bool.not_false, cond_true, cond_false, Option.bind_some]
        cases hasS (xs.take i) x <;> rfl
      · rfl)
    (by dsimp only; unfold impl_labelsValid_r0; rw [idx_end]; rfl) (by unfold BIG at hn; omega : xs.length < n)
  unfold impl_labelsValid impl_labelsValid_l0 labelsB
  rw [not_le]
  cases decide ((xs.length : Int) > most)
  · simp only [cond_false, Bool.not_false, Bool.true_and]
    rw [show (0 : Int) = ((0 : Nat) : Int) from rfl, hh]
    cases alli (labelAt xs) 0 xs <;> rfl
  · rfl
end Go.AM
