/- Items in plain words: sizes, copies, equality, what a number is. -/
import Derived.Test.YtmnadhgepopefaaFuFnExactIsKey
import Derived.Test.YtmnadhgepopefaaPuBaseFnExactIsKey

namespace Go.AM

def tsItem (x : Item) : Int := x.text.size
def tsItemS (xs : List Item) : Int := xs.length + sumT tsItem xs
def ALLOW : Int := 68719476736

theorem szItem_eq {a : Item} {left : Int} (ha : ItOK a) (h0 : 0 ≤ left) (h1 : left ≤ 68719476736) : laws_szItem a left = some (capd left (tsItem a)) := by
  obtain ⟨_, _, h2⟩ := ha
  unfold LenOK at h2
  have e : w64 (left - (a.text.size : Int)) = left - (a.text.size : Int) := w64_id (by omega) (by omega)
  unfold laws_szItem capd tsItem
  rw [e]
  by_cases h : (a.text.size : Int) ≤ left
  · rw [if_pos h, decide_eq_false (by omega)]; rfl
  · rw [if_neg h, decide_eq_true (by omega)]; rfl

theorem capd_neg {left t : Int} (h : ¬ t ≤ left) : capd left t = -1 := if_neg h
theorem capd_pos {left t : Int} (h : t ≤ left) : capd left t = left - t := if_pos h

theorem szItemS_eq {n : Nat} (hn : BIG ≤ n) {a : List Item} {left : Int} (ha : ItsOK a) (h0 : 0 ≤ left) (h1 : left ≤ 68719476736) : laws_szItemS n a left = some (capd left (tsItemS a)) := by
  obtain ⟨hl, ha⟩ := ha
  unfold LenOK at hl
  have e : w64 (left - (a.length : Int)) = left - (a.length : Int) := w64_id (by omega) (by omega)
  have hs : 0 ≤ sumT tsItem a := sumT_nonneg fun x _ => by unfold tsItem; omega
  unfold laws_szItemS
  rw [e]
  by_cases h : (a.length : Int) ≤ left
  · rw [decide_eq_false (by omega : ¬ left - (a.length : Int) < 0)]
    have hh := iter_for (B := fun x : List Item × Int × Int => laws_szItemS_r0 x.1 x.2.1 x.2.2) (R := Int) a (fun (s : Int) i => (a, s, (i : Int))) (fun s x => if tsItem x ≤ s then Sum.inl (s - tsItem x) else Sum.inr (-1 : Int)) (fun _ s => 0 ≤ s ∧ s ≤ 68719476736)
      (fun i x s hx hI => by
        have hxa := ha x (List.mem_of_getElem? hx)
        have hi := (List.getElem?_eq_some_iff.1 hx).1
        dsimp only
        unfold laws_szItemS_r0
        simp only [idx_lt hx, nn, Bool.and_true, chk_true, cond_true, getD_cast hx, szItem_eq hxa hI.1 hI.2, w64_succ (show i + 1 ≤ 9223372036854775807 by omega), Option.bind_some]
        by_cases hc : tsItem x ≤ s
        · rw [capd_pos hc, if_pos hc, decide_eq_false (by omega)]; rfl
        · rw [capd_neg hc, if_neg hc]; rfl)
      (fun i x s s' _ hI he => by
        by_cases hc : tsItem x ≤ s
        · rw [if_pos hc] at he; cases he; have : 0 ≤ tsItem x := by unfold tsItem; omega
          exact ⟨by omega, by omega⟩
        · rw [if_neg hc] at he; cases he)
      (fun s hI => by dsimp only; unfold laws_szItemS_r0; rw [idx_end]; rfl) (by unfold BIG at hn; omega : a.length < n) (left - a.length) ⟨by omega, by omega⟩
    rw [forL_sz tsItem a _ (fun x _ => by unfold tsItem; omega) (by omega)] at hh
    unfold laws_szItemS_l0
    simp only [cond_false]
    rw [show (0 : Int) = ((0 : Nat) : Int) from rfl, hh]
    unfold tsItemS
    by_cases hc : sumT tsItem a ≤ left - a.length
    · rw [if_pos hc, capd_pos (by omega)]; simp only [Option.bind_some, lpK]; congr 1; omega
    · rw [if_neg hc, capd_neg (by omega)]; rfl
  · rw [decide_eq_true (by omega)]
    unfold tsItemS
    rw [capd_neg (by omega)]; rfl

theorem capd_ge {left t : Int} (h : 0 ≤ capd left t) : t ≤ left := by
  unfold capd at h
  split at h <;> omega
theorem capd_lt {left t : Int} (h : t ≤ left) : decide (capd left t < 0) = false := by
  rw [capd_pos h]; exact decide_eq_false (by omega)
theorem capd_no {left t : Int} (h : ¬ t ≤ left) : decide (capd left t < 0) = true := by
  rw [capd_neg h]; rfl

theorem toItemS_eq {n : Nat} (hn : BIG ≤ n) {a : List Item} (hl : a.length ≤ 68719476736) : laws_toItemS n a = some a := by
  have hh := iter_map (B := fun x : List Item × List Item × Int => laws_toItemS_r0 x.1 x.2.1 x.2.2) (R := List Item) a zI (fun out i => (a, out, (i : Int))) id
    (fun i x out hx ho hl' => by
      dsimp only
      unfold laws_toItemS_r0
      simp only [idx_lt hx, lt_len ho, nn, Bool.and_true, chk_true, cond_true, getD_cast hx, w64_succ (show i + 1 ≤ 9223372036854775807 by omega)]
      rfl)
    (fun out ho => by dsimp only; unfold laws_toItemS_r0; rw [idx_end]; rfl) (by unfold BIG at hn; omega : a.length < n)
  unfold laws_toItemS laws_toItemS_l0
  rw [chk_of (by unfold LIM; simp; omega)]
  rw [show (0 : Int) = ((0 : Nat) : Int) from rfl, Int.toNat_natCast, hh]
  simp [lpK]

theorem eqItem_self (x : Item) : laws_eqItem x x = some true := by
  unfold laws_eqItem
  simp
theorem eqItemS_self {n : Nat} (hn : BIG ≤ n) {a : List Item} (hl : a.length ≤ 68719476736) : laws_eqItemS n a a = some true := by
  have hh := iter_all (B := fun x : List Item × List Item × Int => laws_eqItemS_r0 x.1 x.2.1 x.2.2) (R := Bool) a (fun i => (a, a, (i : Int))) (fun _ => true) false
    (fun i x hx => by
      have hi := (List.getElem?_eq_some_iff.1 hx).1
      dsimp only
      unfold laws_eqItemS_r0
      simp only [idx_lt hx, nn, Bool.and_true, chk_true, cond_true, getD_cast hx, w64_succ (show i + 1 ≤ 9223372036854775807 by omega), eqItem_self]
      rfl)
    (by dsimp only; unfold laws_eqItemS_r0; rw [idx_end]; rfl) (by unfold BIG at hn; omega : a.length < n)
  unfold laws_eqItemS laws_eqItemS_l0
  rw [show (0 : Int) = ((0 : Nat) : Int) from rfl, hh, show (a.all fun _ => true) = true from List.all_eq_true.2 fun _ _ => rfl]
  simp [lpK]

/-! ### Numbers -/
theorem gcd_ends : ∀ (k : Nat) (x y : Int), y.natAbs ≤ k → ∀ n, k < n → ∃ r, iter (fun x : Int × Int => spec_l2Gcd_r0 x.1 x.2) n (x, y) = some (.inl r) := by
  intro k
  induction k with
  | zero =>
    intro x y hy n hn
    obtain ⟨m, rfl⟩ : ∃ m, n = m + 1 := ⟨n - 1, by omega⟩
    have : y = 0 := by omega
    subst this
    exact ⟨_, rfl⟩
  | succ k ih =>
    intro x y hy n hn
    obtain ⟨m, rfl⟩ : ∃ m, n = m + 1 := ⟨n - 1, by omega⟩
    by_cases h : y = 0
    · subst h; exact ⟨_, rfl⟩
    · obtain ⟨r, hr⟩ := ih y (Int.tmod x y) (by
        rw [Int.natAbs_tmod]
        have := Nat.mod_lt x.natAbs (y := y.natAbs) (by omega)
        omega) m (by omega)
      refine ⟨r, ?_⟩
      rw [iter_succ]
      unfold spec_l2Gcd_r0
      rw [show (y != 0) = true by simp [h], show (y == 0) = false by simp [h]]
      exact hr
def gcdV (a b : Int) : Int := (spec_l2Gcd BIG a b).getD 0
theorem w64_range (x : Int) : I64 (w64 x) := by
  unfold w64 I64
  rw [IntKind.wrap_i64]
  omega
theorem l2Abs_eq (x : Int) : spec_l2Abs x = some (bif decide (x < 0) then w64 (0 - x) else x) := by
  unfold spec_l2Abs
  cases decide (x < 0) <;> rfl
theorem l2Gcd_eq {n : Nat} (hn : BIG ≤ n) {a b : Int} (hb : I64 b) : spec_l2Gcd n a b = some (gcdV a b) := by
  have hB : I64 (bif decide (b < 0) then w64 (0 - b) else b) := by
    cases decide (b < 0)
    · exact hb
    · exact w64_range _
  obtain ⟨r, hr⟩ := gcd_ends 9223372036854775808 (bif decide (a < 0) then w64 (0 - a) else a) (bif decide (b < 0) then w64 (0 - b) else b) (by unfold I64 at hB; omega) BIG (by decide)
  have hr' := iter_mono hr n hn
  unfold gcdV spec_l2Gcd spec_l2Gcd_l0
  simp only [l2Abs_eq, Option.bind_some, hr, hr']
  rfl
theorem gcd_l2Gcd (n : Nat) (a b : Int) : impl_gcd n a b = spec_l2Gcd n a b := by
  unfold impl_gcd impl_gcd_j1 impl_gcd_j2 spec_l2Gcd
  simp only [l2Abs_eq, Option.bind_some]
  cases decide (a < 0) <;> cases decide (b < 0) <;> rfl
theorem gcd_eq {n : Nat} (hn : BIG ≤ n) {a b : Int} (hb : I64 b) : impl_gcd n a b = some (gcdV a b) := by rw [gcd_l2Gcd, l2Gcd_eq hn hb]

def isNumber (x : Item) : Bool := strEq x.text zS && (decide (x.den ≥ 1) && (decide (x.den ≤ 999999999) && (decide (x.num ≥ -999999999) && (decide (x.num ≤ 999999999) && gcdV x.num x.den == 1))))
theorem spec_IsNumber_eq {n : Nat} (hn : BIG ≤ n) {x : Item} (hx : ItOK x) : spec_IsNumber n x = some (isNumber x) := by
  unfold spec_IsNumber isNumber spec_l1In
  rw [l2Gcd_eq hn hx.2.1]
  cases strEq x.text zS <;> cases decide (x.den ≥ 1) <;> cases decide (x.den ≤ 999999999) <;> cases decide (x.num ≥ -999999999) <;> cases decide (x.num ≤ 999999999) <;> rfl
theorem impl_IsNumber_eq {n : Nat} (hn : BIG ≤ n) {x : Item} (hx : ItOK x) : impl_IsNumber n x = some (isNumber x) := by
  unfold impl_IsNumber isNumber
  rw [gcd_eq hn hx.2.1]
  cases strEq x.text zS <;> cases decide (x.den ≥ 1) <;> cases decide (x.den ≤ 999999999) <;> cases decide (x.num ≥ -999999999) <;> cases decide (x.num ≤ 999999999) <;> rfl

theorem not_ge (a b : Int) : decide (a ≥ b) = !decide (a < b) := by
  by_cases h : a < b <;> simp [h] <;> omega
theorem not_le (a b : Int) : decide (a ≤ b) = !decide (a > b) := by
  by_cases h : a > b <;> simp [h] <;> omega
end Go.AM
