/- What a vector is, last part: the way down through the parts; IsVector. -/
import Derived.Test.YtmnadhgepopefaaFuFnExactIsKey
import Derived.Test.YtmnadhgepopefaaPuBaseFnExactIsKey
import Derived.Test.YtmnadhgepopefaaPuItemFnExactIsKey
import Derived.Test.YtmnadhgepopefaaPuVecFnExactIsKey
import Derived.Test.YtmnadhgepopefaaPuIsVFnExactIsKey
import Derived.Test.YtmnadhgepopefaaPuIsV2FnExactIsKey
import Derived.Test.YtmnadhgepopefaaPuIsV3FnExactIsKey

namespace Go.AM

theorem iter_fold {α σ X R : Type} {B : X → Option (Round X R)} (xs : List α) (mk : σ → Nat → X) (g : σ → α → σ)
    (step : ∀ i a s, xs[i]? = some a → B (mk s i) = some (.again (mk (g s a) (i + 1)))) (stop : ∀ s, B (mk s xs.length) = some (.stop (mk s xs.length))) {n : Nat} (hn : xs.length < n) (s : σ) :
    iter B n (mk s 0) = some (.inl (mk (xs.foldl g s) xs.length)) := by
  have h := iter_for (B := B) (R := R) xs mk (fun s a => .inl (g s a)) (fun _ _ => True) (fun i a s ha _ => step i a s ha) (fun _ _ _ _ _ _ _ => trivial) (fun s _ => stop s) hn s trivial
  have gen : ∀ (l : List α) (s : σ), forL (ρ := R) (fun s a => .inl (g s a)) l s = .inl (l.foldl g s) := by
    intro l
    induction l with
    | nil => intro s; rfl
    | cons a l ih => intro s; simp only [forL, List.foldl_cons]; exact ih _
  rw [gen] at h
  exact h

/-! ### At most so deep -/
def hb : Nat → Vec → Bool
  | 0, v => v.parts.all fun _ => false
  | d + 1, v => v.parts.all (hb d)
def pvd : Nat → Vec → Bool
  | 0, v => shapeB v
  | d + 1, v => shapeB v && v.parts.all (pvd d)
def isV : Nat → Vec → Bool
  | 0, v => shapeB v && v.parts.all fun _ => false
  | d + 1, v => shapeB v && v.parts.all (isV d)
theorem all_and {α : Type} (p q : α → Bool) (xs : List α) : xs.all (fun x => p x && q x) = (xs.all p && xs.all q) := by
  induction xs with
  | nil => rfl
  | cons a l ih =>
    simp only [List.all_cons, ih]
    cases p a <;> cases q a <;> cases l.all p <;> cases l.all q <;> rfl
theorem isV_split : ∀ (d : Nat) (v : Vec), isV d v = (hb d v && pvd d v) := by
  intro d
  induction d with
  | zero => intro v; unfold isV hb pvd; exact Bool.and_comm ..
  | succ d ih =>
    intro v
    unfold isV hb pvd
    rw [show isV d = fun x => hb d x && pvd d x from funext ih, all_and]
    cases shapeB v <;> cases v.parts.all (hb d) <;> cases v.parts.all (pvd d) <;> rfl

theorem l4Is_eq : ∀ (d : Nat), d ≤ 1000 → ∀ n, BIG + d + 1 ≤ n → ∀ v, VecOK v → tsVec v ≤ 68719476736 → spec_l4Is n v (d : Int) = some (isV d v) := by
  intro d
  induction d with
  | zero =>
    intro _ n hn v hv ht
    obtain ⟨m, rfl⟩ : ∃ m, n = m + 1 := ⟨n - 1, by omega⟩
    exact l4Is_b_eq (by omega) hv ht (R := fun _ => false) (fun h => absurd rfl h)
  | succ d ih =>
    intro hd n hn v hv ht
    obtain ⟨m, rfl⟩ : ∃ m, n = m + 1 := ⟨n - 1, by omega⟩
    have := l4Is_b_eq (rec := spec_l4Is m) (n := m) (by omega) hv ht (nest := ((d + 1 : Nat) : Int)) (R := isV d) (fun _ p hp => by
      rw [show w64 (((d + 1 : Nat) : Int) - 1) = (d : Int) by rw [w64_id (by omega) (by omega)]; omega]
      exact ih (by omega) m (by omega) p (hv.parts.2 p hp) (by have := tsVecS_mem hp; have := (fits ht).parts; omega))
    rw [show ((((d + 1 : Nat) : Int) == 0)) = false by rw [beq_eq_false_iff_ne]; omega] at this
    simp only [Bool.not_false, Bool.true_and] at this
    exact this
theorem partsValid_eq : ∀ (d : Nat), ∀ n, BIG + d + 1 ≤ n → ∀ v, VecOK v → tsVec v ≤ 68719476736 → hb d v = true → impl_partsValid n v = some (pvd d v) := by
  have core : ∀ (n : Nat) (rec : Vec → Option Bool) (R : Vec → Bool) (v : Vec), BIG ≤ n → VecOK v → tsVec v ≤ 68719476736 → (∀ p ∈ v.parts, rec p = some (R p)) → impl_partsValid_b rec n v = some (shapeB v && v.parts.all R) := by
    intro n rec R v hn hv ht hrec
    have hl := (fits ht).nparts
    have hh := iter_all (B := fun x : List Vec × Int × Int => impl_partsValid_r0 rec x.1 x.2.1 x.2.2) (R := Bool) v.parts (fun i => (v.parts, (v.parts.length : Int), (i : Int))) R false
      (fun i x hx => by
        have hi := (List.getElem?_eq_some_iff.1 hx).1
        dsimp only
        unfold impl_partsValid_r0
        simp only [idx_lt hx, nn, Bool.and_true, chk_true, cond_true, getD_cast hx, Vec.re_eq, w64_succ (show i + 1 ≤ 9223372036854775807 by omega), hrec x (List.mem_of_getElem? hx), Option.bind_some]
        cases R x <;> rfl)
      (by dsimp only; unfold impl_partsValid_r0; rw [idx_end]; rfl) (by unfold BIG at hn; omega : v.parts.length < n)
    unfold impl_partsValid_b
    simp only [Vec.re_eq, shapeValid_eq hn hv ht, Option.bind_some]
    rw [show impl_partsValid_l0 rec n (v.parts, (v.parts.length : Int), (0 : Int)) = _ from hh]
    cases shapeB v
    · rfl
    · cases v.parts.all R <;> rfl
  intro d
  induction d with
  | zero =>
    intro n hn v hv ht hd
    obtain ⟨m, rfl⟩ : ∃ m, n = m + 1 := ⟨n - 1, by omega⟩
    have hp : v.parts = [] := by
      unfold hb at hd
      cases h : v.parts with
      | nil => rfl
      | cons a l => rw [h] at hd; cases hd
    have := core m (impl_partsValid m) (fun _ => true) v (by omega) hv ht (fun p h => by rw [hp] at h; cases h)
    rw [hp] at this
    exact this.trans (by simp [pvd])
  | succ d ih =>
    intro n hn v hv ht hd
    obtain ⟨m, rfl⟩ : ∃ m, n = m + 1 := ⟨n - 1, by omega⟩
    unfold hb at hd
    rw [List.all_eq_true] at hd
    exact core m (impl_partsValid m) (pvd d) v (by omega) hv ht (fun p hp => ih m (by omega) p (hv.parts.2 p hp) (by have := tsVecS_mem hp; have := (fits ht).parts; omega) (hd p hp))

def nestV : Nat → Vec → Int
  | 0, _ => 1
  | r + 1, v => v.parts.foldl (fun out p => if 1 + nestV r p > out then 1 + nestV r p else out) 0
theorem foldl_most {α : Type} (t : α → Int) : ∀ (xs : List α) (s b : Int), (xs.foldl (fun out p => if t p > out then t p else out) s ≤ b) ↔ s ≤ b ∧ ∀ p ∈ xs, t p ≤ b := by
  intro xs
  induction xs with
  | nil => intro s b; simp
  | cons a l ih =>
    intro s b
    rw [List.foldl_cons, ih]
    simp only [List.mem_cons, forall_eq_or_imp]
    constructor
    · rintro ⟨h1, h2⟩
      split at h1 <;> exact ⟨by omega, by omega, h2⟩
    · rintro ⟨h1, h2, h3⟩
      exact ⟨by split <;> omega, h3⟩
theorem foldl_least {α : Type} (t : α → Int) : ∀ (xs : List α) (s : Int), s ≤ xs.foldl (fun out p => if t p > out then t p else out) s := by
  intro xs
  induction xs with
  | nil => intro s; exact Int.le_refl _
  | cons a l ih =>
    intro s
    rw [List.foldl_cons]
    have h := ih (if t a > s then t a else s)
    by_cases hc : t a > s
    · rw [if_pos hc] at h ⊢; omega
    · rw [if_neg hc] at h ⊢; omega
theorem nestV_range : ∀ (r : Nat) (v : Vec), 0 ≤ nestV r v ∧ nestV r v ≤ r + 1 := by
  intro r
  induction r with
  | zero => intro v; unfold nestV; omega
  | succ r ih =>
    intro v
    refine ⟨?_, ?_⟩
    · unfold nestV; exact foldl_least (fun p => 1 + nestV r p) v.parts 0
    · unfold nestV; exact (foldl_most (fun p => 1 + nestV r p) v.parts 0 _).2 ⟨by omega, fun p _ => by have := (ih p).2; omega⟩
theorem nest_eq : ∀ (r : Nat), r ≤ 1000 → ∀ n, BIG + r + 1 ≤ n → ∀ v, tsVec v ≤ 68719476736 → impl_nest n v (r : Int) = some (nestV r v) := by
  intro r
  induction r with
  | zero =>
    intro _ n hn v ht
    obtain ⟨m, rfl⟩ : ∃ m, n = m + 1 := ⟨n - 1, by omega⟩
    rfl
  | succ r ih =>
    intro hr n hn v ht
    obtain ⟨m, rfl⟩ : ∃ m, n = m + 1 := ⟨n - 1, by omega⟩
    have hl := (fits ht).nparts
    have hh := iter_fold (B := fun x : Int × Int × List Vec × Int × Int => impl_nest_r0 (impl_nest m) x.1 x.2.1 x.2.2.1 x.2.2.2.1 x.2.2.2.2) (R := Int) v.parts (fun (out : Int) i => (((r + 1 : Nat) : Int), out, v.parts, (v.parts.length : Int), (i : Int))) (fun out p => if 1 + nestV r p > out then 1 + nestV r p else out)
      (fun i x s hx => by
        have hi := (List.getElem?_eq_some_iff.1 hx).1
        have hx' := List.mem_of_getElem? hx
        have hb := nestV_range r x
        dsimp only
        unfold impl_nest_r0
        simp only [idx_lt hx, nn, Bool.and_true, chk_true, cond_true, getD_cast hx, Vec.re_eq, w64_succ (show i + 1 ≤ 9223372036854775807 by omega),
          show w64 (((r + 1 : Nat) : Int) - 1) = (r : Int) by rw [w64_id (by omega) (by omega)]; omega, ih (by omega) m (by omega) x (by have := tsVecS_mem hx'; have := (fits ht).parts; omega), Option.bind_some, w64_id (show -9223372036854775808 ≤ 1 + nestV r x by omega) (by omega)])
      (fun s => by dsimp only; unfold impl_nest_r0; rw [idx_end]; rfl) (by unfold BIG at hn; omega : v.parts.length < m) 0
    show impl_nest_b (impl_nest m) m v _ = _
    unfold impl_nest_b
    rw [show ((((r + 1 : Nat) : Int) == 0)) = false by rw [beq_eq_false_iff_ne]; omega]
    rw [cond_false, show impl_nest_l0 (impl_nest m) m (((r + 1 : Nat) : Int), (0 : Int), v.parts, (v.parts.length : Int), (0 : Int)) = _ from hh]
    rfl
theorem nest_hb : ∀ (d : Nat) (v : Vec), decide (nestV (d + 1) v ≤ d) = hb d v := by
  intro d
  induction d with
  | zero =>
    intro v
    unfold nestV hb
    rw [Bool.eq_iff_iff, decide_eq_true_iff, foldl_most (fun p => 1 + nestV 0 p), List.all_eq_true]
    constructor
    · rintro ⟨_, h⟩ p hp
      have := h p hp
      unfold nestV at this
      omega
    · intro h
      exact ⟨by omega, fun p hp => by cases h p hp⟩
  | succ d ih =>
    intro v
    unfold nestV hb
    rw [Bool.eq_iff_iff, decide_eq_true_iff, foldl_most (fun p => 1 + nestV (d + 1) p), List.all_eq_true]
    constructor
    · rintro ⟨_, h⟩ p hp
      rw [← ih, decide_eq_true_iff]
      have := h p hp
      omega
    · intro h
      refine ⟨by omega, fun p hp => ?_⟩
      have := h p hp
      rw [← ih, decide_eq_true_iff] at this
      omega

/-! ### Cells -/
def cellsV : Nat → Vec → Int
  | 0, v => lenV v
  | d + 1, v => v.parts.foldl (fun n p => w64 (n + cellsV d p)) (lenV v)
theorem hb_zero {v : Vec} (hd : hb 0 v = true) : v.parts = [] := by
  unfold hb at hd
  cases h : v.parts with
  | nil => rfl
  | cons a l => rw [h] at hd; cases hd
theorem l4Cells_eq : ∀ (d : Nat), ∀ n, BIG + d + 1 ≤ n → ∀ v, tsVec v ≤ 68719476736 → hb d v = true → spec_l4Cells n v = some (cellsV d v) := by
  have core : ∀ (n : Nat) (rec : Vec → Option Int) (R : Vec → Int) (v : Vec), BIG ≤ n → tsVec v ≤ 68719476736 → (∀ p ∈ v.parts, rec p = some (R p)) → spec_l4Cells_b rec n v = some (v.parts.foldl (fun n p => w64 (n + R p)) (lenV v)) := by
    intro n rec R v hn ht hrec
    have hl := (fits ht).nparts
    have hh := iter_fold (B := fun x : Vec × Int × Int => spec_l4Cells_r0 rec x.1 x.2.1 x.2.2) (R := Int) v.parts (fun (s : Int) i => (v, s, (i : Int))) (fun n p => w64 (n + R p))
      (fun i x s hx => by
        have hi := (List.getElem?_eq_some_iff.1 hx).1
        dsimp only
        unfold spec_l4Cells_r0
        simp only [idx_lt hx, nn, Bool.and_true, chk_true, cond_true, getD_cast hx, Vec.re_eq, w64_succ (show i + 1 ≤ 9223372036854775807 by omega), hrec x (List.mem_of_getElem? hx), Option.bind_some])
      (fun s => by dsimp only; unfold spec_l4Cells_r0; rw [idx_end]; simp only [cond_false, Vec.re_eq]) (by unfold BIG at hn; omega : v.parts.length < n) (lenV v)
    unfold spec_l4Cells_b
    simp only [Vec.re_eq, l4Len_eq, Option.bind_some]
    rw [show spec_l4Cells_l0 rec n (v, lenV v, (0 : Int)) = _ from hh]
    rfl
  intro d
  induction d with
  | zero =>
    intro n hn v ht hd
    obtain ⟨m, rfl⟩ : ∃ m, n = m + 1 := ⟨n - 1, by omega⟩
    have hp := hb_zero hd
    have := core m (spec_l4Cells m) (fun _ => 0) v (by omega) ht (fun p h => by rw [hp] at h; cases h)
    rw [hp] at this
    exact this
  | succ d ih =>
    intro n hn v ht hd
    obtain ⟨m, rfl⟩ : ∃ m, n = m + 1 := ⟨n - 1, by omega⟩
    unfold hb at hd
    rw [List.all_eq_true] at hd
    exact core m (spec_l4Cells m) (cellsV d) v (by omega) ht (fun p hp => ih m (by omega) p (by have := tsVecS_mem hp; have := (fits ht).parts; omega) (hd p hp))
theorem cells_eq : ∀ (d : Nat), ∀ n, BIG + d + 1 ≤ n → ∀ v, tsVec v ≤ 68719476736 → hb d v = true → impl_cells n v = some (cellsV d v) := by
  have core : ∀ (n : Nat) (rec : Vec → Option Int) (R : Vec → Int) (v : Vec), BIG ≤ n → tsVec v ≤ 68719476736 → (∀ p ∈ v.parts, rec p = some (R p)) → impl_cells_b rec n v = some (v.parts.foldl (fun n p => w64 (n + R p)) (lenV v)) := by
    intro n rec R v hn ht hrec
    have hl := (fits ht).nparts
    have hh := iter_fold (B := fun x : Int × List Vec × Int × Int => impl_cells_r0 rec x.1 x.2.1 x.2.2.1 x.2.2.2) (R := Int) v.parts (fun (s : Int) i => (s, v.parts, (v.parts.length : Int), (i : Int))) (fun n p => w64 (n + R p))
      (fun i x s hx => by
        have hi := (List.getElem?_eq_some_iff.1 hx).1
        dsimp only
        unfold impl_cells_r0
        simp only [idx_lt hx, nn, Bool.and_true, chk_true, cond_true, getD_cast hx, Vec.re_eq, w64_succ (show i + 1 ≤ 9223372036854775807 by omega), hrec x (List.mem_of_getElem? hx), Option.bind_some])
      (fun s => by dsimp only; unfold impl_cells_r0; rw [idx_end]; rfl) (by unfold BIG at hn; omega : v.parts.length < n) (lenV v)
    unfold impl_cells_b
    simp only [Vec.re_eq, length_eq, Option.bind_some]
    rw [show impl_cells_l0 rec n (lenV v, v.parts, (v.parts.length : Int), (0 : Int)) = _ from hh]
    rfl
  intro d
  induction d with
  | zero =>
    intro n hn v ht hd
    obtain ⟨m, rfl⟩ : ∃ m, n = m + 1 := ⟨n - 1, by omega⟩
    have hp := hb_zero hd
    have := core m (impl_cells m) (fun _ => 0) v (by omega) ht (fun p h => by rw [hp] at h; cases h)
    rw [hp] at this
    exact this
  | succ d ih =>
    intro n hn v ht hd
    obtain ⟨m, rfl⟩ : ∃ m, n = m + 1 := ⟨n - 1, by omega⟩
    unfold hb at hd
    rw [List.all_eq_true] at hd
    exact core m (impl_cells m) (cellsV d) v (by omega) ht (fun p hp => ih m (by omega) p (by have := tsVecS_mem hp; have := (fits ht).parts; omega) (hd p hp))

/-! ### IsVector -/
def vecB (v : Vec) : Bool := isV 3 v && decide (cellsV 3 v ≤ 200)
theorem spec_IsVector_eq {n : Nat} (hn : FUEL ≤ n) {v : Vec} (hv : VecOK v) (ht : tsVec v ≤ 68719476736) : spec_IsVector n v = some (vecB v) := by
  have hb' : BIG + 3 + 1 ≤ n := by unfold FUEL BIG at hn; unfold BIG; omega
  unfold spec_IsVector vecB
  simp only [Vec.re_eq]
  rw [show spec_l4Is n v 3 = some (isV 3 v) from l4Is_eq 3 (by omega) n hb' v hv ht]
  cases h : isV 3 v
  · rfl
  · have hh : hb 3 v = true := by rw [isV_split, Bool.and_eq_true] at h; exact h.1
    simp only [Option.bind_some, cond_true, Bool.true_and]
    rw [l4Cells_eq 3 n hb' v ht hh]
    rfl
theorem impl_IsVector_eq {n : Nat} (hn : FUEL ≤ n) {v : Vec} (hv : VecOK v) (ht : tsVec v ≤ 68719476736) : impl_IsVector n v = some (vecB v) := by
  have hb' : BIG + 4 + 1 ≤ n := by unfold FUEL BIG at hn; unfold BIG; omega
  unfold impl_IsVector vecB
  simp only [Vec.re_eq]
  rw [show impl_nest n v 4 = some (nestV 4 v) from nest_eq 4 (by omega) n hb' v ht]
  have h1 := nest_hb 3 v
  simp only [Option.bind_some, show decide (nestV 4 v ≤ 3) = hb 3 v from h1, isV_split]
  cases h : hb 3 v
  · rfl
  · simp only [cond_true, Bool.true_and, partsValid_eq 3 n (by omega) v hv ht h, cells_eq 3 n (by omega) v ht h, Option.bind_some]
    cases pvd 3 v <;> rfl
end Go.AM
