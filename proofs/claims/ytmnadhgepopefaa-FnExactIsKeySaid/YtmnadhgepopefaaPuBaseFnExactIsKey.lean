/- Plain words on typed data: ranges, sizes, counted loops of usual shapes. -/
import Derived.Test.YtmnadhgepopefaaFuFnExactIsKey

namespace Go.AM

def I64 (x : Int) : Prop := -9223372036854775808 ≤ x ∧ x ≤ 9223372036854775807
/-- Lists and strings that a Go slice or string can hold. -/
def LenOK (k : Nat) : Prop := k ≤ 9223372036854775807
def ItOK (x : Item) : Prop := I64 x.num ∧ I64 x.den ∧ LenOK x.text.size
def ItsOK (xs : List Item) : Prop := LenOK xs.length ∧ ∀ x ∈ xs, ItOK x

theorem wfc_i64 {x : Int} (h : WfC (.int .i64 x)) : I64 x := by
  cases h with
  | int _ _ h1 h2 => exact ⟨h1, h2⟩
theorem wfc_str {x : ByteArray} (h : WfC (.str x)) : LenOK x.size := by
  cases h with
  | str _ h => exact h
theorem wf_item {x : Item} (h : ∀ c ∈ unpack .item x, WfC c) : ItOK x :=
  ⟨wfc_i64 (h _ (by simp [unpack])), wfc_i64 (h _ (by simp [unpack])), wfc_str (h _ (by simp [unpack]))⟩
theorem wfc_items {xs : List Item} (h : WfC (.sl .item xs)) : ItsOK xs := by
  cases h with
  | sl _ _ h he => exact ⟨h, fun x hx => wf_item (he x hx)⟩

/-! ### Sizes: what is left of the allowance, or -1 -/
def capd (left t : Int) : Int := if t ≤ left then left - t else -1
def sumT {α : Type} (t : α → Int) (xs : List α) : Int := (xs.map t).sum
@[simp] theorem sumT_nil {α : Type} (t : α → Int) : sumT t [] = 0 := rfl
@[simp] theorem sumT_cons {α : Type} (t : α → Int) (a : α) (xs : List α) : sumT t (a :: xs) = t a + sumT t xs := by simp [sumT]
theorem sumT_nonneg {α : Type} {t : α → Int} {xs : List α} (h : ∀ a ∈ xs, 0 ≤ t a) : 0 ≤ sumT t xs := by
  induction xs with
  | nil => simp
  | cons a l ih =>
    rw [sumT_cons]
    have h1 := h a (List.mem_cons_self ..)
    have h2 := ih fun b hb => h b (List.mem_cons_of_mem _ hb)
    omega
theorem forL_sz {α : Type} (t : α → Int) : ∀ (xs : List α) (s : Int), (∀ a ∈ xs, 0 ≤ t a) → 0 ≤ s → forL (fun s a => if t a ≤ s then Sum.inl (s - t a) else Sum.inr (-1 : Int)) xs s = if sumT t xs ≤ s then .inl (s - sumT t xs) else .inr (-1) := by
  intro xs
  induction xs with
  | nil => intro s _ h; rw [sumT_nil, if_pos h]; simp [forL]
  | cons a l ih =>
    intro s hp hs
    have h1 := hp a (List.mem_cons_self ..)
    have h2 : ∀ b ∈ l, 0 ≤ t b := fun b hb => hp b (List.mem_cons_of_mem _ hb)
    have h3 := sumT_nonneg h2
    simp only [forL, sumT_cons]
    by_cases h : t a ≤ s
    · rw [if_pos h]
      dsimp only
      rw [ih (s - t a) h2 (by omega)]
      by_cases h' : sumT t l ≤ s - t a
      · rw [if_pos h', if_pos (by omega)]; congr 1; omega
      · rw [if_neg h', if_neg (by omega)]
    · rw [if_neg h, if_neg (by omega)]

/-- A loop that copies a list, each element to its place. -/
theorem iter_map {α β X R : Type} {B : X → Option (Round X R)} (xs : List α) (z : β) (mk : List β → Nat → X) (g : α → β)
    (step : ∀ i a out, xs[i]? = some a → i < out.length → out.length = xs.length → B (mk out i) = some (.again (mk (out.set i (g a)) (i + 1))))
    (stop : ∀ out, out.length = xs.length → B (mk out xs.length) = some (.stop (mk out xs.length))) {n : Nat} (hn : xs.length < n) :
    iter B n (mk (List.replicate xs.length z) 0) = some (.inl (mk (xs.map g) xs.length)) := by
  have h := iter_for (B := B) (R := R) xs (fun (pre : List β) i => mk (pre ++ List.replicate (xs.length - i) z) i) (fun pre a => .inl (pre ++ [g a])) (fun i pre => pre.length = i)
    (fun i a pre ha hI => by
      have hi := (List.getElem?_eq_some_iff.1 ha).1
      rw [step i a _ ha (by simp; omega) (by simp; omega)]
      congr 3
      obtain ⟨k, hk⟩ : ∃ k, xs.length - i = k + 1 := ⟨xs.length - i - 1, by omega⟩
      have hk' : xs.length - (i + 1) = k := by omega
      rw [hk, hk', List.replicate_succ, ← hI, List.set_append_right _ _ (Nat.le_refl _), Nat.sub_self, List.set_cons_zero]
      simp)
    (fun i a s s' _ hI he => by cases he; simp [hI])
    (fun s hI => by
      have := stop (s ++ List.replicate (xs.length - xs.length) z) (by simp [hI])
      simpa using this) hn [] rfl
  have e : ∀ (l : List α) (pre : List β), forL (ρ := R) (fun (pre : List β) a => .inl (pre ++ [g a])) l pre = .inl (pre ++ l.map g) := by
    intro l
    induction l with
    | nil => intro pre; simp [forL]
    | cons a l ih => intro pre; simp only [forL]; rw [ih]; simp
  rw [e] at h
  simpa using h

/-- A loop that asks each element, and ends at the first that fails. -/
theorem iter_all {α X R : Type} {B : X → Option (Round X R)} (xs : List α) (mk : Nat → X) (p : α → Bool) (r : R)
    (step : ∀ i a, xs[i]? = some a → B (mk i) = some (bif p a then .again (mk (i + 1)) else .ret r))
    (stop : B (mk xs.length) = some (.stop (mk xs.length))) {n : Nat} (hn : xs.length < n) :
    iter B n (mk 0) = some (bif xs.all p then .inl (mk xs.length) else .inr r) := by
  have h := iter_for (B := B) xs (fun (_ : Unit) i => mk i) (fun _ a => if p a then .inl () else .inr r) (fun _ _ => True)
    (fun i a s ha _ => by rw [step i a ha]; cases p a <;> rfl) (fun _ _ _ _ _ _ _ => trivial) (fun _ _ => stop) hn () trivial
  rw [forL_all] at h
  rw [h]
  cases xs.all p <;> rfl

theorem idx_ok {α : Type} {xs : List α} {i : Nat} {a : α} (h : xs[i]? = some a) : (decide ((0 : Int) ≤ (i : Int)) && decide ((i : Int) < (xs.length : Int))) = true := by
  have := (List.getElem?_eq_some_iff.1 h).1
  simp
  omega
theorem idx_ok' {α : Type} {xs : List α} {i : Nat} (h : i < xs.length) : (decide ((0 : Int) ≤ (i : Int)) && decide ((i : Int) < (xs.length : Int))) = true := by
  simp
  omega
theorem idx_lt {α : Type} {xs : List α} {i : Nat} {a : α} (h : xs[i]? = some a) : decide ((i : Int) < (xs.length : Int)) = true := by
  have := (List.getElem?_eq_some_iff.1 h).1
  simp
  omega
theorem nn (i : Nat) : decide ((0 : Int) ≤ (i : Int)) = true := by simp
theorem lt_len {α : Type} {xs : List α} {i : Nat} (h : i < xs.length) : decide ((i : Int) < (xs.length : Int)) = true := by
  simp
  omega
theorem idx_end {α : Type} (xs : List α) : decide ((xs.length : Int) < (xs.length : Int)) = false := by simp

end Go.AM
