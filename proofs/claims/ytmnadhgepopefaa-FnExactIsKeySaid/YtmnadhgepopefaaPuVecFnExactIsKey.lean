/- Vectors in plain words: sizes, copies, equality. -/
import Derived.Test.YtmnadhgepopefaaFuFnExactIsKey
import Derived.Test.YtmnadhgepopefaaPuBaseFnExactIsKey
import Derived.Test.YtmnadhgepopefaaPuItemFnExactIsKey

namespace Go.AM

def VecOK (v : Vec) : Prop := ∀ c ∈ unpack .vec v, WfC c
def StrsOK (xs : List ByteArray) : Prop := LenOK xs.length ∧ ∀ x ∈ xs, LenOK x.size
def VecsOK (xs : List Vec) : Prop := LenOK xs.length ∧ ∀ v ∈ xs, VecOK v
theorem wfc_strs {xs : List ByteArray} (h : WfC (.sl .str xs)) : StrsOK xs := by
  cases h with
  | sl _ _ h he => exact ⟨h, fun x hx => wfc_str (he x hx _ (by simp [unpack]))⟩
theorem wfc_vecs {xs : List Vec} (h : WfC (.sl .vec xs)) : VecsOK xs := by
  cases h with
  | sl _ _ h he => exact ⟨h, fun x hx => he x hx⟩
theorem VecOK.kind {v : Vec} (h : VecOK v) : I64 v.kind := wfc_i64 (h _ (by simp [unpack]))
theorem VecOK.items {v : Vec} (h : VecOK v) : ItsOK v.items := wfc_items (h _ (by simp [unpack]))
theorem VecOK.parts {v : Vec} (h : VecOK v) : VecsOK v.parts := wfc_vecs (h _ (by simp [unpack]))
theorem VecOK.names {v : Vec} (h : VecOK v) : StrsOK v.names := wfc_strs (h (.sl .str v.names) (by simp [unpack]))
theorem VecOK.cls {v : Vec} (h : VecOK v) : StrsOK v.cls := wfc_strs (h (.sl .str v.cls) (by simp [unpack]))
theorem VecOK.levels {v : Vec} (h : VecOK v) : StrsOK v.levels := wfc_strs (h (.sl .str v.levels) (by simp [unpack]))
theorem VecOK.code {v : Vec} (h : VecOK v) : I64 v.code := wfc_i64 (h (.int .i64 v.code) (by simp [unpack]))
theorem VecOK.env {v : Vec} (h : VecOK v) : I64 v.env := wfc_i64 (h (.int .i64 v.env) (by simp [unpack]))

/-! ### Sizes -/
def tsStr (x : ByteArray) : Int := x.size
def tsStrS (xs : List ByteArray) : Int := xs.length + sumT tsStr xs
mutual
def tsVec : Vec → Int
  | ⟨_, items, parts, names, cls, levels, _, _⟩ => tsItemS items + (tsVecS parts + (tsStrS names + (tsStrS cls + tsStrS levels)))
def tsVecS : List Vec → Int
  | [] => 0
  | v :: l => 1 + tsVec v + tsVecS l
end
theorem tsVec_eq (v : Vec) : tsVec v = tsItemS v.items + (tsVecS v.parts + (tsStrS v.names + (tsStrS v.cls + tsStrS v.levels))) := by
  cases v; rw [tsVec]
theorem tsVecS_eq (xs : List Vec) : tsVecS xs = xs.length + sumT tsVec xs := by
  induction xs with
  | nil => rw [tsVecS]; rfl
  | cons v l ih => rw [tsVecS, ih, sumT_cons, List.length_cons]; omega
theorem tsItemS_nonneg (xs : List Item) : (xs.length : Int) ≤ tsItemS xs := by
  have : 0 ≤ sumT tsItem xs := sumT_nonneg fun x _ => by unfold tsItem; omega
  unfold tsItemS; omega
theorem tsStrS_nonneg (xs : List ByteArray) : (xs.length : Int) ≤ tsStrS xs := by
  have : 0 ≤ sumT tsStr xs := sumT_nonneg fun x _ => by unfold tsStr; omega
  unfold tsStrS; omega
mutual
theorem tsVec_nonneg : ∀ v : Vec, 0 ≤ tsVec v
  | ⟨k, items, parts, names, cls, levels, _, _⟩ => by
    have h1 := tsItemS_nonneg items
    have h2 := tsVecS_nonneg parts
    have h3 := tsStrS_nonneg names
    have h4 := tsStrS_nonneg cls
    have h5 := tsStrS_nonneg levels
    rw [tsVec]; omega
theorem tsVecS_nonneg : ∀ xs : List Vec, 0 ≤ tsVecS xs
  | [] => by rw [tsVecS]; omega
  | v :: l => by
    have h1 := tsVec_nonneg v
    have h2 := tsVecS_nonneg l
    rw [tsVecS]; omega
end
theorem sumT_mem {α : Type} {t : α → Int} {xs : List α} (h0 : ∀ a ∈ xs, 0 ≤ t a) {a : α} (h : a ∈ xs) : t a ≤ sumT t xs := by
  induction xs with
  | nil => cases h
  | cons b l ih =>
    rw [sumT_cons]
    have h1 := sumT_nonneg (t := t) (xs := l) fun c hc => h0 c (List.mem_cons_of_mem _ hc)
    have h2 := h0 b (List.mem_cons_self ..)
    rcases List.mem_cons.1 h with rfl | h
    · omega
    · have := ih (fun c hc => h0 c (List.mem_cons_of_mem _ hc)) h; omega
theorem tsVecS_len (xs : List Vec) : (xs.length : Int) ≤ tsVecS xs := by
  rw [tsVecS_eq]
  have := sumT_nonneg (t := tsVec) (xs := xs) fun v _ => tsVec_nonneg v
  omega
theorem tsVecS_mem {xs : List Vec} {v : Vec} (h : v ∈ xs) : tsVec v + 1 ≤ tsVecS xs := by
  rw [tsVecS_eq]
  have h1 := sumT_mem (t := tsVec) (fun a _ => tsVec_nonneg a) h
  have h2 : 0 < xs.length := List.length_pos_of_mem h
  omega
/-- Small: the law's allowance holds it. -/
structure Fits (v : Vec) (k : Int) : Prop where
  items : tsItemS v.items ≤ k
  parts : tsVecS v.parts ≤ k
  names : tsStrS v.names ≤ k
  cls : tsStrS v.cls ≤ k
  levels : tsStrS v.levels ≤ k
  nitems : (v.items.length : Int) ≤ k
  nparts : (v.parts.length : Int) ≤ k
  nnames : (v.names.length : Int) ≤ k
  ncls : (v.cls.length : Int) ≤ k
  nlevels : (v.levels.length : Int) ≤ k
theorem fits {v : Vec} {k : Int} (h : tsVec v ≤ k) : Fits v k := by
  have h1 := tsItemS_nonneg v.items
  have h2 := tsVecS_nonneg v.parts
  have h3 := tsStrS_nonneg v.names
  have h4 := tsStrS_nonneg v.cls
  have h5 := tsStrS_nonneg v.levels
  have h6 := tsVecS_len v.parts
  rw [tsVec_eq] at h
  constructor <;> omega

theorem iter_sz {α X : Type} {B : X → Option (Round X Int)} (xs : List α) (mk : Int → Nat → X) (t : α → Int) (ht : ∀ a, 0 ≤ t a) {S : Int}
    (step : ∀ i a s, xs[i]? = some a → 0 ≤ s → s ≤ S → B (mk s i) = some (if t a ≤ s then .again (mk (s - t a) (i + 1)) else .ret (-1)))
    (stop : ∀ s, B (mk s xs.length) = some (.stop (mk s xs.length))) {n : Nat} (hn : xs.length < n) {s : Int} (h0 : 0 ≤ s) (h1 : s ≤ S) :
    iter B n (mk s 0) = some (if sumT t xs ≤ s then .inl (mk (s - sumT t xs) xs.length) else .inr (-1)) := by
  have hh := iter_for (B := B) xs mk (fun s a => if t a ≤ s then Sum.inl (s - t a) else Sum.inr (-1 : Int)) (fun _ s => 0 ≤ s ∧ s ≤ S)
    (fun i a s ha hI => by
      rw [step i a s ha hI.1 hI.2]
      by_cases hc : t a ≤ s
      · rw [if_pos hc, if_pos hc]
      · rw [if_neg hc, if_neg hc])
    (fun i a s s' _ hI he => by
      have := ht a
      by_cases hc : t a ≤ s
      · rw [if_pos hc] at he; cases he; exact ⟨by omega, by omega⟩
      · rw [if_neg hc] at he; cases he)
    (fun s _ => stop s) hn s ⟨h0, h1⟩
  rw [forL_sz t xs _ (fun x _ => ht x) h0] at hh
  rw [hh]
  by_cases hc : sumT t xs ≤ s
  · rw [if_pos hc, if_pos hc]
  · rw [if_neg hc, if_neg hc]
theorem capd_ret {a : Int} {s t : Int} {X : Type} (x : Int → X) : (bif decide (capd s t < 0) then some (Round.ret a) else some (Round.again (x (capd s t)))) = some (if t ≤ s then Round.again (x (s - t)) else .ret a) := by
  by_cases hc : t ≤ s
  · rw [capd_lt hc, if_pos hc, capd_pos hc]; rfl
  · rw [capd_no hc, if_neg hc]; rfl

theorem szStringS_eq {n : Nat} (hn : BIG ≤ n) {a : List ByteArray} {left : Int} (ha : StrsOK a) (h0 : 0 ≤ left) (h1 : left ≤ 68719476736) : laws_szStringS n a left = some (capd left (tsStrS a)) := by
  obtain ⟨hl, ha⟩ := ha
  unfold LenOK at hl
  have e : w64 (left - (a.length : Int)) = left - (a.length : Int) := w64_id (by omega) (by omega)
  have hs : 0 ≤ sumT tsStr a := sumT_nonneg fun x _ => by unfold tsStr; omega
  unfold laws_szStringS
  rw [e]
  by_cases h : (a.length : Int) ≤ left
  · rw [decide_eq_false (by omega : ¬ left - (a.length : Int) < 0)]
    have hh := iter_sz (B := fun x : List ByteArray × Int × Int => laws_szStringS_r0 x.1 x.2.1 x.2.2) a (fun (s : Int) i => (a, s, (i : Int))) tsStr (fun x => by unfold tsStr; omega) (S := 68719476736)
      (fun i x s hx hs0 hs1 => by
        have hxa := ha x (List.mem_of_getElem? hx)
        have hi := (List.getElem?_eq_some_iff.1 hx).1
        unfold LenOK at hxa
        dsimp only
        unfold laws_szStringS_r0
        simp only [idx_lt hx, nn, Bool.and_true, chk_true, cond_true, getD_cast hx, w64_succ (show i + 1 ≤ 9223372036854775807 by omega), w64_id (show -9223372036854775808 ≤ s - (x.size : Int) by omega) (by omega)]
        unfold tsStr
        by_cases hc : (x.size : Int) ≤ s
        · rw [if_pos hc, decide_eq_false (by omega)]; rfl
        · rw [if_neg hc, decide_eq_true (by omega)]; rfl)
      (fun s => by dsimp only; unfold laws_szStringS_r0; rw [idx_end]; rfl) (by unfold BIG at hn; omega : a.length < n) (s := left - a.length) (by omega) (by omega)
    unfold laws_szStringS_l0
    simp only [cond_false]
    rw [show (0 : Int) = ((0 : Nat) : Int) from rfl, hh]
    unfold tsStrS
    by_cases hc : sumT tsStr a ≤ left - a.length
    · rw [if_pos hc, capd_pos (by omega)]; simp only [Option.bind_some, lpK]; congr 1; omega
    · rw [if_neg hc, capd_neg (by omega)]; rfl
  · rw [decide_eq_true (by omega)]
    unfold tsStrS
    rw [capd_neg (by omega)]; rfl

theorem capd_step {left t u : Int} (hu : 0 ≤ u) {f : Int → Option Int} (hf : t ≤ left → f (left - t) = some (capd (left - t) u)) :
    ((some (capd left t)).bind fun r => bif decide (r < 0) then some (-1) else f r) = some (capd left (t + u)) := by
  rw [Option.bind_some]
  by_cases h : t ≤ left
  · rw [capd_lt h, capd_pos h]
    show f (left - t) = _
    rw [hf h]
    unfold capd
    by_cases h' : u ≤ left - t
    · rw [if_pos h', if_pos (by omega)]; congr 1; omega
    · rw [if_neg h', if_neg (by omega)]
  · rw [capd_no h]
    show some (-1 : Int) = _
    rw [capd_neg (by omega)]
theorem capd_last {left t : Int} : (bif decide (capd left t < 0) then some (-1 : Int) else some (capd left t)) = some (capd left t) := by
  by_cases h : t ≤ left
  · rw [capd_lt h]; rfl
  · rw [capd_no h, capd_neg h]; rfl

theorem szVectorS_of {m : Nat} (hm : BIG ≤ m) {xs : List Vec} (hx : VecsOK xs) {left : Int} (h0 : 0 ≤ left) (h1 : left ≤ 68719476736)
    (hrec : ∀ v ∈ xs, ∀ s, 0 ≤ s → s ≤ left - 1 → laws_szVector m v s = some (capd s (tsVec v))) : laws_szVectorS (m + 1) xs left = some (capd left (tsVecS xs)) := by
  have hl := hx.1
  unfold LenOK at hl
  have e : w64 (left - (xs.length : Int)) = left - (xs.length : Int) := w64_id (by omega) (by omega)
  show laws_szVectorS_b (laws_szVector m) (laws_szVectorS m) m xs left = _
  unfold laws_szVectorS_b
  rw [e]
  have hs : 0 ≤ sumT tsVec xs := sumT_nonneg fun x _ => tsVec_nonneg x
  by_cases h : (xs.length : Int) ≤ left
  · rw [decide_eq_false (by omega : ¬ left - (xs.length : Int) < 0)]
    have hh := iter_sz (B := fun x : List Vec × Int × Int => laws_szVectorS_r0 (laws_szVector m) x.1 x.2.1 x.2.2) xs (fun (s : Int) i => (xs, s, (i : Int))) tsVec tsVec_nonneg (S := left - xs.length)
      (fun i x s hx' hs0 hs1 => by
        have hi := (List.getElem?_eq_some_iff.1 hx').1
        dsimp only
        unfold laws_szVectorS_r0
        simp only [idx_lt hx', nn, Bool.and_true, chk_true, cond_true, getD_cast hx', Vec.re_eq, w64_succ (show i + 1 ≤ 9223372036854775807 by omega), hrec x (List.mem_of_getElem? hx') s hs0 (by omega), Option.bind_some]
        exact capd_ret (fun z => (xs, z, ((i + 1 : Nat) : Int))))
      (fun s => by dsimp only; unfold laws_szVectorS_r0; rw [idx_end]; rfl) (by unfold BIG at hm; omega : xs.length < m) (s := left - xs.length) (by omega) (by omega)
    unfold laws_szVectorS_l0
    simp only [cond_false]
    rw [show (0 : Int) = ((0 : Nat) : Int) from rfl, hh, tsVecS_eq]
    by_cases hc : sumT tsVec xs ≤ left - xs.length
    · rw [if_pos hc, capd_pos (by omega)]; simp only [Option.bind_some, lpK]; congr 1; omega
    · rw [if_neg hc, capd_neg (by omega)]; rfl
  · rw [decide_eq_true (by omega), tsVecS_eq, capd_neg (by omega)]; rfl
theorem szVector_of {m : Nat} (hm : BIG ≤ m) {v : Vec} (hv : VecOK v) {left : Int} (h0 : 0 ≤ left) (h1 : left ≤ 68719476736)
    (hS : ∀ s, 0 ≤ s → s ≤ left → laws_szVectorS m v.parts s = some (capd s (tsVecS v.parts))) : laws_szVector (m + 1) v left = some (capd left (tsVec v)) := by
  show laws_szVector_b (laws_szVector m) (laws_szVectorS m) m v left = _
  unfold laws_szVector_b
  have p1 := tsItemS_nonneg v.items
  have p2 := tsVecS_nonneg v.parts
  have p3 := tsStrS_nonneg v.names
  have p4 := tsStrS_nonneg v.cls
  have p5 := tsStrS_nonneg v.levels
  rw [szItemS_eq hm hv.items h0 h1, tsVec_eq]
  refine capd_step (by omega) fun c1 => ?_
  show (laws_szVectorS m v.parts (left - tsItemS v.items)).bind _ = _
  rw [hS _ (by omega) (by omega)]
  refine capd_step (by omega) fun c2 => ?_
  show (laws_szStringS m v.names (left - tsItemS v.items - tsVecS v.parts)).bind _ = _
  rw [szStringS_eq hm hv.names (by omega) (by omega)]
  refine capd_step (by omega) fun c3 => ?_
  show (laws_szStringS m v.cls (left - tsItemS v.items - tsVecS v.parts - tsStrS v.names)).bind _ = _
  rw [szStringS_eq hm hv.cls (by omega) (by omega)]
  refine capd_step (by omega) fun c4 => ?_
  show (laws_szStringS m v.levels (left - tsItemS v.items - tsVecS v.parts - tsStrS v.names - tsStrS v.cls)).bind _ = _
  rw [szStringS_eq hm hv.levels (by omega) (by omega)]
  exact capd_last
theorem szVec_all : ∀ (k : Nat) (left : Int), 0 ≤ left → left ≤ k → left ≤ 68719476736 →
    (∀ n, BIG + 2 * k + 1 ≤ n → ∀ xs, VecsOK xs → laws_szVectorS n xs left = some (capd left (tsVecS xs))) ∧ (∀ n, BIG + 2 * k + 2 ≤ n → ∀ v, VecOK v → laws_szVector n v left = some (capd left (tsVec v))) := by
  intro k
  induction k with
  | zero =>
    intro left h0 h1 h2
    have hS : ∀ n, BIG + 2 * 0 + 1 ≤ n → ∀ xs, VecsOK xs → laws_szVectorS n xs left = some (capd left (tsVecS xs)) := by
      intro n hn xs hx
      obtain ⟨m, rfl⟩ : ∃ m, n = m + 1 := ⟨n - 1, by omega⟩
      exact szVectorS_of (by omega) hx h0 h2 fun v _ s hs0 hs1 => by omega
    refine ⟨hS, fun n hn v hv => ?_⟩
    obtain ⟨m, rfl⟩ : ∃ m, n = m + 1 := ⟨n - 1, by omega⟩
    refine szVector_of (by omega) hv h0 h2 fun s hs0 hs1 => ?_
    obtain rfl : s = left := by omega
    exact hS m (by omega) _ hv.parts
  | succ k ih =>
    have hSall : ∀ left : Int, 0 ≤ left → left ≤ (k + 1 : Nat) → left ≤ 68719476736 → ∀ n, BIG + 2 * (k + 1) + 1 ≤ n → ∀ xs, VecsOK xs → laws_szVectorS n xs left = some (capd left (tsVecS xs)) := by
      intro left h0 h1 h2 n hn xs hx
      obtain ⟨m, rfl⟩ : ∃ m, n = m + 1 := ⟨n - 1, by omega⟩
      exact szVectorS_of (by omega) hx h0 h2 fun v hv s hs0 hs1 => (ih s hs0 (by omega) (by omega)).2 m (by omega) v (hx.2 v hv)
    intro left h0 h1 h2
    refine ⟨hSall left h0 h1 h2, fun n hn v hv => ?_⟩
    obtain ⟨m, rfl⟩ : ∃ m, n = m + 1 := ⟨n - 1, by omega⟩
    exact szVector_of (by omega) hv h0 h2 fun s hs0 hs1 => hSall s hs0 (by omega) (by omega) m (by omega) _ hv.parts

/-- Fuel that suffices for every function that goes down a vector. -/
def FUEL : Nat := 2 * BIG
theorem szVector_eq {n : Nat} (hn : FUEL ≤ n) {v : Vec} (hv : VecOK v) {left : Int} (h0 : 0 ≤ left) (h1 : left ≤ 68719476736) : laws_szVector n v left = some (capd left (tsVec v)) :=
  (szVec_all 68719476736 left h0 h1 h1).2 n (by unfold FUEL BIG at hn; unfold BIG; omega) v hv
theorem szVectorS_eq {n : Nat} (hn : FUEL ≤ n) {xs : List Vec} (hv : VecsOK xs) {left : Int} (h0 : 0 ≤ left) (h1 : left ≤ 68719476736) : laws_szVectorS n xs left = some (capd left (tsVecS xs)) :=
  (szVec_all 68719476736 left h0 h1 h1).1 n (by unfold FUEL BIG at hn; unfold BIG; omega) xs hv
theorem fuel_big {n : Nat} (h : FUEL ≤ n) : BIG ≤ n := by unfold FUEL at h; omega

/-! ### Copies and equality -/
theorem toStringS_eq {n : Nat} (hn : BIG ≤ n) {a : List ByteArray} (hl : a.length ≤ 68719476736) : laws_toStringS n a = some a := by
  have hh := iter_map (B := fun x : List ByteArray × List ByteArray × Int => laws_toStringS_r0 x.1 x.2.1 x.2.2) (R := List ByteArray) a zS (fun out i => (a, out, (i : Int))) id
    (fun i x out hx ho hl' => by
      dsimp only
      unfold laws_toStringS_r0
      simp only [idx_lt hx, lt_len ho, nn, Bool.and_true, chk_true, cond_true, getD_cast hx, w64_succ (show i + 1 ≤ 9223372036854775807 by omega)]
      rfl)
    (fun out ho => by dsimp only; unfold laws_toStringS_r0; rw [idx_end]; rfl) (by unfold BIG at hn; omega : a.length < n)
  unfold laws_toStringS laws_toStringS_l0
  rw [chk_of (by unfold LIM; simp; omega)]
  rw [show (0 : Int) = ((0 : Nat) : Int) from rfl, Int.toNat_natCast, hh]
  simp [lpK]
theorem eqStringS_self {n : Nat} (hn : BIG ≤ n) {a : List ByteArray} (hl : a.length ≤ 68719476736) : laws_eqStringS n a a = some true := by
  have hh := iter_all (B := fun x : List ByteArray × List ByteArray × Int => laws_eqStringS_r0 x.1 x.2.1 x.2.2) (R := Bool) a (fun i => (a, a, (i : Int))) (fun _ => true) false
    (fun i x hx => by
      have hi := (List.getElem?_eq_some_iff.1 hx).1
      dsimp only
      unfold laws_eqStringS_r0
      simp only [idx_lt hx, nn, Bool.and_true, chk_true, cond_true, getD_cast hx, w64_succ (show i + 1 ≤ 9223372036854775807 by omega), strEq_self]
      rfl)
    (by dsimp only; unfold laws_eqStringS_r0; rw [idx_end]; rfl) (by unfold BIG at hn; omega : a.length < n)
  unfold laws_eqStringS laws_eqStringS_l0
  rw [show (0 : Int) = ((0 : Nat) : Int) from rfl, hh, show (a.all fun _ => true) = true from List.all_eq_true.2 fun _ _ => rfl]
  simp [lpK]

/-- BIG, and fuel for the way down a valid vector. -/
def BIG' : Nat := BIG + 1000
theorem big' : BIG' = BIG + 1000 := rfl
/-- Fuel for the way down, a bit less than FUEL. -/
def FUELd : Nat := BIG + 1000000000000
theorem fuel_d {n : Nat} (h : FUEL ≤ n + 1000) : FUELd ≤ n := by unfold FUEL BIG at h; unfold FUELd BIG; omega
/-- Downwards through vectors: what holds of a vector if it holds of its parts (with less fuel). -/
theorem down' {P : Nat → Vec → Prop} (Q : Nat → List Vec → Prop) (hQ : ∀ m xs, BIG' ≤ m → tsVecS xs ≤ 68719476736 → (∀ v ∈ xs, P m v) → Q (m + 1) xs) (hP : ∀ m v, BIG' ≤ m → tsVec v ≤ 68719476736 → Q m v.parts → P (m + 1) v) :
    ∀ n, FUELd ≤ n → (∀ v, tsVec v ≤ 68719476736 → P n v) ∧ ∀ xs, tsVecS xs ≤ 68719476736 → Q n xs := by
  have main : ∀ k : Nat, k ≤ 68719476736 → (∀ xs, tsVecS xs ≤ k → ∀ n, BIG' + 2 * k + 1 ≤ n → Q n xs) ∧ (∀ v, tsVec v ≤ k → ∀ n, BIG' + 2 * k + 2 ≤ n → P n v) := by
    intro k
    induction k with
    | zero =>
      intro _
      have hS : ∀ xs, tsVecS xs ≤ (0 : Nat) → ∀ n, BIG' + 2 * 0 + 1 ≤ n → Q n xs := fun xs hx n hn => by
        obtain ⟨m, rfl⟩ : ∃ m, n = m + 1 := ⟨n - 1, by omega⟩
        refine hQ m xs (by omega) (by omega) fun v hv => ?_
        have h1 := tsVecS_mem hv
        have h2 := tsVec_nonneg v
        omega
      refine ⟨hS, fun v hv n hn => ?_⟩
      obtain ⟨m, rfl⟩ : ∃ m, n = m + 1 := ⟨n - 1, by omega⟩
      exact hP m v (by omega) (by omega) (hS _ (fits hv).parts m (by omega))
    | succ k ih =>
      intro hk
      have hS : ∀ xs, tsVecS xs ≤ (k + 1 : Nat) → ∀ n, BIG' + 2 * (k + 1) + 1 ≤ n → Q n xs := fun xs hx n hn => by
        obtain ⟨m, rfl⟩ : ∃ m, n = m + 1 := ⟨n - 1, by omega⟩
        refine hQ m xs (by omega) (by omega) fun v hv => ?_
        have h1 := tsVecS_mem hv
        exact (ih (by omega)).2 v (by omega) m (by omega)
      refine ⟨hS, fun v hv n hn => ?_⟩
      obtain ⟨m, rfl⟩ : ∃ m, n = m + 1 := ⟨n - 1, by omega⟩
      exact hP m v (by omega) (by omega) (hS _ (fits hv).parts m (by omega))
  intro n hn
  exact ⟨fun v hv => (main 68719476736 (Nat.le_refl _)).2 v hv n (by have := big'; unfold FUELd BIG at hn; unfold BIG at this; omega), fun xs hx => (main 68719476736 (Nat.le_refl _)).1 xs hx n (by have := big'; unfold FUELd BIG at hn; unfold BIG at this; omega)⟩

theorem down {P : Nat → Vec → Prop} (Q : Nat → List Vec → Prop) (hQ : ∀ m xs, BIG ≤ m → tsVecS xs ≤ 68719476736 → (∀ v ∈ xs, P m v) → Q (m + 1) xs) (hP : ∀ m v, BIG ≤ m → tsVec v ≤ 68719476736 → Q m v.parts → P (m + 1) v) :
    ∀ n, FUEL ≤ n → (∀ v, tsVec v ≤ 68719476736 → P n v) ∧ ∀ xs, tsVecS xs ≤ 68719476736 → Q n xs := fun n hn => down' Q (fun m xs h => hQ m xs (by have := big'; omega)) (fun m v h => hP m v (by have := big'; omega)) n (fuel_d (by omega))
theorem toVec_all : ∀ n, FUEL ≤ n → (∀ v, tsVec v ≤ 68719476736 → laws_toVector n v = some v) ∧ ∀ xs, tsVecS xs ≤ 68719476736 → laws_toVectorS n xs = some xs := by
  refine down (P := fun n v => laws_toVector n v = some v) (fun n xs => laws_toVectorS n xs = some xs) (fun m xs hm hx hrec => ?_) (fun m v hm hv hp => ?_)
  · have hlen := tsVecS_len xs
    show laws_toVectorS_b (laws_toVector m) (laws_toVectorS m) m xs = _
    have hh := iter_map (B := fun x : List Vec × List Vec × Int => laws_toVectorS_r0 (laws_toVector m) x.1 x.2.1 x.2.2) (R := List Vec) xs zV (fun out i => (xs, out, (i : Int))) id
      (fun i x out hx ho hl' => by
        dsimp only
        unfold laws_toVectorS_r0
        simp only [idx_lt hx, lt_len ho, nn, Bool.and_true, chk_true, cond_true, getD_cast hx, Vec.re_eq, hrec x (List.mem_of_getElem? hx), Option.bind_some, w64_succ (show i + 1 ≤ 9223372036854775807 by omega)]
        rfl)
      (fun out ho => by dsimp only; unfold laws_toVectorS_r0; rw [idx_end]; rfl) (by unfold BIG at hm; omega : xs.length < m)
    unfold laws_toVectorS_b laws_toVectorS_l0
    rw [chk_of (by unfold LIM; simp; omega)]
    rw [show (0 : Int) = ((0 : Nat) : Int) from rfl, Int.toNat_natCast, hh]
    simp [lpK]
  · have f := fits hv
    show laws_toVector_b (laws_toVector m) (laws_toVectorS m) m v = _
    unfold laws_toVector_b
    rw [toItemS_eq hm (by have := f.nitems; omega), hp, toStringS_eq hm (by have := f.nnames; omega), toStringS_eq hm (by have := f.ncls; omega), toStringS_eq hm (by have := f.nlevels; omega)]
    cases v; rfl
theorem toVector_eq {n : Nat} (hn : FUEL ≤ n) {v : Vec} (hv : tsVec v ≤ 68719476736) : laws_toVector n v = some v := (toVec_all n hn).1 v hv
theorem toVectorS_eq {n : Nat} (hn : FUEL ≤ n) {xs : List Vec} (hv : tsVecS xs ≤ 68719476736) : laws_toVectorS n xs = some xs := (toVec_all n hn).2 xs hv

theorem eqVec_all : ∀ n, FUEL ≤ n → (∀ v, tsVec v ≤ 68719476736 → laws_eqVector n v v = some true) ∧ ∀ xs, tsVecS xs ≤ 68719476736 → laws_eqVectorS n xs xs = some true := by
  refine down (P := fun n v => laws_eqVector n v v = some true) (fun n xs => laws_eqVectorS n xs xs = some true) (fun m xs hm hx hrec => ?_) (fun m v hm hv hp => ?_)
  · have hlen := tsVecS_len xs
    show laws_eqVectorS_b (laws_eqVector m) (laws_eqVectorS m) m xs xs = _
    have hh := iter_all (B := fun x : List Vec × List Vec × Int => laws_eqVectorS_r0 (laws_eqVector m) x.1 x.2.1 x.2.2) (R := Bool) xs (fun i => (xs, xs, (i : Int))) (fun _ => true) false
      (fun i x hx => by
        have hi := (List.getElem?_eq_some_iff.1 hx).1
        dsimp only
        unfold laws_eqVectorS_r0
        simp only [idx_lt hx, nn, Bool.and_true, chk_true, cond_true, getD_cast hx, Vec.re_eq, hrec x (List.mem_of_getElem? hx), Option.bind_some, w64_succ (show i + 1 ≤ 9223372036854775807 by omega)]
        rfl)
      (by dsimp only; unfold laws_eqVectorS_r0; rw [idx_end]; rfl) (by unfold BIG at hm; omega : xs.length < m)
    unfold laws_eqVectorS_b laws_eqVectorS_l0
    rw [show (0 : Int) = ((0 : Nat) : Int) from rfl, hh, show (xs.all fun _ => true) = true from List.all_eq_true.2 fun _ _ => rfl]
    simp [lpK]
  · have f := fits hv
    show laws_eqVector_b (laws_eqVector m) (laws_eqVectorS m) m v v = _
    unfold laws_eqVector_b
    rw [eqItemS_self hm (by have := f.nitems; omega), hp, eqStringS_self hm (by have := f.nnames; omega), eqStringS_self hm (by have := f.ncls; omega), eqStringS_self hm (by have := f.nlevels; omega)]
    simp
theorem eqVector_self {n : Nat} (hn : FUEL ≤ n) {v : Vec} (hv : tsVec v ≤ 68719476736) : laws_eqVector n v v = some true := (eqVec_all n hn).1 v hv
theorem eqVectorS_self {n : Nat} (hn : FUEL ≤ n) {xs : List Vec} (hv : tsVecS xs ≤ 68719476736) : laws_eqVectorS n xs xs = some true := (eqVec_all n hn).2 xs hv
end Go.AM
