/- What a frame is; the laws FnExactIsFrame and FnExactRowsOf in plain words. -/
import Derived.Test.YtmnadhgepopefaaFuFnExactIsKey
import Derived.Test.YtmnadhgepopefaaPuBaseFnExactIsKey
import Derived.Test.YtmnadhgepopefaaPuItemFnExactIsKey
import Derived.Test.YtmnadhgepopefaaPuVecFnExactIsKey
import Derived.Test.YtmnadhgepopefaaPuIsVFnExactIsKey
import Derived.Test.YtmnadhgepopefaaPuIsV2FnExactIsKey
import Derived.Test.YtmnadhgepopefaaPuIsV3FnExactIsKey
import Derived.Test.YtmnadhgepopefaaPuIsV4FnExactIsKey
import Derived.Test.YtmnadhgepopefaaPuFactorFnExactIsKey

namespace Go.AM

theorem all_mem {α : Type} {p q : α → Bool} : ∀ {xs : List α}, (∀ a ∈ xs, p a = q a) → xs.all p = xs.all q := by
  intro xs
  induction xs with
  | nil => intro _; rfl
  | cons a l ih => intro h; rw [List.all_cons, List.all_cons, h a (List.mem_cons_self ..), ih fun b hb => h b (List.mem_cons_of_mem _ hb)]
theorem cons_eq0 {α : Type} (a : α) (l : List α) : (((a :: l).length : Int) == 0) = false := by
  rw [beq_eq_false_iff_ne, List.length_cons]; omega
theorem cons_pos {α : Type} (a : α) (l : List α) : decide ((0 : Int) < ((a :: l).length : Int)) = true := by
  rw [decide_eq_true_iff, List.length_cons]; omega

/-! ### What a valid vector's shape tells -/
theorem shape_facts {v : Vec} (h : shapeB v = true) : kindB v = true ∧ lenV v ≤ 40 ∧ namesB v.names = true ∧ labelsB v.cls 3 = true ∧ labelsB v.levels 20 = true ∧ rareB v = true ∧ lastB v = true ∧ (v.names.length ≠ 0 → (v.names.length : Int) = lenV v) := by
  rw [shapeB_order] at h
  simp only [Bool.and_eq_true] at h
  obtain ⟨h1, h2, h3, h4, ⟨h5, h6⟩, h7, h8⟩ := h
  refine ⟨h1, ?_, h6, h3, h4, h7, h8, fun hn => ?_⟩
  · cases h : decide (lenV v > 40)
    · have := of_decide_eq_false h; omega
    · rw [h] at h2; cases h2
  · have e : ((v.names.length : Int) != 0) = true := bne_iff_ne.2 (by omega)
    rw [e, cond_true] at h5
    cases h : (v.names.length : Int) != lenV v
    · simpa using h
    · rw [h] at h5; cases h5
theorem isV_shape {d : Nat} {v : Vec} (h : isV d v = true) : shapeB v = true := by
  cases d <;> (unfold isV at h; rw [Bool.and_eq_true] at h; exact h.1)
theorem isV_part {d : Nat} {v p : Vec} (h : isV (d + 1) v = true) (hp : p ∈ v.parts) : isV d p = true := by
  unfold isV at h; rw [Bool.and_eq_true, List.all_eq_true] at h; exact h.2 p hp
theorem vec_shape {v : Vec} (h : vecB v = true) : shapeB v = true := by
  unfold vecB at h; rw [Bool.and_eq_true] at h; exact isV_shape h.1
theorem vec_part {v p : Vec} (h : vecB v = true) (hp : p ∈ v.parts) : shapeB p = true := by
  unfold vecB at h; rw [Bool.and_eq_true] at h; exact isV_shape (isV_part h.1 hp)
theorem names_small {v : Vec} (h : shapeB v = true) : ∀ x ∈ v.names, decide ((x.size : Int) > 60) = false := by
  intro x hx
  have h1 := (shape_facts h).2.2.1
  unfold namesB at h1
  rw [Bool.and_eq_true, List.all_eq_true] at h1
  have := h1.1 x hx
  unfold small60 at this
  simpa using this
/-- The length of a vector without parts. -/
theorem lenV_atom {v : Vec} (ht : tsVec v ≤ 68719476736) (h5 : (v.kind == 5) = false) (hp : v.parts = []) : lenV v = v.items.length := by
  have hni := (fits ht).nitems
  unfold lenV
  rw [h5, hp]
  simp only [cond_false, List.length_nil]
  rw [w64_id (by omega) (by omega)]
  omega
theorem atom_kind {k : Int} (h : atomB k = true) : k = 1 ∨ k = 2 ∨ k = 3 := by
  unfold atomB at h
  by_cases h1 : k = 1
  · exact .inl h1
  · by_cases h2 : k = 2
    · exact .inr (.inl h2)
    · rw [beq_eq_false_iff_ne.2 h1, beq_eq_false_iff_ne.2 h2] at h
      exact .inr (.inr (eq_of_beq h))
theorem atom_bool (k : Int) : atomB k = (decide (k ≥ 1) && decide (k ≤ 3)) := by
  rw [Bool.eq_iff_iff]
  simp only [Bool.and_eq_true, decide_eq_true_eq]
  constructor
  · intro h; rcases atom_kind h with rfl | rfl | rfl <;> omega
  · intro h
    have : k = 1 ∨ k = 2 ∨ k = 3 := by omega
    rcases this with rfl | rfl | rfl <;> rfl
theorem atom_parts {v : Vec} (hs : shapeB v = true) (ha : atomB v.kind = true) : v.parts = [] ∧ (v.kind == 5) = false := by
  have hr := (shape_facts hs).2.2.2.2.2.1
  rcases atom_kind ha with e | e | e <;> exact ⟨rare_parts (by rw [e]; rfl) hr, by rw [e]; rfl⟩

/-! ### Columns -/
def colB (rows : Int) (p : Vec) : Bool := atomB p.kind && ((p.items.length : Int) == rows && ((p.names.length : Int) == 0 && (bif (bif (p.cls.length : Int) == 0 then (p.levels.length : Int) == 0 else false) then true else factorB p)))
theorem l12Column_eq {n : Nat} (hn : FUEL ≤ n) {p : Vec} (hv : VecOK p) (ht : tsVec p ≤ 68719476736) (rows : Int) : spec_l12Column n p rows = some (colB rows p) := by
  unfold spec_l12Column colB
  simp only [l1In_eq, ← atom_bool, Vec.re_eq, spec_IsFactor_eq hn hv ht, Option.bind_some]
  cases atomB p.kind
  · rfl
  cases (p.items.length : Int) == rows
  · rfl
  cases (p.names.length : Int) == 0
  · rfl
  cases (bif (p.cls.length : Int) == 0 then (p.levels.length : Int) == 0 else false) <;> rfl
def sFrame : ByteArray := ⟨#[100, 97, 116, 97, 46, 102, 114, 97, 109, 101]⟩
def rows0 (v : Vec) : Int := ((v.parts.getD 0 zV).items.length : Int)
def frameHead (v : Vec) : Bool := (((vecB v && v.kind == 4) && (v.cls.length : Int) == 1) && strEq (v.cls.getD 0 zS) sFrame) && (v.names.length : Int) == (v.parts.length : Int)
def frameB (v : Vec) : Bool := frameHead v && (labelsB v.names 40 && v.parts.all (colB (rows0 v)))
theorem specFrame_loop {n : Nat} (hn : FUEL ≤ n) {v : Vec} (hv : VecOK v) (ht : tsVec v ≤ 68719476736) :
    spec_IsFrame_l0 n (v, (0 : Int)) = some (bif v.parts.all (colB (rows0 v)) then .inl (v, (v.parts.length : Int)) else .inr false) := by
  have hl := (fits ht).nparts
  have hh := iter_all (B := fun x : Vec × Int => spec_IsFrame_r0 n x.1 x.2) (R := Bool) v.parts (fun i => (v, (i : Int))) (colB (rows0 v)) false
    (fun i x hx => by
      have hi := (List.getElem?_eq_some_iff.1 hx).1
      have hx' := List.mem_of_getElem? hx
      dsimp only
      unfold spec_IsFrame_r0
      simp only [idx_lt hx, decide_eq_true (show (0 : Int) < (v.parts.length : Int) by omega), decide_eq_true (show (0 : Int) ≤ 0 by omega), nn, Bool.and_true, chk_true, cond_true, getD_cast hx, Vec.re_eq, w64_succ (show i + 1 ≤ 9223372036854775807 by omega), Option.bind_some,
        show ((v.parts.getD (Int.toNat 0) zV).items.length : Int) = rows0 v from rfl,
        l12Column_eq hn (hv.parts.2 x hx') (show tsVec x ≤ 68719476736 by have := tsVecS_mem hx'; have := (fits ht).parts; omega)]
      cases colB (rows0 v) x <;> rfl)
    (by dsimp only; unfold spec_IsFrame_r0; rw [idx_end]; simp only [cond_false, Vec.re_eq]) (by have := fuel_big hn; unfold BIG at this; omega : v.parts.length < n)
  exact hh
theorem spec_IsFrame_eq {n : Nat} (hn : FUEL ≤ n) {v : Vec} (hv : VecOK v) (ht : tsVec v ≤ 68719476736) : spec_IsFrame n v = some (frameB v) := by
  unfold spec_IsFrame frameB frameHead sFrame
  simp only [Vec.re_eq, spec_IsVector_eq hn hv ht, Option.bind_some, bne]
  cases vecB v
  · rfl
  cases v.kind == 4
  · rfl
  cases h : (v.cls.length : Int) == 1
  · rfl
  have hc := eq_of_beq h
  rw [chk_of (by simp only [hc]; rfl)]
  simp only [Bool.not_true, cond_false, Bool.and_true, Bool.true_and]
  rw [show v.cls.getD (Int.toNat 0) zS = v.cls.getD 0 zS from rfl]
  cases strEq (v.cls.getD 0 zS) (⟨#[100, 97, 116, 97, 46, 102, 114, 97, 109, 101]⟩ : ByteArray)
  · rfl
  cases (v.names.length : Int) == (v.parts.length : Int)
  · rfl
  simp only [Bool.not_true, Bool.not_false, cond_false, cond_true, Bool.and_true, Bool.true_and, show spec_l4Labels n v.names 40 = some (labelsB v.names 40) from l4Labels_eq (fuel_big hn) (by have := (fits ht).nnames; omega) (most := 40) (by omega), Option.bind_some]
  cases labelsB v.names 40
  · rfl
  simp only [Bool.not_true, cond_false, Bool.true_and, specFrame_loop hn hv ht, Option.bind_some, lpK]
  cases v.parts.all (colB (rows0 v)) <;> rfl

/-- What the program asks of the column at place i. -/
def colAt (v : Vec) (i : Nat) (p : Vec) : Bool :=
  !(bif (bif (bif (bif (bif strEq (v.names.getD i zS) zS then true else hasS (v.names.take i) (v.names.getD i zS)) then true else !atomB p.kind) then true else decide ((p.names.length : Int) > 0)) then true else lenV p != lenV (v.parts.getD 0 zV)) then true
    else (bif (bif decide ((p.cls.length : Int) > 0) then true else decide ((p.levels.length : Int) > 0)) then !factorB p else false))
theorem implFrame_loop {n : Nat} (hn : FUEL ≤ n) {v : Vec} (hv : VecOK v) (ht : tsVec v ≤ 68719476736) (hl : v.names.length = v.parts.length) :
    impl_IsFrame_l0 n (v, v.parts, (v.parts.length : Int), (0 : Int)) = some (bif alli (colAt v) 0 v.parts then .inl (v, v.parts, (v.parts.length : Int), (v.parts.length : Int)) else .inr false) := by
  have hlp := (fits ht).nparts
  have hh := iter_alli (B := fun x : Vec × List Vec × Int × Int => impl_IsFrame_r0 n x.1 x.2.1 x.2.2.1 x.2.2.2) (R := Bool) v.parts (fun i => (v, v.parts, (v.parts.length : Int), (i : Int))) (colAt v) false
    (fun i x hx => by
      have hi := (List.getElem?_eq_some_iff.1 hx).1
      have hx' := List.mem_of_getElem? hx
      dsimp only
      unfold impl_IsFrame_r0 colAt
      simp only [idx_lt hx, decide_eq_true (show (i : Int) < (v.names.length : Int) by omega), decide_eq_true (show (i : Int) ≤ (v.names.length : Int) by omega), decide_eq_true (show (0 : Int) < (v.parts.length : Int) by omega), decide_eq_true (show (0 : Int) ≤ 0 by omega), nn, Bool.and_true, Bool.or_true, chk_true, cond_true,
        Int.toNat_natCast, Int.toNat_zero, List.drop_zero, getD_of hx, Vec.re_eq, w64_succ (show i + 1 ≤ 9223372036854775807 by omega), isAtomic_eq, length_eq, hasText_eq (fuel_big hn) (show (v.names.take i).length ≤ 68719476736 by rw [List.length_take]; omega),
        impl_IsFactor_eq hn (hv.parts.2 x hx') (show tsVec x ≤ 68719476736 by have := tsVecS_mem hx'; have := (fits ht).parts; omega)]
      cases strEq (v.names.getD i zS) zS
      rotate_left
      · rfl
      simp only [Bool.not_false, cond_true, cond_false, Option.bind_some]
      cases hasS (v.names.take i) (v.names.getD i zS)
      rotate_left
      · rfl
      simp only [Bool.not_false, cond_true, cond_false, Option.bind_some]
      cases atomB x.kind
      · rfl
      simp only [Bool.not_true, cond_false]
      cases decide ((x.names.length : Int) > 0)
      rotate_left
      · rfl
      simp only [Bool.not_false, cond_true, cond_false, Option.bind_some]
      cases lenV x != lenV (v.parts.getD 0 zV)
      rotate_left
      · rfl
      simp only [cond_false]
      cases (bif decide ((x.cls.length : Int) > 0) then true else decide ((x.levels.length : Int) > 0))
      · rfl
      · simp only [cond_true, Option.bind_some]
        cases factorB x <;> rfl)
    (by dsimp only; unfold impl_IsFrame_r0; rw [idx_end]; simp only [cond_false, Vec.re_eq]) (by have := fuel_big hn; unfold BIG at this; omega : v.parts.length < n)
  exact hh
theorem alli_and {α : Type} (p q : Nat → α → Bool) : ∀ (xs : List α) (i : Nat), alli (fun i x => p i x && q i x) i xs = (alli p i xs && alli q i xs) := by
  intro xs
  induction xs with
  | nil => intro i; rfl
  | cons a l ih =>
    intro i
    simp only [alli, ih]
    cases p i a <;> cases q i a <;> cases alli p (i + 1) l <;> cases alli q (i + 1) l <;> rfl
theorem alli_index {α β : Type} (c : Nat → Bool) : ∀ (xs : List α) (ys : List β) (i : Nat), xs.length = ys.length → alli (fun i _ => c i) i xs = alli (fun i _ => c i) i ys := by
  intro xs
  induction xs with
  | nil => intro ys i h; cases ys with | nil => rfl | cons _ _ => cases h
  | cons a l ih => intro ys i h; cases ys with | nil => cases h | cons b m => simp only [alli]; rw [ih m (i + 1) (by simpa using h)]
theorem frame_cols {v : Vec} (hvb : vecB v = true) (ht : tsVec v ≤ 68719476736) (h4 : (v.kind == 4) = true) (hl : v.names.length = v.parts.length) :
    alli (colAt v) 0 v.parts = (labelsB v.names 40 && v.parts.all (colB (rows0 v))) := by
  have hs := vec_shape hvb
  have hf := shape_facts hs
  have e4 := eq_of_beq h4
  -- the names
  have hlen : (v.names.length : Int) ≤ 40 := by
    by_cases h0 : v.names.length = 0
    · omega
    · rw [hf.2.2.2.2.2.2.2 h0]; exact hf.2.1
  have hnames : labelsB v.names 40 = alli (fun i (_ : Vec) => !(bif strEq (v.names.getD i zS) zS then true else hasS (v.names.take i) (v.names.getD i zS))) 0 v.parts := by
    unfold labelsB
    rw [decide_eq_true hlen, Bool.true_and, ← alli_index (fun i => !(bif strEq (v.names.getD i zS) zS then true else hasS (v.names.take i) (v.names.getD i zS))) v.names v.parts 0 hl]
    refine alli_congr fun j a hj => ?_
    rw [Nat.zero_add, getD_of hj]
    unfold labelAt
    rw [names_small hs a (List.mem_of_getElem? hj)]
    cases strEq a zS <;> rfl
  -- the columns
  have hcol : v.parts.all (colB (rows0 v)) = v.parts.all (fun p => (atomB p.kind && (!decide ((p.names.length : Int) > 0) && lenV p == lenV (v.parts.getD 0 zV))) && !(bif (bif decide ((p.cls.length : Int) > 0) then true else decide ((p.levels.length : Int) > 0)) then !factorB p else false)) := by
    cases hp : v.parts with
    | nil => rfl
    | cons p0 l =>
      have hp0 : p0 ∈ v.parts := by rw [hp]; exact List.mem_cons_self ..
      have hfit : ∀ p ∈ v.parts, tsVec p ≤ 68719476736 := fun p hp => by have := tsVecS_mem hp; have := (fits ht).parts; omega
      cases ha0 : atomB p0.kind
      · simp only [List.all_cons, colB, ha0, Bool.false_and]
      · have h0 := atom_parts (vec_part hvb hp0) ha0
        have e0 := lenV_atom (hfit p0 hp0) h0.2 h0.1
        have er : rows0 v = p0.items.length := by unfold rows0; rw [hp]; rfl
        rw [← hp, er]
        refine all_mem fun p hpm => ?_
        unfold colB
        rw [len0, len0, len0, show v.parts.getD 0 zV = p0 by rw [hp]; rfl]
        cases ha : atomB p.kind
        · rfl
        · have h1 := atom_parts (vec_part hvb hpm) ha
          rw [lenV_atom (hfit p hpm) h1.2 h1.1, e0]
          cases (p.items.length : Int) == (p0.items.length : Int) <;> cases decide ((p.names.length : Int) > 0) <;> cases decide ((p.cls.length : Int) > 0) <;> cases decide ((p.levels.length : Int) > 0) <;> cases factorB p <;> rfl
  rw [hnames, hcol, ← alli_const _ _ 0, ← alli_and]
  refine alli_congr fun j a _ => ?_
  unfold colAt
  simp only [bne]
  cases strEq (v.names.getD (0 + j) zS) zS <;> cases hasS (v.names.take (0 + j)) (v.names.getD (0 + j) zS) <;> cases atomB a.kind <;> cases decide ((a.names.length : Int) > 0) <;> cases lenV a == lenV (v.parts.getD 0 zV) <;>
    cases (bif (bif decide ((a.cls.length : Int) > 0) then true else decide ((a.levels.length : Int) > 0)) then !factorB a else false) <;> rfl
theorem impl_IsFrame_eq {n : Nat} (hn : FUEL ≤ n) {v : Vec} (hv : VecOK v) (ht : tsVec v ≤ 68719476736) : impl_IsFrame n v = some (frameB v) := by
  unfold impl_IsFrame frameB frameHead sFrame
  simp only [Vec.re_eq, impl_IsVector_eq hn hv ht, Option.bind_some, bne]
  cases hvb : vecB v
  · rfl
  cases h4 : v.kind == 4
  · rfl
  cases h : (v.cls.length : Int) == 1
  · rfl
  have hc := eq_of_beq h
  rw [chk_of (by simp only [hc]; rfl)]
  simp only [Bool.not_true, cond_false, Bool.and_true, Bool.true_and]
  rw [show v.cls.getD (Int.toNat 0) zS = v.cls.getD 0 zS from rfl]
  cases strEq (v.cls.getD 0 zS) (⟨#[100, 97, 116, 97, 46, 102, 114, 97, 109, 101]⟩ : ByteArray)
  · rfl
  cases hl : (v.names.length : Int) == (v.parts.length : Int)
  · rfl
  have hl' : v.names.length = v.parts.length := by have := eq_of_beq hl; omega
  simp only [Bool.not_true, cond_false, Bool.true_and, implFrame_loop hn hv ht hl', frame_cols hvb ht h4 hl', Option.bind_some, lpK]
  cases (labelsB v.names 40 && v.parts.all (colB (rows0 v))) <;> rfl
theorem law_FnExactIsFrame (v : Vec) (h : VecOK v) : ∃ n, laws_FnExactIsFrame n v = some true := by
  refine ⟨FUEL, ?_⟩
  have hn := Nat.le_refl FUEL
  unfold laws_FnExactIsFrame
  simp only [Vec.re_eq]
  rw [szVector_eq hn h (by omega) (by omega)]
  by_cases hc : tsVec v ≤ 1048576
  · have hT : tsVec v ≤ 68719476736 := by omega
    simp only [Option.bind_some, capd_lt hc, toVector_eq hn hT, spec_IsFrame_eq hn h hT, impl_IsFrame_eq hn h hT, eqVector_self hn hT, cond_false]
    simp
  · simp only [Option.bind_some, capd_no hc, cond_true]
theorem pure_FnExactIsFrame (xs : Dens ([.vec] ++ [])) (h : WfAll ([.vec] ++ []) xs) : ∃ n, laws_FnExactIsFrame n xs = some true :=
  law_FnExactIsFrame xs (h (unpack .vec xs) (List.mem_singleton.2 rfl))

/-! ### Rows -/
def rowsB (v : Vec) : Int := bif frameB v then (bif (v.parts.length : Int) == 0 then 0 else rows0 v) else -1
theorem spec_RowsOf_eq {n : Nat} (hn : FUEL ≤ n) {v : Vec} (hv : VecOK v) (ht : tsVec v ≤ 68719476736) : spec_RowsOf n v = some (rowsB v) := by
  unfold spec_RowsOf rowsB
  simp only [Vec.re_eq, spec_IsFrame_eq hn hv ht, Option.bind_some]
  cases frameB v
  · rfl
  · cases hp : v.parts with
    | nil => rfl
    | cons a l => unfold rows0; rw [hp]; simp only [cons_eq0, cons_pos]; rfl
theorem frame_col {v p : Vec} (h : frameB v = true) (hp : p ∈ v.parts) : colB (rows0 v) p = true := by
  unfold frameB at h
  simp only [Bool.and_eq_true, List.all_eq_true] at h
  exact h.2.2 p hp
theorem frame_vec {v : Vec} (h : frameB v = true) : vecB v = true := by
  unfold frameB frameHead at h
  simp only [Bool.and_eq_true] at h
  exact h.1.1.1.1.1
theorem frame_len {v p : Vec} (ht : tsVec v ≤ 68719476736) (h : frameB v = true) (hp : p ∈ v.parts) : lenV p = rows0 v ∧ (p.items.length : Int) = rows0 v := by
  have hc := frame_col h hp
  unfold colB at hc
  simp only [Bool.and_eq_true, beq_iff_eq] at hc
  have h1 := atom_parts (vec_part (frame_vec h) hp) hc.1
  have := tsVecS_mem hp
  have := (fits ht).parts
  exact ⟨(lenV_atom (by omega) h1.2 h1.1).trans hc.2.1, hc.2.1⟩
theorem impl_rows_eq {v : Vec} (ht : tsVec v ≤ 68719476736) (h : frameB v = true) : impl_rows v = some (rowsB v) := by
  unfold impl_rows rowsB
  rw [h]
  cases hp : v.parts with
  | nil => rfl
  | cons a l =>
    have hm : a ∈ v.parts := by rw [hp]; exact List.mem_cons_self ..
    simp only [Vec.re_eq, show ((a :: l).getD (Int.toNat 0) zV) = a from rfl, length_eq, (frame_len ht h hm).1, Option.bind_some, cons_eq0, cons_pos]
    rfl
theorem impl_RowsOf_eq {n : Nat} (hn : FUEL ≤ n) {v : Vec} (hv : VecOK v) (ht : tsVec v ≤ 68719476736) : impl_RowsOf n v = some (rowsB v) := by
  unfold impl_RowsOf
  simp only [Vec.re_eq, impl_IsFrame_eq hn hv ht, Option.bind_some]
  cases h : frameB v
  · unfold rowsB; rw [h]; rfl
  · rw [impl_rows_eq ht h]; rfl
theorem law_FnExactRowsOf (v : Vec) (h : VecOK v) : ∃ n, laws_FnExactRowsOf n v = some true := by
  refine ⟨FUEL, ?_⟩
  have hn := Nat.le_refl FUEL
  unfold laws_FnExactRowsOf
  simp only [Vec.re_eq]
  rw [szVector_eq hn h (by omega) (by omega)]
  by_cases hc : tsVec v ≤ 1048576
  · have hT : tsVec v ≤ 68719476736 := by omega
    simp only [Option.bind_some, capd_lt hc, toVector_eq hn hT, spec_RowsOf_eq hn h hT, impl_RowsOf_eq hn h hT, eqVector_self hn hT, cond_false]
    simp
  · simp only [Option.bind_some, capd_no hc, cond_true]
theorem pure_FnExactRowsOf (xs : Dens ([.vec] ++ [])) (h : WfAll ([.vec] ++ []) xs) : ∃ n, laws_FnExactRowsOf n xs = some true :=
  law_FnExactRowsOf xs (h (unpack .vec xs) (List.mem_singleton.2 rfl))
end Go.AM
