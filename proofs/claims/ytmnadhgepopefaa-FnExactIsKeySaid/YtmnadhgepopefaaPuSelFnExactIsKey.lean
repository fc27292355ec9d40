/- Copies of vectors, chosen columns, made frames. -/
import Derived.Test.YtmnadhgepopefaaFuFnExactIsKey
import Derived.Test.YtmnadhgepopefaaPuBaseFnExactIsKey
import Derived.Test.YtmnadhgepopefaaPuItemFnExactIsKey
import Derived.Test.YtmnadhgepopefaaPuVecFnExactIsKey
import Derived.Test.YtmnadhgepopefaaPuIsVFnExactIsKey
import Derived.Test.YtmnadhgepopefaaPuIsV2FnExactIsKey
import Derived.Test.YtmnadhgepopefaaPuIsV3FnExactIsKey
import Derived.Test.YtmnadhgepopefaaPuIsV4FnExactIsKey
import Derived.Test.YtmnadhgepopefaaPuFactorFnExactIsKey
import Derived.Test.YtmnadhgepopefaaPuFrameFnExactIsKey

namespace Go.AM

theorem down1 {P : Nat → Vec → Prop} (hP : ∀ m v, BIG ≤ m → tsVec v ≤ 68719476736 → (∀ p ∈ v.parts, tsVec p ≤ 68719476736 → P m p) → P (m + 1) v) : ∀ n, FUEL ≤ n → ∀ v, tsVec v ≤ 68719476736 → P n v := by
  have main : ∀ k : Nat, k ≤ 68719476736 → ∀ v, tsVec v ≤ k → ∀ n, BIG + k + 1 ≤ n → P n v := by
    intro k
    induction k with
    | zero =>
      intro _ v hv n hn
      obtain ⟨m, rfl⟩ : ∃ m, n = m + 1 := ⟨n - 1, by omega⟩
      refine hP m v (by omega) (by omega) fun p hp _ => ?_
      have h1 := tsVecS_mem hp
      have h2 := tsVec_nonneg p
      have h3 := (fits hv).parts
      omega
    | succ k ih =>
      intro hk v hv n hn
      obtain ⟨m, rfl⟩ : ∃ m, n = m + 1 := ⟨n - 1, by omega⟩
      refine hP m v (by omega) (by omega) fun p hp _ => ?_
      have h1 := tsVecS_mem hp
      have h3 := (fits hv).parts
      exact ih (by omega) p (by omega) m (by omega)
  intro n hn v hv
  exact main 68719476736 (Nat.le_refl _) v hv n (by unfold FUEL BIG at hn; unfold BIG; omega)

/-- A loop that appends one element a round. -/
theorem iter_push {α β X R : Type} {B : X → Option (Round X R)} (xs : List α) (mk : List β → Nat → X) (g : α → β)
    (step : ∀ i a out, xs[i]? = some a → out.length = i → B (mk out i) = some (.again (mk (out ++ [g a]) (i + 1)))) (stop : ∀ out, out.length = xs.length → B (mk out xs.length) = some (.stop (mk out xs.length))) {n : Nat} (hn : xs.length < n) :
    iter B n (mk [] 0) = some (.inl (mk (xs.map g) xs.length)) := by
  have h := iter_for (B := B) (R := R) xs mk (fun out a => .inl (out ++ [g a])) (fun i out => out.length = i) (fun i a s ha hI => step i a s ha hI) (fun i a s s' _ hI he => by cases he; simp [hI]) (fun s hI => stop s hI) hn [] rfl
  have e : ∀ (l : List α) (pre : List β), forL (ρ := R) (fun (pre : List β) a => .inl (pre ++ [g a])) l pre = .inl (pre ++ l.map g) := by
    intro l
    induction l with
    | nil => intro pre; simp [forL]
    | cons a l ih => intro pre; simp only [forL]; rw [ih]; simp
  rw [e] at h
  simpa using h
/-- .. or gives up. -/
def mapO {α β : Type} (g : α → Option β) : List α → Option (List β)
  | [] => some []
  | a :: l => match g a with
    | none => none
    | some b => match mapO g l with
      | none => none
      | some bs => some (b :: bs)
theorem iter_pushO {α β X R : Type} {B : X → Option (Round X R)} (xs : List α) (mk : List β → Nat → X) (g : α → Option β) (r : R)
    (step : ∀ i a out, xs[i]? = some a → out.length = i → B (mk out i) = some (match g a with | some b => .again (mk (out ++ [b]) (i + 1)) | none => .ret r)) (stop : ∀ out, out.length = xs.length → B (mk out xs.length) = some (.stop (mk out xs.length))) {n : Nat} (hn : xs.length < n) :
    iter B n (mk [] 0) = some (match mapO g xs with | some ys => .inl (mk ys xs.length) | none => .inr r) := by
  have h := iter_for (B := B) (R := R) xs mk (fun out a => match g a with | some b => .inl (out ++ [b]) | none => .inr r) (fun i out => out.length = i)
    (fun i a s ha hI => by rw [step i a s ha hI]; cases g a <;> rfl) (fun i a s s' _ hI he => by
      cases hg : g a with
      | none => rw [hg] at he; cases he
      | some b => rw [hg] at he; cases he; simp [hI]) (fun s hI => stop s hI) hn [] rfl
  have e : ∀ (l : List α) (pre : List β), forL (fun (pre : List β) a => match g a with | some b => .inl (pre ++ [b]) | none => .inr r) l pre = match mapO g l with | some ys => .inl (pre ++ ys) | none => .inr r := by
    intro l
    induction l with
    | nil => intro pre; simp [forL, mapO]
    | cons a l ih =>
      intro pre
      simp only [forL, mapO]
      cases g a with
      | none => rfl
      | some b =>
        dsimp only
        rw [ih]
        cases mapO g l with
        | none => rfl
        | some bs => simp
  rw [e] at h
  rw [h]
  cases mapO g xs with
  | none => rfl
  | some ys => simp
theorem mapO_len {α β : Type} {g : α → Option β} : ∀ {xs : List α} {ys : List β}, mapO g xs = some ys → ys.length = xs.length := by
  intro xs
  induction xs with
  | nil => intro ys h; cases h; rfl
  | cons a l ih =>
    intro ys h
    simp only [mapO] at h
    cases hg : g a with
    | none => rw [hg] at h; cases h
    | some b =>
      rw [hg] at h
      cases hm : mapO g l with
      | none => rw [hm] at h; cases h
      | some bs => rw [hm] at h; cases h; simp [ih hm]
theorem mapO_mem {α β : Type} {g : α → Option β} : ∀ {xs : List α} {ys : List β}, mapO g xs = some ys → (∀ y ∈ ys, ∃ x ∈ xs, g x = some y) ∧ ∀ x ∈ xs, ∃ y ∈ ys, g x = some y := by
  intro xs
  induction xs with
  | nil => intro ys h; cases h; exact ⟨fun y hy => (nomatch hy), fun x hx => (nomatch hx)⟩
  | cons a l ih =>
    intro ys h
    simp only [mapO] at h
    cases hg : g a with
    | none => rw [hg] at h; cases h
    | some b =>
      rw [hg] at h
      cases hm : mapO g l with
      | none => rw [hm] at h; cases h
      | some bs =>
        rw [hm] at h; cases h
        obtain ⟨h1, h2⟩ := ih hm
        refine ⟨fun y hy => ?_, fun x hx => ?_⟩
        · rcases List.mem_cons.1 hy with rfl | hy
          · exact ⟨a, List.mem_cons_self .., hg⟩
          · obtain ⟨x, hx, e⟩ := h1 y hy; exact ⟨x, List.mem_cons_of_mem _ hx, e⟩
        · rcases List.mem_cons.1 hx with rfl | hx
          · exact ⟨b, List.mem_cons_self .., hg⟩
          · obtain ⟨y, hy, e⟩ := h2 x hx; exact ⟨y, List.mem_cons_of_mem _ hy, e⟩

/-! ### Copies -/
theorem copyItems_eq {xs : List Item} (h : xs.length ≤ 68719476736) : impl_copyItems xs = some xs := by
  unfold impl_copyItems
  rw [chk_of (by unfold LIM; simp; omega)]
  rfl
theorem copyTexts_eq {xs : List ByteArray} (h : xs.length ≤ 68719476736) : impl_copyTexts xs = some xs := by
  unfold impl_copyTexts
  rw [chk_of (by unfold LIM; simp; omega)]
  rfl
theorem copyVector_eq {n : Nat} (hn : FUEL ≤ n) {v : Vec} (hv : tsVec v ≤ 68719476736) : impl_copyVector n v = some v := by
  refine down1 (P := fun n v => impl_copyVector n v = some v) (fun m v hm ht hp => ?_) n hn v hv
  have f := fits ht
  show impl_copyVector_b (impl_copyVector m) m v = _
  unfold impl_copyVector_b
  rw [copyItems_eq (by have := f.nitems; omega), copyTexts_eq (by have := f.nnames; omega), copyTexts_eq (by have := f.ncls; omega), copyTexts_eq (by have := f.nlevels; omega)]
  have hlp := f.nparts
  have hh := iter_push (B := fun x : Vec × Vec × List Vec × Int × Int => impl_copyVector_r0 (impl_copyVector m) x.1 x.2.1 x.2.2.1 x.2.2.2.1 x.2.2.2.2) (R := Vec) v.parts
    (fun out i => ((⟨0, [], [], [], [], [], 0, 0⟩ : Vec), (⟨v.kind, v.items, out, v.names, v.cls, v.levels, v.code, v.env⟩ : Vec), v.parts, (v.parts.length : Int), (i : Int))) id
    (fun i x out hx ho => by
      have hi := (List.getElem?_eq_some_iff.1 hx).1
      have hx' := List.mem_of_getElem? hx
      dsimp only
      unfold impl_copyVector_r0
      simp only [idx_lt hx, nn, Bool.and_true, chk_true, cond_true, getD_cast hx, Vec.re_eq, hp x hx' (by have := tsVecS_mem hx'; have := f.parts; omega), Option.bind_some, w64_succ (show i + 1 ≤ 9223372036854775807 by omega)]
      rw [chk_of (by unfold LIM; simp; omega)]
      rfl)
    (fun out ho => by dsimp only; unfold impl_copyVector_r0; rw [idx_end]; simp only [cond_false, Vec.re_eq]) (by unfold BIG at hm; omega : v.parts.length < m)
  simp only [Option.bind_some]
  rw [show impl_copyVector_l0 (impl_copyVector m) m ((⟨0, [], [], [], [], [], 0, 0⟩ : Vec), (⟨v.kind, v.items, [], v.names, v.cls, v.levels, v.code, v.env⟩ : Vec), v.parts, (v.parts.length : Int), (0 : Int)) = _ from hh]
  simp only [Option.bind_some, lpK, Vec.re_eq, List.map_id]
  exact congrArg some (Vec.re_eq v)
theorem isV_mono : ∀ (d : Nat) (v : Vec), isV d v = true → isV (d + 1) v = true := by
  intro d
  induction d with
  | zero =>
    intro v h
    unfold isV at h ⊢
    rw [Bool.and_eq_true, List.all_eq_true] at h ⊢
    exact ⟨h.1, fun p hp => by cases h.2 p hp⟩
  | succ d ih =>
    intro v h
    unfold isV at h ⊢
    rw [Bool.and_eq_true, List.all_eq_true] at h ⊢
    exact ⟨h.1, fun p hp => ih p (h.2 p hp)⟩
theorem shape_parts {v : Vec} (ht : tsVec v ≤ 68719476736) (h : shapeB v = true) : v.parts.length ≤ 40 := by
  have hf := shape_facts h
  cases h4 : v.kind == 4
  · rw [rare_parts h4 hf.2.2.2.2.2.1]; simp
  · have e4 := eq_of_beq h4
    have h1 := hf.2.1
    have h2 := (fits ht).nitems
    have h3 := (fits ht).nparts
    unfold lenV at h1
    rw [e4, show ((4 : Int) == 5) = false from rfl, cond_false, w64_id (by omega) (by omega)] at h1
    omega
theorem shape_items {v : Vec} (ht : tsVec v ≤ 68719476736) (h : shapeB v = true) : v.items.length ≤ 40 := by
  have hf := shape_facts h
  cases h5 : v.kind == 5
  · have h1 := hf.2.1
    have h2 := (fits ht).nitems
    have h3 := (fits ht).nparts
    unfold lenV at h1
    rw [h5, cond_false, w64_id (by omega) (by omega)] at h1
    omega
  · have := hf.2.2.2.2.2.2.1
    unfold lastB fifthB at this
    rw [h5, cond_true] at this
    simp only [Bool.and_eq_true, beq_iff_eq] at this
    omega
theorem l4Copy_all : ∀ n, FUELd ≤ n → (∀ v, tsVec v ≤ 68719476736 → VecOK v → isV 3 v = true → spec_l4Copy n v = some v) ∧ ∀ xs, tsVecS xs ≤ 68719476736 → (∀ p ∈ xs, VecOK p ∧ isV 3 p = true) → spec_l4Copies n xs = some (xs.take 41) := by
  refine down' (P := fun n v => VecOK v → isV 3 v = true → spec_l4Copy n v = some v) (fun n xs => (∀ p ∈ xs, VecOK p ∧ isV 3 p = true) → spec_l4Copies n xs = some (xs.take 41)) (fun m xs hm' hx hrec hall => ?_) (fun m v hm' hv hp hok h3 => ?_)
  · have hm : BIG ≤ m := by have := big'; omega
    have hm4 : BIG + 3 + 1 ≤ m := by have := big'; omega
    have hlen := tsVecS_len xs
    show spec_l4Copies_b (spec_l4Copies m) (spec_l4Copy m) m xs = _
    have hh := iter_push (B := fun x : List Vec × List Vec × Int => spec_l4Copies_r0 (spec_l4Copy m) m x.1 x.2.1 x.2.2) (R := List Vec) (xs.take 41) (fun out i => (xs, out, (i : Int))) id
      (fun i x out hx' ho => by
        have hg := take_get hx'
        have hi := (List.getElem?_eq_some_iff.1 hg.1).1
        have hxm := List.mem_of_getElem? hg.1
        dsimp only
        unfold spec_l4Copies_r0 spec_l4Copies_j1
        have htx : tsVec x ≤ 68719476736 := by have := tsVecS_mem hxm; omega
        simp only [idx_lt hg.1, decide_eq_true (show (i : Int) ≤ 40 by omega), nn, Bool.and_true, chk_true, cond_true, getD_cast hg.1, Vec.re_eq, show spec_l4Is m x 3 = some (isV 3 x) from l4Is_eq 3 (by omega) m hm4 x (hall x hxm).1 htx, (hall x hxm).2, hrec x hxm (hall x hxm).1 (hall x hxm).2, Option.bind_some, Bool.not_true, cond_false, w64_succ (show i + 1 ≤ 9223372036854775807 by omega)]
        rw [chk_of (by unfold LIM; simp; omega)]
        rfl)
      (fun out ho => by
        dsimp only
        unfold spec_l4Copies_r0
        by_cases hc : xs.length ≤ 41
        · rw [List.take_of_length_le hc, idx_end]; rfl
        · rw [show (xs.take 41).length = 41 by rw [List.length_take]; omega, show decide (((41 : Nat) : Int) ≤ (40 : Int)) = false from rfl]
          cases decide (((41 : Nat) : Int) < (xs.length : Int)) <;> rfl) (by rw [List.length_take]; unfold BIG at hm; omega : (xs.take 41).length < m)
    unfold spec_l4Copies_b
    rw [show spec_l4Copies_l0 (spec_l4Copy m) m (xs, [], (0 : Int)) = _ from hh]
    simp only [Option.bind_some, lpK, List.map_id]
  · have hm : BIG ≤ m := by have := big'; omega
    have hm4 : BIG + 3 + 1 ≤ m := by have := big'; omega
    have f := fits hv
    have hs := isV_shape h3
    show spec_l4Copy_b (spec_l4Copies m) (spec_l4Copy m) m v = _
    unfold spec_l4Copy_b
    have hp' := hp fun p hpm => ⟨hok.parts.2 p hpm, isV_mono 2 p (isV_part h3 hpm)⟩
    have hlp := shape_parts hv hs
    rw [chk_of (by unfold LIM; have := f.nitems; simp; omega), hp', List.take_of_length_le (by omega)]
    simp only [Option.bind_some]
    rw [chk_of (by unfold LIM; have := f.nnames; simp; omega), chk_of (by unfold LIM; have := f.ncls; simp; omega), chk_of (by unfold LIM; have := f.nlevels; simp; omega)]
    cases v; rfl
theorem l4Copy_eq {n : Nat} (hn : FUELd ≤ n) {v : Vec} (ht : tsVec v ≤ 68719476736) (hv : VecOK v) (h : isV 3 v = true) : spec_l4Copy n v = some v := (l4Copy_all n hn).1 v ht hv h

/-! ### Chosen columns -/
def lookup (f : Vec) (name : ByteArray) : Option Vec := (findS f.names name).map fun k => f.parts.getD k zV
def sNotFrame : ByteArray := ⟨#[110, 111, 116, 32, 97, 32, 100, 97, 116, 97, 32, 102, 114, 97, 109, 101]⟩
def sNoColumn : ByteArray := ⟨#[110, 111, 32, 115, 117, 99, 104, 32, 99, 111, 108, 117, 109, 110]⟩
def sNames : ByteArray := ⟨#[105, 110, 118, 97, 108, 105, 100, 32, 110, 97, 109, 101, 115]⟩
def sLarge : ByteArray := ⟨#[114, 101, 115, 117, 108, 116, 32, 105, 115, 32, 116, 111, 111, 32, 108, 97, 114, 103, 101]⟩
def v0 : Vec := ⟨0, [], [], [], [], [], 0, 0⟩
def frameV (cols : List Vec) (names : List ByteArray) : Vec := ⟨4, [], cols, names, [sFrame], [], 0, 0⟩
def made (cols : List Vec) (names : List ByteArray) : Vec × ByteArray := bif alli (labelAt names) 0 names then (bif vecB (frameV cols names) then (frameV cols names, zS) else (v0, sLarge)) else (v0, sNames)
def selB (f : Vec) (names : List ByteArray) : Vec × ByteArray := bif frameB f then (match mapO (lookup f) names with | some cols => made cols names | none => (v0, sNoColumn)) else (v0, sNotFrame)

theorem atS_neg (k : Nat) : decide (atOr (some k) < 0) = false := decide_eq_false (show ¬ (k : Int) < 0 by omega)
theorem atS_nn (k : Nat) : decide ((0 : Int) ≤ atOr (some k)) = true := decide_eq_true (show (0 : Int) ≤ (k : Int) by omega)
theorem atS_lt {α : Type} {xs : List α} {k : Nat} (h : k < xs.length) : decide (atOr (some k) < (xs.length : Int)) = true := decide_eq_true (show (k : Int) < (xs.length : Int) by omega)
theorem atS_nat (k : Nat) : (atOr (some k)).toNat = k := Int.toNat_natCast k
theorem findS_lt {xs : List ByteArray} {s : ByteArray} {k : Nat} (h : findS xs s = some k) : k < xs.length := by
  unfold findS at h
  rw [List.findIdx?_eq_some_iff_getElem] at h
  exact h.1
theorem frame_names {v : Vec} (h : frameB v = true) : v.names.length = v.parts.length := by
  unfold frameB frameHead at h
  simp only [Bool.and_eq_true, beq_iff_eq] at h
  have := h.1.2
  omega
theorem lookup_mem {f p : Vec} {s : ByteArray} (h : frameB f = true) (hl : lookup f s = some p) : p ∈ f.parts ∧ hasS f.names s = true := by
  unfold lookup at hl
  cases hf : findS f.names s with
  | none => rw [hf] at hl; cases hl
  | some k =>
    rw [hf] at hl
    cases hl
    have hk := findS_lt hf
    rw [frame_names h] at hk
    refine ⟨?_, ?_⟩
    · show f.parts.getD k zV ∈ f.parts
      rw [List.getD_eq_getElem?_getD, List.getElem?_eq_getElem hk]
      exact List.getElem_mem hk
    · rw [← atOr_ge, hf]; simp [atOr]
theorem specSel_loop {n : Nat} (hn : FUEL ≤ n) {f : Vec} (ht : tsVec f ≤ 68719476736) (hf : frameB f = true) {names : List ByteArray} (hl : names.length ≤ 68719476736) :
    spec_SelectColumns_l0 n (names, f, v0, ([] : List Vec), (0 : Int)) = some (match mapO (lookup f) names with | some cols => .inl (names, f, v0, cols, (names.length : Int)) | none => .inr (v0, sNoColumn)) := by
  have hh := iter_pushO (B := fun x : List ByteArray × Vec × Vec × List Vec × Int => spec_SelectColumns_r0 n x.1 x.2.1 x.2.2.1 x.2.2.2.1 x.2.2.2.2) (R := Vec × ByteArray) names (fun out i => (names, f, v0, out, (i : Int))) (lookup f) (v0, sNoColumn)
    (fun i x out hx ho => by
      have hi := (List.getElem?_eq_some_iff.1 hx).1
      dsimp only
      unfold spec_SelectColumns_r0 lookup
      simp only [idx_lt hx, nn, Bool.and_true, chk_true, cond_true, getD_cast hx, Vec.re_eq, l1Find_eq (fuel_big hn) (show f.names.length ≤ 68719476736 by have := (fits ht).nnames; omega), Option.bind_some, w64_succ (show i + 1 ≤ 9223372036854775807 by omega)]
      cases hk : findS f.names x with
      | none => rfl
      | some k =>
        have hlt := findS_lt hk
        rw [frame_names hf] at hlt
        simp only [Option.map_some, atS_neg, atS_nn, atS_lt hlt, atS_nat, Bool.and_true, chk_true, cond_false]
        rw [chk_of (by unfold LIM; simp; omega)])
    (fun out ho => by dsimp only; unfold spec_SelectColumns_r0; rw [idx_end]; simp only [cond_false, Vec.re_eq]) (by have := fuel_big hn; unfold BIG at this; omega : names.length < n)
  exact hh.trans (by cases mapO (lookup f) names <;> rfl)
theorem implSel_loop {n : Nat} (hn : FUEL ≤ n) {f : Vec} (ht : tsVec f ≤ 68719476736) (hf : frameB f = true) {names : List ByteArray} (hl : names.length ≤ 68719476736) :
    impl_SelectColumns_l0 n (names, f, v0, ([] : List Vec), names, (names.length : Int), (0 : Int)) = some (match mapO (lookup f) names with | some cols => .inl (names, f, v0, cols, names, (names.length : Int), (names.length : Int)) | none => .inr (v0, sNoColumn)) := by
  have hh := iter_pushO (B := fun x : List ByteArray × Vec × Vec × List Vec × List ByteArray × Int × Int => impl_SelectColumns_r0 n x.1 x.2.1 x.2.2.1 x.2.2.2.1 x.2.2.2.2.1 x.2.2.2.2.2.1 x.2.2.2.2.2.2) (R := Vec × ByteArray) names (fun out i => (names, f, v0, out, names, (names.length : Int), (i : Int))) (lookup f) (v0, sNoColumn)
    (fun i x out hx ho => by
      have hi := (List.getElem?_eq_some_iff.1 hx).1
      dsimp only
      unfold impl_SelectColumns_r0 lookup
      simp only [idx_lt hx, nn, Bool.and_true, chk_true, cond_true, getD_cast hx, Vec.re_eq, textIndex_eq (fuel_big hn) (show f.names.length ≤ 68719476736 by have := (fits ht).nnames; omega), Option.bind_some, w64_succ (show i + 1 ≤ 9223372036854775807 by omega)]
      cases hk : findS f.names x with
      | none => rfl
      | some k =>
        have hlt := findS_lt hk
        rw [frame_names hf] at hlt
        have hm : f.parts.getD k zV ∈ f.parts := by
          rw [List.getD_eq_getElem?_getD, List.getElem?_eq_getElem hlt]
          exact List.getElem_mem hlt
        simp only [Option.map_some, atS_neg, atS_nn, atS_lt hlt, atS_nat, Bool.and_true, chk_true, cond_false, copyVector_eq hn (show tsVec (f.parts.getD k zV) ≤ 68719476736 by have := tsVecS_mem hm; have := (fits ht).parts; omega), Option.bind_some]
        rw [chk_of (by unfold LIM; simp; omega)])
    (fun out ho => by dsimp only; unfold impl_SelectColumns_r0; rw [idx_end]; simp only [cond_false, Vec.re_eq]) (by have := fuel_big hn; unfold BIG at this; omega : names.length < n)
  exact hh.trans (by cases mapO (lookup f) names <;> rfl)
/-- Labels differ from each other, so no more of them than there are to choose from. -/
theorem labels_few : ∀ (pre l ys : List ByteArray), (∀ x ∈ l, x ∈ ys) → alli (fun i x => !hasS ((pre ++ l).take i) x) pre.length l = true → (∀ x ∈ l, x ∉ pre) ∧ l.Nodup := by
  intro pre l
  induction l generalizing pre with
  | nil => intro ys _ _; exact ⟨fun x hx => (nomatch hx), List.nodup_nil⟩
  | cons a l ih =>
    intro ys hy h
    simp only [alli, Bool.and_eq_true] at h
    have ha : a ∉ pre := by
      intro hm
      have := h.1
      rw [List.take_left' rfl] at this
      have h2 : hasS pre a = true := List.any_eq_true.2 ⟨a, hm, strEq_self a⟩
      rw [h2] at this
      cases this
    have := ih (pre ++ [a]) ys (fun x hx => hy x (List.mem_cons_of_mem _ hx)) (by simpa using h.2)
    refine ⟨fun x hx => ?_, ?_⟩
    · rcases List.mem_cons.1 hx with rfl | hx
      · exact ha
      · exact fun hm => this.1 x hx (List.mem_append_left _ hm)
    · rw [List.nodup_cons]
      exact ⟨fun hm => this.1 a hm (List.mem_append_right _ (List.mem_singleton.2 rfl)), this.2⟩
theorem nodup_len {α : Type} [DecidableEq α] : ∀ (l ys : List α), l.Nodup → (∀ x ∈ l, x ∈ ys) → l.length ≤ ys.length := by
  intro l
  induction l with
  | nil => intro ys _ _; exact Nat.zero_le _
  | cons a l ih =>
    intro ys hn hs
    rw [List.nodup_cons] at hn
    have ha := hs a (List.mem_cons_self ..)
    have := ih (ys.erase a) hn.2 (fun x hx => (List.mem_erase_of_ne (fun e => hn.1 (by rw [← e]; exact hx))).2 (hs x (List.mem_cons_of_mem _ hx)))
    rw [List.length_erase_of_mem ha] at this
    have hp := List.length_pos_of_mem ha
    simp only [List.length_cons]
    omega
end Go.AM
