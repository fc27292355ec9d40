/- Sizes of valid vectors; frames made of chosen columns: the two SelectColumns agree. -/
import Derived.Test.YtmnadhgepopefaaFuFnExactIsKey
import Derived.Test.YtmnadhgepopefaaPuBaseFnExactIsKey
import Derived.Test.YtmnadhgepopefaaPuItemFnExactIsKey
import Derived.Test.YtmnadhgepopefaaPuVecFnExactIsKey
import Derived.Test.YtmnadhgepopefaaPuIsVFnExactIsKey
import Derived.Test.YtmnadhgepopefaaPuIsV2FnExactIsKey
import Derived.Test.YtmnadhgepopefaaPuIsV3FnExactIsKey
import Derived.Test.YtmnadhgepopefaaPuIsV4FnExactIsKey
import Derived.Test.YtmnadhgepopefaaPuFactorFnExactIsKey
import Derived.Test.YtmnadhgepopefaaPuFrameFnExactIsKey
import Derived.Test.YtmnadhgepopefaaPuSelFnExactIsKey

namespace Go.AM

/-! ### A valid vector is small -/
theorem sumT_le {α : Type} {t : α → Int} {c : Int} : ∀ {xs : List α}, (∀ a ∈ xs, t a ≤ c) → sumT t xs ≤ xs.length * c := by
  intro xs
  induction xs with
  | nil => intro _; simp
  | cons a l ih =>
    intro h
    have h1 := h a (List.mem_cons_self ..)
    have h2 := ih fun b hb => h b (List.mem_cons_of_mem _ hb)
    rw [sumT_cons, List.length_cons, Int.natCast_add, Int.add_mul]
    omega
theorem alli_mem {α : Type} {p : Nat → α → Bool} : ∀ {xs : List α} {i : Nat}, alli p i xs = true → ∀ x ∈ xs, ∃ j, p j x = true := by
  intro xs
  induction xs with
  | nil => intro i _ x hx; exact (nomatch hx)
  | cons a l ih =>
    intro i h x hx
    simp only [alli, Bool.and_eq_true] at h
    rcases List.mem_cons.1 hx with rfl | hx
    · exact ⟨i, h.1⟩
    · exact ih h.2 x hx
theorem label_small {list : List ByteArray} {j : Nat} {x : ByteArray} (h : labelAt list j x = true) : (x.size : Int) ≤ 60 := by
  unfold labelAt at h
  cases hd : decide ((x.size : Int) > 60)
  · have := of_decide_eq_false hd; omega
  · rw [hd] at h
    revert h
    cases strEq x zS <;> intro h <;> simp at h
theorem labels_ts {xs : List ByteArray} (h : alli (labelAt xs) 0 xs = true) : tsStrS xs ≤ xs.length * 61 := by
  unfold tsStrS
  have := sumT_le (t := tsStr) (c := 60) (xs := xs) fun a ha => by
    obtain ⟨j, hj⟩ := alli_mem h a ha
    exact label_small hj
  omega
theorem labelsB_ts {xs : List ByteArray} {m : Nat} (h : labelsB xs m = true) : tsStrS xs ≤ m * 61 := by
  unfold labelsB at h
  rw [Bool.and_eq_true] at h
  have h1 := of_decide_eq_true h.1
  have h2 := labels_ts h.2
  have h3 := Int.mul_le_mul_of_nonneg_right h1 (show (0 : Int) ≤ 61 by omega)
  omega
theorem strEq_size {x : ByteArray} (h : strEq x zS = true) : x.size = 0 := by
  rw [strEq_iff.1 h]; rfl
theorem item_small {k : Int} {x : Item} (h : itemB k x = true) : tsItem x ≤ 60 := by
  unfold itemB at h
  unfold tsItem
  cases hm : missing x
  · rw [hm, cond_false] at h
    cases h1 : k == 1
    · rw [h1, cond_false] at h
      cases h2 : k == 2
      · rw [h2, cond_false] at h
        simp only [Bool.and_eq_true, decide_eq_true_eq] at h
        omega
      · rw [h2, cond_true] at h
        unfold isNumber at h
        rw [Bool.and_eq_true] at h
        rw [strEq_size h.1]; omega
    · rw [h1, cond_true] at h
      rw [Bool.and_eq_true] at h
      rw [strEq_size h.2]; omega
  · unfold missing itemEq at hm
    simp only [Bool.and_eq_true] at hm
    rw [strEq_size hm.2.2]; omega
theorem shape_small {v : Vec} (ht : tsVec v ≤ 68719476736) (h : shapeB v = true) : tsItemS v.items ≤ 2440 ∧ tsStrS v.names ≤ 2440 ∧ tsStrS v.cls ≤ 183 ∧ tsStrS v.levels ≤ 1220 ∧ v.names.length ≤ 40 := by
  have hf := shape_facts h
  have hi := shape_items ht h
  have hn : v.names.length ≤ 40 := by
    by_cases h0 : v.names.length = 0
    · omega
    · have := hf.2.2.2.2.2.2.2 h0; have := hf.2.1; omega
  refine ⟨?_, ?_, labelsB_ts (m := 3) hf.2.2.2.1, labelsB_ts (m := 20) hf.2.2.2.2.1, hn⟩
  · have hitems : ∀ x ∈ v.items, tsItem x ≤ 60 := by
      intro x hx
      have hl := hf.2.2.2.2.2.2.1
      unfold lastB at hl
      have hne : decide ((v.items.length : Int) > 0) = true := by
        have := List.length_pos_of_mem hx
        rw [decide_eq_true_iff]; omega
      cases h5 : v.kind == 5
      · rw [h5, cond_false] at hl
        cases h0 : v.kind == 0
        · rw [h0, cond_false, Bool.and_eq_true, List.all_eq_true] at hl
          have := hl.2 x hx
          unfold itemOf at this
          rw [Bool.and_eq_true] at this
          exact item_small this.1
        · rw [h0, cond_true, Bool.and_eq_true] at hl
          have e0 := eq_of_beq h0
          have hp := rare_parts (v := v) (by rw [e0]; rfl) hf.2.2.2.2.2.1
          have h1 := eq_of_beq hl.1
          rw [lenV_atom ht h5 hp] at h1
          have := List.length_pos_of_mem hx
          omega
      · rw [h5, cond_true] at hl
        unfold fifthB at hl
        rw [len0, hne] at hl
        cases hl
    have := sumT_le hitems
    unfold tsItemS
    have h3 := Int.mul_le_mul_of_nonneg_right (show (v.items.length : Int) ≤ 40 by omega) (show (0 : Int) ≤ 60 by omega)
    omega
  · have hs := names_small h
    have := sumT_le (t := tsStr) (c := 60) (xs := v.names) fun a ha => by have := of_decide_eq_false (hs a ha); unfold tsStr; omega
    unfold tsStrS
    have h3 := Int.mul_le_mul_of_nonneg_right (show (v.names.length : Int) ≤ 40 by omega) (show (0 : Int) ≤ 60 by omega)
    omega
def sizeD : Nat → Int
  | 0 => 6283
  | d + 1 => 6283 + 40 * (1 + sizeD d)
theorem sizeD_pos : ∀ d, 0 ≤ sizeD d := by
  intro d
  induction d with
  | zero => unfold sizeD; omega
  | succ d ih => unfold sizeD; omega
theorem tsVecS_le {xs : List Vec} {c : Int} (h : ∀ p ∈ xs, tsVec p ≤ c) : tsVecS xs ≤ xs.length * (1 + c) := by
  rw [tsVecS_eq, Int.mul_add]
  have := sumT_le h
  omega
theorem isV_small : ∀ (d : Nat) (v : Vec), tsVec v ≤ 68719476736 → isV d v = true → tsVec v ≤ sizeD d := by
  intro d
  induction d with
  | zero =>
    intro v ht h
    obtain ⟨h1, h2, h3, h4, _⟩ := shape_small ht (isV_shape h)
    have hp : v.parts = [] := hb_zero (by rw [isV_split, Bool.and_eq_true] at h; exact h.1)
    rw [tsVec_eq, hp]
    unfold sizeD
    rw [show tsVecS [] = 0 by rw [tsVecS]]
    omega
  | succ d ih =>
    intro v ht h
    obtain ⟨h1, h2, h3, h4, _⟩ := shape_small ht (isV_shape h)
    have h5 := shape_parts ht (isV_shape h)
    have h6 := tsVecS_le (xs := v.parts) fun p hp => ih p (by have := tsVecS_mem hp; have := (fits ht).parts; omega) (isV_part h hp)
    have h7 := Int.mul_le_mul_of_nonneg_right (show (v.parts.length : Int) ≤ 40 by omega) (show (0 : Int) ≤ 1 + sizeD d by have := sizeD_pos d; omega)
    rw [tsVec_eq]
    unfold sizeD
    omega
theorem size2 : sizeD 2 = 10312043 := rfl
theorem size3 : sizeD 3 = 412488043 := rfl

/-! ### Well-formed -/
theorem i64_wfc {x : Int} (h : I64 x) : WfC (.int .i64 x) := .int _ _ h.1 h.2
theorem its_wfc {xs : List Item} (h : ItsOK xs) : WfC (.sl .item xs) := .sl _ _ h.1 fun x hx c hc => by
  have := h.2 x hx
  simp only [unpack, List.mem_cons, List.not_mem_nil, or_false] at hc
  rcases hc with rfl | rfl | rfl
  · exact i64_wfc this.1
  · exact i64_wfc this.2.1
  · exact .str _ this.2.2
theorem strs_wfc {xs : List ByteArray} (h : StrsOK xs) : WfC (.sl .str xs) := .sl _ _ h.1 fun x hx c hc => by
  simp only [unpack, List.mem_cons, List.not_mem_nil, or_false] at hc
  rw [hc]
  exact .str _ (h.2 x hx)
theorem vecs_wfc {xs : List Vec} (h : VecsOK xs) : WfC (.sl .vec xs) := .sl _ _ h.1 fun x hx => h.2 x hx
theorem mkVecOK {v : Vec} (h1 : I64 v.kind) (h2 : ItsOK v.items) (h3 : VecsOK v.parts) (h4 : StrsOK v.names) (h5 : StrsOK v.cls) (h6 : StrsOK v.levels) (h7 : I64 v.code) (h8 : I64 v.env) : VecOK v := by
  intro c hc
  simp only [unpack, List.mem_cons, List.not_mem_nil, or_false] at hc
  rcases hc with rfl | rfl | rfl | rfl | rfl | rfl | rfl | rfl
  · exact i64_wfc h1
  · exact its_wfc h2
  · exact vecs_wfc h3
  · exact strs_wfc h4
  · exact strs_wfc h5
  · exact strs_wfc h6
  · exact i64_wfc h7
  · exact i64_wfc h8
theorem len_of {k : Nat} (h : (k : Int) ≤ 68719476736) : LenOK k := by unfold LenOK; omega
theorem its_nil : ItsOK [] := ⟨len_of (by decide), fun x hx => (nomatch hx)⟩
theorem strs_nil : StrsOK [] := ⟨len_of (by decide), fun x hx => (nomatch hx)⟩
theorem vecs_nil : VecsOK [] := ⟨len_of (by decide), fun x hx => (nomatch hx)⟩
theorem v0_ok : VecOK v0 := mkVecOK ⟨by decide, by decide⟩ its_nil vecs_nil strs_nil strs_nil strs_nil ⟨by decide, by decide⟩ ⟨by decide, by decide⟩
theorem v0_ts : tsVec v0 ≤ 68719476736 := by
  unfold v0; rw [tsVec, tsVecS]; decide
theorem i64_4 : I64 4 := ⟨by decide, by decide⟩
theorem i64_0 : I64 0 := ⟨by decide, by decide⟩
theorem len_1 : LenOK 1 := len_of (by decide)
theorem len_10 : LenOK 10 := len_of (by decide)
theorem frameV_ok {cols : List Vec} {names : List ByteArray} (h1 : VecsOK cols) (h2 : StrsOK names) : VecOK (frameV cols names) :=
  mkVecOK i64_4 its_nil h1 h2 ⟨len_1, fun x hx => by rw [List.mem_singleton.1 hx]; exact len_10⟩ strs_nil i64_0 i64_0
theorem frameV_ts {cols : List Vec} {names : List ByteArray} (hl : names.length = cols.length) (h40 : cols.length ≤ 40) (hc : ∀ p ∈ cols, tsVec p ≤ 412488043) (hn : alli (labelAt names) 0 names = true) : tsVec (frameV cols names) ≤ 68719476736 := by
  have h1 := labels_ts hn
  have h2 := tsVecS_le hc
  have h3 := Int.mul_le_mul_of_nonneg_right (show (cols.length : Int) ≤ 40 by omega) (show (0 : Int) ≤ 1 + 412488043 by omega)
  rw [tsVec_eq]
  show tsItemS [] + (tsVecS cols + (tsStrS names + (tsStrS [sFrame] + tsStrS []))) ≤ _
  rw [show tsItemS [] = 0 from rfl, show tsStrS [sFrame] = 11 from rfl, show tsStrS [] = 0 from rfl]
  omega

/-! ### Made frames -/
theorem l4Copies_eq {n : Nat} (hn : FUELd + 1 ≤ n) {xs : List Vec} (hl : xs.length ≤ 68719476736) (hall : ∀ p ∈ xs, VecOK p ∧ isV 3 p = true ∧ tsVec p ≤ 68719476736) : spec_l4Copies n xs = some (xs.take 41) := by
  obtain ⟨m, rfl⟩ : ∃ m, n = m + 1 := ⟨n - 1, by omega⟩
  have hm : BIG ≤ m := by unfold FUELd BIG at hn; unfold BIG; omega
  have hm4 : BIG + 3 + 1 ≤ m := by unfold FUELd BIG at hn; unfold BIG; omega
  show spec_l4Copies_b (spec_l4Copies m) (spec_l4Copy m) m xs = _
  have hh := iter_push (B := fun x : List Vec × List Vec × Int => spec_l4Copies_r0 (spec_l4Copy m) m x.1 x.2.1 x.2.2) (R := List Vec) (xs.take 41) (fun out i => (xs, out, (i : Int))) id
    (fun i x out hx' ho => by
      have hg := take_get hx'
      have hi := (List.getElem?_eq_some_iff.1 hg.1).1
      have hxm := List.mem_of_getElem? hg.1
      dsimp only
      unfold spec_l4Copies_r0 spec_l4Copies_j1
      simp only [idx_lt hg.1, decide_eq_true (show (i : Int) ≤ 40 by omega), nn, Bool.and_true, chk_true, cond_true, getD_cast hg.1, Vec.re_eq, show spec_l4Is m x 3 = some (isV 3 x) from l4Is_eq 3 (by omega) m hm4 x (hall x hxm).1 (hall x hxm).2.2, (hall x hxm).2.1,
        l4Copy_eq (show FUELd ≤ m by omega) (hall x hxm).2.2 (hall x hxm).1 (hall x hxm).2.1, Option.bind_some, Bool.not_true, cond_false, w64_succ (show i + 1 ≤ 9223372036854775807 by omega)]
      rw [chk_of (by unfold LIM; simp; omega)]
      rfl)
    (fun out ho => by
      dsimp only
      unfold spec_l4Copies_r0
      by_cases hc : xs.length ≤ 41
      · rw [List.take_of_length_le hc, idx_end]; rfl
      · rw [show (xs.take 41).length = 41 by rw [List.length_take]; omega, show decide (((41 : Nat) : Int) ≤ (40 : Int)) = false from rfl]
        cases decide (((41 : Nat) : Int) < (xs.length : Int)) <;> rfl) (by rw [List.length_take]; unfold BIG at hm; omega : (xs.take 41).length < m)
  unfold spec_l4Copies_b
  rw [show spec_l4Copies_l0 (spec_l4Copy m) m (xs, [], (0 : Int)) = _ from hh]
  simp only [Option.bind_some, lpK, List.map_id]
/-- What holds of columns chosen from a frame. -/
structure Chosen (f : Vec) (names : List ByteArray) (cols : List Vec) : Prop where
  len : cols.length = names.length
  mem : ∀ p ∈ cols, p ∈ f.parts
  nam : ∀ x ∈ names, hasS f.names x = true
theorem chosen {f : Vec} {names : List ByteArray} {cols : List Vec} (h : frameB f = true) (hm : mapO (lookup f) names = some cols) : Chosen f names cols :=
  ⟨mapO_len hm, fun p hp => by obtain ⟨x, _, e⟩ := (mapO_mem hm).1 p hp; exact (lookup_mem h e).1, fun x hx => by obtain ⟨y, _, e⟩ := (mapO_mem hm).2 x hx; exact (lookup_mem h e).2⟩
theorem frame_isV {f : Vec} (h : frameB f = true) : isV 3 f = true := by
  have := frame_vec h
  unfold vecB at this
  rw [Bool.and_eq_true] at this
  exact this.1
theorem hasS_mem {xs : List ByteArray} {s : ByteArray} (h : hasS xs s = true) : s ∈ xs := by
  unfold hasS at h
  rw [List.any_eq_true] at h
  obtain ⟨x, hx, e⟩ := h
  rw [← strEq_iff.1 e]; exact hx
theorem chosen_few {f : Vec} {names : List ByteArray} {cols : List Vec} (ht : tsVec f ≤ 68719476736) (h : frameB f = true) (hc : Chosen f names cols) (hl : alli (labelAt names) 0 names = true) : names.length ≤ 40 := by
  have h1 := labels_few [] names f.names (fun x hx => hasS_mem (hc.nam x hx)) (by
    have e : ∀ i x, labelAt names i x = true → (!hasS (([] ++ names).take i) x) = true := by
      intro i x h
      unfold labelAt at h
      rw [List.nil_append]
      cases (bif strEq x zS then true else decide ((x.size : Int) > 60))
      · cases hb : hasS (names.take i) x
        · rfl
        · rename_i hq; rw [hb] at h; revert h; cases (bif strEq x zS then true else decide ((x.size : Int) > 60)) <;> intro h <;> cases h
      · cases hb : hasS (names.take i) x
        · rfl
        · rw [hb] at h; revert h; cases (bif strEq x zS then true else decide ((x.size : Int) > 60)) <;> intro h <;> cases h
    have gen : ∀ (l : List ByteArray) (i : Nat), alli (labelAt names) i l = true → alli (fun i x => !hasS (([] ++ names).take i) x) i l = true := by
      intro l
      induction l with
      | nil => intro i _; rfl
      | cons a l ih =>
        intro i h
        simp only [alli, Bool.and_eq_true] at h ⊢
        exact ⟨e i a h.1, ih (i + 1) h.2⟩
    exact gen names 0 hl)
  have h2 := nodup_len names f.names h1.2 (fun x hx => hasS_mem (hc.nam x hx))
  have h3 := (shape_small ht (vec_shape (frame_vec h))).2.2.2.2
  omega
theorem chosen_col {f p : Vec} {names : List ByteArray} {cols : List Vec} (ht : tsVec f ≤ 68719476736) (hv : VecOK f) (h : frameB f = true) (hc : Chosen f names cols) (hp : p ∈ cols) : VecOK p ∧ isV 3 p = true ∧ tsVec p ≤ 412488043 := by
  have hm := hc.mem p hp
  have h2 := isV_part (frame_isV h) hm
  have htp : tsVec p ≤ 68719476736 := by have := tsVecS_mem hm; have := (fits ht).parts; omega
  refine ⟨hv.parts.2 p hm, isV_mono 2 p h2, ?_⟩
  have := isV_small 2 p htp h2
  rw [size2] at this
  omega
theorem frame_made {f : Vec} {names : List ByteArray} {cols : List Vec} (ht : tsVec f ≤ 68719476736) (h : frameB f = true) (hc : Chosen f names cols) (hl : alli (labelAt names) 0 names = true) : frameB (frameV cols names) = vecB (frameV cols names) := by
  have h40 := chosen_few ht h hc hl
  unfold frameB frameHead
  rw [show (frameV cols names).parts = cols from rfl, show (frameV cols names).names = names from rfl, show ((frameV cols names).kind == 4) = true from rfl, show (((frameV cols names).cls.length : Int) == 1) = true from rfl,
    show strEq ((frameV cols names).cls.getD 0 zS) sFrame = true from strEq_self sFrame, hc.len, show ((names.length : Int) == (names.length : Int)) = true from beq_self_eq_true _]
  unfold labelsB
  rw [hl, decide_eq_true (show (names.length : Int) ≤ 40 by omega)]
  have : cols.all (colB (rows0 (frameV cols names))) = true := by
    rw [List.all_eq_true]
    intro p hp
    cases hcs : cols with
    | nil => rw [hcs] at hp; exact (nomatch hp)
    | cons p0 l =>
      have hp0 : p0 ∈ cols := by rw [hcs]; exact List.mem_cons_self ..
      have e : rows0 (frameV (p0 :: l) names) = rows0 f := (frame_len ht h (hc.mem p0 hp0)).2
      rw [e]
      exact frame_col h (hc.mem p hp)
  rw [this]
  cases vecB (frameV cols names) <;> rfl
theorem made_small {f : Vec} {names : List ByteArray} {cols : List Vec} (ht : tsVec f ≤ 68719476736) (hv : VecOK f) (hn : StrsOK names) (h : frameB f = true) (hc : Chosen f names cols) (hl : alli (labelAt names) 0 names = true) : VecOK (frameV cols names) ∧ tsVec (frameV cols names) ≤ 68719476736 := by
  have h40 := chosen_few ht h hc hl
  have hlen := hc.len
  exact ⟨frameV_ok ⟨len_of (by omega), fun p hp => (chosen_col ht hv h hc hp).1⟩ hn, frameV_ts hc.len.symm (by omega) (fun p hp => (chosen_col ht hv h hc hp).2.2) hl⟩
theorem l12Made_eq {n : Nat} (hn : FUEL ≤ n) {f : Vec} {names : List ByteArray} {cols : List Vec} (ht : tsVec f ≤ 68719476736) (hv : VecOK f) (hns : StrsOK names) (hnl : names.length ≤ 68719476736) (h : frameB f = true) (hc : Chosen f names cols) : spec_l12Made n cols names = some (made cols names) := by
  have hlen := hc.len
  unfold spec_l12Made made
  rw [l4Copies_eq (by have := fuel_d (n := n - 1) (by unfold FUEL BIG at hn; unfold FUEL BIG; omega); unfold FUEL BIG at hn; omega) (by omega) (fun p hp => by have := chosen_col ht hv h hc hp; exact ⟨this.1, this.2.1, by omega⟩)]
  simp only [Option.bind_some]
  rw [chk_of (by unfold LIM; simp; omega), hlen]
  rw [show ((names.length : Int) != (names.length : Int)) = false from by rw [bne, beq_self_eq_true]; rfl]
  simp only [cond_false, Bool.not_false, cond_true, show spec_l4Labels n names 40 = some (labelsB names 40) from l4Labels_eq (fuel_big hn) (by omega) (most := 40) (by omega), Option.bind_some]
  cases hl : alli (labelAt names) 0 names
  · unfold labelsB; rw [hl, Bool.and_false]; rfl
  · have h40 := chosen_few ht h hc hl
    have hm := made_small ht hv hns h hc hl
    unfold labelsB
    rw [hl, decide_eq_true (show (names.length : Int) ≤ 40 by omega), List.take_of_length_le (by omega)]
    simp only [Bool.and_true, Bool.not_true, cond_false, cond_true]
    unfold spec_l4Fit
    simp only [Vec.re_eq, List.nil_append]
    rw [show (⟨4, [], cols, names, [(⟨#[100, 97, 116, 97, 46, 102, 114, 97, 109, 101]⟩ : ByteArray)], [], 0, 0⟩ : Vec) = frameV cols names from rfl, spec_IsVector_eq hn hm.1 hm.2]
    cases vecB (frameV cols names) <;> rfl
theorem frameNames_eq {n : Nat} (hn : BIG ≤ n) {names : List ByteArray} (hl : names.length ≤ 68719476736) : impl_frameNames n names names.length = some (alli (labelAt names) 0 names) := by
  have hh := iter_alli (B := fun x : List ByteArray × List ByteArray × Int × Int => impl_frameNames_r0 n x.1 x.2.1 x.2.2.1 x.2.2.2) (R := Bool) names (fun i => (names, names, (names.length : Int), (i : Int))) (labelAt names) false
    (fun i x hx => by
      have hi := (List.getElem?_eq_some_iff.1 hx).1
      dsimp only
      unfold impl_frameNames_r0 labelAt
      simp only [idx_lt hx, decide_eq_true (show (i : Int) ≤ (names.length : Int) by omega), decide_eq_true (show (0 : Int) ≤ 0 by omega), nn, Bool.and_true, Bool.or_true, chk_true, cond_true, getD_of hx, Int.toNat_natCast, Int.toNat_zero, List.drop_zero, w64_succ (show i + 1 ≤ 9223372036854775807 by omega),
        hasText_eq hn (show (names.take i).length ≤ 68719476736 by rw [List.length_take]; omega)]
      cases (bif strEq x zS then true else decide ((x.size : Int) > 60))
      · simp only [Bool.not_false, cond_true, cond_false, Option.bind_some]
        cases hasS (names.take i) x <;> rfl
      · rfl)
    (by dsimp only; unfold impl_frameNames_r0; rw [idx_end]; rfl) (by unfold BIG at hn; omega : names.length < n)
  unfold impl_frameNames impl_frameNames_l0
  rw [show ((names.length : Int) != (names.length : Int)) = false from by rw [bne, beq_self_eq_true]; rfl]
  simp only [cond_false]
  rw [show (0 : Int) = ((0 : Nat) : Int) from rfl, hh]
  cases alli (labelAt names) 0 names <;> rfl
theorem spec_SelectColumns_eq {n : Nat} (hn : FUEL ≤ n) {f : Vec} (ht : tsVec f ≤ 68719476736) (hv : VecOK f) {names : List ByteArray} (hns : StrsOK names) (hnl : names.length ≤ 68719476736) : spec_SelectColumns n f names = some (selB f names) := by
  unfold spec_SelectColumns selB
  simp only [Vec.re_eq, spec_IsFrame_eq hn hv ht, Option.bind_some]
  cases h : frameB f
  · rfl
  · simp only [Bool.not_true, cond_false, cond_true]
    rw [show (⟨0, [], [], [], [], [], 0, 0⟩ : Vec) = v0 from rfl, specSel_loop hn ht h hnl]
    cases hm : mapO (lookup f) names with
    | none => rfl
    | some cols =>
      simp only [Option.bind_some, lpK]
      rw [l12Made_eq hn ht hv hns hnl h (chosen h hm)]
      rfl
theorem impl_SelectColumns_eq {n : Nat} (hn : FUEL ≤ n) {f : Vec} (ht : tsVec f ≤ 68719476736) (hv : VecOK f) {names : List ByteArray} (hns : StrsOK names) (hnl : names.length ≤ 68719476736) : impl_SelectColumns n f names = some (selB f names) := by
  unfold impl_SelectColumns selB
  simp only [Vec.re_eq, impl_IsFrame_eq hn hv ht, Option.bind_some]
  cases h : frameB f
  · rfl
  · simp only [Bool.not_true, cond_false, cond_true]
    rw [show (⟨0, [], [], [], [], [], 0, 0⟩ : Vec) = v0 from rfl, implSel_loop hn ht h hnl]
    cases hm : mapO (lookup f) names with
    | none => rfl
    | some cols =>
      have hc := chosen h hm
      simp only [Option.bind_some, lpK, hc.len, frameNames_eq (fuel_big hn) hnl]
      unfold made
      cases hl : alli (labelAt names) 0 names
      · rfl
      · have hms := made_small ht hv hns h hc hl
        simp only [Bool.not_true, cond_false, cond_true]
        unfold impl_frameOf
        rw [copyTexts_eq hnl]
        simp only [Option.bind_some]
        rw [show (⟨4, [], cols, names, [(⟨#[100, 97, 116, 97, 46, 102, 114, 97, 109, 101]⟩ : ByteArray)], [], 0, 0⟩ : Vec) = frameV cols names from rfl, impl_IsFrame_eq hn hms.1 hms.2, frame_made ht h hc hl]
        cases vecB (frameV cols names) <;> rfl
end Go.AM
