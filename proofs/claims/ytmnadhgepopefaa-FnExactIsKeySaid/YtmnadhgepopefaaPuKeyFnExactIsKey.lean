/- The law FnExactIsKey in plain words. -/
import Derived.Test.YtmnadhgepopefaaFuFnExactIsKey
import Derived.Test.YtmnadhgepopefaaPuBaseFnExactIsKey
import Derived.Test.YtmnadhgepopefaaPuItemFnExactIsKey
import Derived.Test.YtmnadhgepopefaaPuVecFnExactIsKey
import Derived.Test.YtmnadhgepopefaaPuIsVFnExactIsKey
import Derived.Test.YtmnadhgepopefaaPuIsV2FnExactIsKey
import Derived.Test.YtmnadhgepopefaaPuIsV3FnExactIsKey
import Derived.Test.YtmnadhgepopefaaPuIsV4FnExactIsKey
import Derived.Test.YtmnadhgepopefaaPuFactorFnExactIsKey
import Derived.Test.YtmnadhgepopefaaPuFrameFnExactIsKey
import Derived.Test.YtmnadhgepopefaaPuSelFnExactIsKey
import Derived.Test.YtmnadhgepopefaaPuSel2FnExactIsKey

namespace Go.AM

def sameB (g : Vec) (i k : Nat) : Bool := g.parts.all fun p => itemEq (p.items.getD i zI) (p.items.getD k zI)
def noDup (g : Vec) : Bool := (List.range (rowsB g).toNat).all fun i => (List.range i).all fun k => !sameB g i k
def keyB (f : Vec) (names : List ByteArray) : Bool := noDup (selB f names).1 && strEq (selB f names).2 zS

theorem foldl_and {α : Type} (q : α → Bool) : ∀ (xs : List α) (s : Bool), xs.foldl (fun s p => s && q p) s = (s && xs.all q) := by
  intro xs
  induction xs with
  | nil => intro s; simp
  | cons a l ih => intro s; rw [List.foldl_cons, ih, List.all_cons, Bool.and_assoc]
theorem range_get {n i k : Nat} (h : (List.range n)[i]? = some k) : k = i ∧ i < n := by
  have hlt := (List.getElem?_eq_some_iff.1 h).1
  rw [List.length_range] at hlt
  rw [List.getElem?_range hlt] at h
  cases h
  exact ⟨rfl, hlt⟩
theorem frame_rows {g : Vec} (h : frameB g = true) : rowsB g = (bif (g.parts.length : Int) == 0 then 0 else rows0 g) ∧ 0 ≤ rowsB g := by
  unfold rowsB
  rw [h]
  refine ⟨rfl, ?_⟩
  unfold rows0
  simp only [cond_true]
  cases (g.parts.length : Int) == 0 <;> simp
theorem row_idx {g p : Vec} (ht : tsVec g ≤ 68719476736) (h : frameB g = true) (hp : p ∈ g.parts) {i : Nat} (hi : (i : Int) < rowsB g) : i < p.items.length := by
  have h1 := (frame_len ht h hp).2
  rw [(frame_rows h).1, len0] at hi
  have : decide ((g.parts.length : Int) > 0) = true := by rw [decide_eq_true_iff]; have := List.length_pos_of_mem hp; omega
  rw [this] at hi
  simp only [Bool.not_true, cond_false] at hi
  omega
theorem rows_small {g : Vec} (ht : tsVec g ≤ 68719476736) : rowsB g ≤ 68719476736 := by
  unfold rowsB rows0
  cases frameB g
  · simp
  · cases hp : g.parts with
    | nil => simp
    | cons a l =>
      have hm : a ∈ g.parts := by rw [hp]; exact List.mem_cons_self ..
      have := tsVecS_mem hm
      have h1 := (fits ht).parts
      have h2 := (fits (v := a) (k := 68719476736) (by omega)).nitems
      simp only [cons_eq0, cond_true, cond_false]
      exact h2
theorem specKey_same {n : Nat} (hn : BIG ≤ n) {g : Vec} (ht : tsVec g ≤ 68719476736) (h : frameB g = true) (e : ByteArray) {i k : Nat} (hi : (i : Int) < rowsB g) (hk : k < i) :
    spec_IsKey_l4 n (g, e, (i : Int), (k : Int), true, (0 : Int)) = some (.inl (g, e, (i : Int), (k : Int), sameB g i k, (g.parts.length : Int))) := by
  have hlp := (fits ht).nparts
  have hh := iter_fold (B := fun x : Vec × ByteArray × Int × Int × Bool × Int => spec_IsKey_r4 x.1 x.2.1 x.2.2.1 x.2.2.2.1 x.2.2.2.2.1 x.2.2.2.2.2) (R := Bool) g.parts (fun (s : Bool) c => (g, e, (i : Int), (k : Int), s, (c : Int))) (fun s p => s && itemEq (p.items.getD i zI) (p.items.getD k zI))
    (fun c p s hp => by
      have hm := List.mem_of_getElem? hp
      have hc := (List.getElem?_eq_some_iff.1 hp).1
      dsimp only
      unfold spec_IsKey_r4
      simp only [idx_lt hp, nn, Bool.and_true, Bool.or_true, chk_true, cond_true, getD_of hp, lt_len (row_idx ht h hm hi), lt_len (row_idx ht h hm (i := k) (by omega)), Vec.re_eq, Int.toNat_natCast, w64_succ (show c + 1 ≤ 9223372036854775807 by omega)]
      cases s <;> rfl)
    (fun s => by dsimp only; unfold spec_IsKey_r4; rw [idx_end]; simp only [cond_false, Vec.re_eq]) (by unfold BIG at hn; omega : g.parts.length < n) true
  rw [foldl_and, Bool.true_and] at hh
  exact hh
theorem specKey_row {n : Nat} (hn : BIG ≤ n) {g : Vec} (ht : tsVec g ≤ 68719476736) (h : frameB g = true) (e : ByteArray) {i : Nat} (hi : (i : Int) < rowsB g) :
    spec_IsKey_l2 n (g, e, (i : Int), (0 : Int)) = some (bif (List.range i).all (fun k => !sameB g i k) then .inl (g, e, (i : Int), (i : Int)) else .inr false) := by
  have hr := rows_small ht
  have hh := iter_all (B := fun x : Vec × ByteArray × Int × Int => spec_IsKey_r2 n x.1 x.2.1 x.2.2.1 x.2.2.2) (R := Bool) (List.range i) (fun k => (g, e, (i : Int), (k : Int))) (fun k => !sameB g i k) false
    (fun j k hk => by
      obtain ⟨rfl, hj⟩ := range_get hk
      dsimp only
      unfold spec_IsKey_r2
      simp only [decide_eq_true (show (k : Int) < (i : Int) by omega), cond_true, Vec.re_eq, specKey_same hn ht h e hi hj, Option.bind_some, lpK, w64_succ (show k + 1 ≤ 9223372036854775807 by omega)]
      cases sameB g i k <;> rfl)
    (by dsimp only; rw [List.length_range]; unfold spec_IsKey_r2; rw [decide_eq_false (show ¬ (i : Int) < (i : Int) by omega)]; simp only [cond_false, Vec.re_eq]) (by rw [List.length_range]; unfold BIG at hn; omega : (List.range i).length < n)
  rw [List.length_range] at hh
  exact hh
theorem spec_IsKey_eq {n : Nat} (hn : FUEL ≤ n) {f : Vec} (ht : tsVec f ≤ 68719476736) (hv : VecOK f) {names : List ByteArray} (hns : StrsOK names) (hnl : names.length ≤ 68719476736) (hg : VecOK (selB f names).1 ∧ tsVec (selB f names).1 ≤ 68719476736) :
    spec_IsKey n f names = some (keyB f names) := by
  unfold spec_IsKey keyB
  simp only [Vec.re_eq, spec_SelectColumns_eq hn ht hv hns hnl, Option.bind_some]
  generalize (selB f names).1 = g at hg
  generalize (selB f names).2 = e
  have hr := rows_small hg.2
  have hh := iter_all (B := fun x : Vec × ByteArray × Int => spec_IsKey_r0 n x.1 x.2.1 x.2.2) (R := Bool) (List.range (rowsB g).toNat) (fun i => (g, e, (i : Int))) (fun i => (List.range i).all fun k => !sameB g i k) false
    (fun j i hi => by
      obtain ⟨rfl, hj⟩ := range_get hi
      have hfr : frameB g = true := by
        cases hf : frameB g
        · unfold rowsB at hj; rw [hf] at hj; simp at hj
        · rfl
      have hir : (i : Int) < rowsB g := by have := (frame_rows hfr).2; omega
      dsimp only
      unfold spec_IsKey_r0
      simp only [Vec.re_eq, spec_RowsOf_eq hn hg.1 hg.2, Option.bind_some, decide_eq_true hir, cond_true, specKey_row (fuel_big hn) hg.2 hfr e hir]
      cases (List.range i).all fun k => !sameB g i k
      · rfl
      · simp only [cond_true, lpK, w64_succ (show i + 1 ≤ 9223372036854775807 by omega)])
    (by
      dsimp only; rw [List.length_range]; unfold spec_IsKey_r0
      simp only [Vec.re_eq, spec_RowsOf_eq hn hg.1 hg.2, Option.bind_some]
      rw [decide_eq_false (show ¬ (((rowsB g).toNat : Nat) : Int) < rowsB g by omega)]; rfl) (by rw [List.length_range]; have := fuel_big hn; unfold BIG at this; omega : (List.range (rowsB g).toNat).length < n)
  rw [show spec_IsKey_l0 n (g, e, (0 : Int)) = _ from hh]
  unfold noDup
  cases (List.range (rowsB g).toNat).all fun i => (List.range i).all fun k => !sameB g i k <;> rfl

theorem sameRow_eq {n : Nat} (hn : BIG ≤ n) {g : Vec} (ht : tsVec g ≤ 68719476736) (h : frameB g = true) {i k : Nat} (hi : (i : Int) < rowsB g) (hk : k < i) : impl_sameRow n g (i : Int) (k : Int) = some (sameB g i k) := by
  have hlp := (fits ht).nparts
  have hh := iter_all (B := fun x : Int × Int × List Vec × Int × Int => impl_sameRow_r0 x.1 x.2.1 x.2.2.1 x.2.2.2.1 x.2.2.2.2) (R := Bool) g.parts (fun c => ((i : Int), (k : Int), g.parts, (g.parts.length : Int), (c : Int))) (fun p => itemEq (p.items.getD i zI) (p.items.getD k zI)) false
    (fun c p hp => by
      have hm := List.mem_of_getElem? hp
      have hc := (List.getElem?_eq_some_iff.1 hp).1
      dsimp only
      unfold impl_sameRow_r0
      simp only [idx_lt hp, nn, Bool.and_true, chk_true, cond_true, getD_of hp, lt_len (row_idx ht h hm hi), lt_len (row_idx ht h hm (i := k) (by omega)), Int.toNat_natCast, w64_succ (show c + 1 ≤ 9223372036854775807 by omega)]
      cases itemEq (p.items.getD i zI) (p.items.getD k zI) <;> rfl)
    (by dsimp only; unfold impl_sameRow_r0; rw [idx_end]; rfl) (by unfold BIG at hn; omega : g.parts.length < n)
  unfold impl_sameRow
  rw [show impl_sameRow_l0 n ((i : Int), (k : Int), g.parts, (g.parts.length : Int), (0 : Int)) = _ from hh]
  unfold sameB
  cases g.parts.all fun p => itemEq (p.items.getD i zI) (p.items.getD k zI) <;> rfl
theorem implKey_row {n : Nat} (hn : BIG ≤ n) {g : Vec} (ht : tsVec g ≤ 68719476736) (h : frameB g = true) {i : Nat} (hi : (i : Int) < rowsB g) :
    impl_IsKey_l2 n (g, (i : Int), (0 : Int)) = some (bif (List.range i).all (fun k => !sameB g i k) then .inl (g, (i : Int), (i : Int)) else .inr false) := by
  have hr := rows_small ht
  have hh := iter_all (B := fun x : Vec × Int × Int => impl_IsKey_r2 n x.1 x.2.1 x.2.2) (R := Bool) (List.range i) (fun k => (g, (i : Int), (k : Int))) (fun k => !sameB g i k) false
    (fun j k hk => by
      obtain ⟨rfl, hj⟩ := range_get hk
      dsimp only
      unfold impl_IsKey_r2
      simp only [decide_eq_true (show (k : Int) < (i : Int) by omega), cond_true, Vec.re_eq, sameRow_eq hn ht h hi hj, Option.bind_some, w64_succ (show k + 1 ≤ 9223372036854775807 by omega)]
      cases sameB g i k <;> rfl)
    (by dsimp only; rw [List.length_range]; unfold impl_IsKey_r2; rw [decide_eq_false (show ¬ (i : Int) < (i : Int) by omega)]; simp only [cond_false, Vec.re_eq]) (by rw [List.length_range]; unfold BIG at hn; omega : (List.range i).length < n)
  rw [List.length_range] at hh
  exact hh
/-- What is chosen without a mistake is a frame; its size. -/
theorem sel_facts {f : Vec} (ht : tsVec f ≤ 68719476736) (hv : VecOK f) {names : List ByteArray} (hns : StrsOK names) : VecOK (selB f names).1 ∧ tsVec (selB f names).1 ≤ 68719476736 ∧ (strEq (selB f names).2 zS = true → frameB (selB f names).1 = true) ∧ (strEq (selB f names).2 zS = false → (selB f names).1 = v0) := by
  unfold selB
  cases h : frameB f
  · exact ⟨v0_ok, v0_ts, fun e => absurd (strEq_iff.1 e) (show ¬ sNotFrame = zS by decide), fun _ => rfl⟩
  · simp only [cond_true]
    cases hm : mapO (lookup f) names with
    | none => exact ⟨v0_ok, v0_ts, fun e => absurd (strEq_iff.1 e) (show ¬ sNoColumn = zS by decide), fun _ => rfl⟩
    | some cols =>
      have hc := chosen h hm
      unfold made
      dsimp only
      cases hl : alli (labelAt names) 0 names
      · exact ⟨v0_ok, v0_ts, fun e => absurd (strEq_iff.1 e) (show ¬ sNames = zS by decide), fun _ => rfl⟩
      · simp only [cond_true]
        have hms := made_small ht hv hns h hc hl
        have hfm := frame_made ht h hc hl
        cases hvb : vecB (frameV cols names)
        · exact ⟨v0_ok, v0_ts, fun e => absurd (strEq_iff.1 e) (show ¬ sLarge = zS by decide), fun _ => rfl⟩
        · exact ⟨hms.1, hms.2, fun _ => hfm.trans hvb, fun e => by have e' : strEq zS zS = false := e; rw [strEq_self] at e'; cases e'⟩
theorem impl_IsKey_eq {n : Nat} (hn : FUEL ≤ n) {f : Vec} (ht : tsVec f ≤ 68719476736) (hv : VecOK f) {names : List ByteArray} (hns : StrsOK names) (hnl : names.length ≤ 68719476736) : impl_IsKey n f names = some (keyB f names) := by
  have hs := sel_facts ht hv hns
  unfold impl_IsKey keyB
  simp only [Vec.re_eq, impl_SelectColumns_eq hn ht hv hns hnl, Option.bind_some]
  generalize (selB f names).1 = g at hs
  generalize (selB f names).2 = e at hs
  obtain ⟨hg, hgt, hok, _⟩ := hs
  cases he : strEq e zS
  · rw [Bool.and_false]; rfl
  · have hfr := hok he
    have hr := rows_small hgt
    have hr0 := (frame_rows hfr).2
    have hh := iter_all (B := fun x : Vec × Int => impl_IsKey_r0 n x.1 x.2) (R := Bool) (List.range (rowsB g).toNat) (fun i => (g, (i : Int))) (fun i => (List.range i).all fun k => !sameB g i k) false
      (fun j i hi => by
        obtain ⟨rfl, hj⟩ := range_get hi
        have hir : (i : Int) < rowsB g := by omega
        dsimp only
        unfold impl_IsKey_r0
        simp only [Vec.re_eq, impl_rows_eq hgt hfr, Option.bind_some, decide_eq_true hir, cond_true, implKey_row (fuel_big hn) hgt hfr hir]
        cases (List.range i).all fun k => !sameB g i k
        · rfl
        · simp only [cond_true, lpK, w64_succ (show i + 1 ≤ 9223372036854775807 by omega)])
      (by
        dsimp only; rw [List.length_range]; unfold impl_IsKey_r0
        simp only [Vec.re_eq, impl_rows_eq hgt hfr, Option.bind_some]
        rw [decide_eq_false (show ¬ (((rowsB g).toNat : Nat) : Int) < rowsB g by omega)]; rfl) (by rw [List.length_range]; have := fuel_big hn; unfold BIG at this; omega : (List.range (rowsB g).toNat).length < n)
    simp only [Bool.not_true, cond_false]
    rw [show impl_IsKey_l0 n (g, (0 : Int)) = _ from hh]
    unfold noDup
    cases (List.range (rowsB g).toNat).all fun i => (List.range i).all fun k => !sameB g i k <;> rfl
theorem law_FnExactIsKey (v : Vec) (names : List ByteArray) (h : VecOK v) (hns : StrsOK names) : ∃ n, laws_FnExactIsKey n v names = some true := by
  refine ⟨FUEL, ?_⟩
  have hn := Nat.le_refl FUEL
  unfold laws_FnExactIsKey
  simp only [Vec.re_eq]
  rw [szVector_eq hn h (by omega) (by omega)]
  by_cases hc : tsVec v ≤ 1048576
  · have hT : tsVec v ≤ 68719476736 := by omega
    have h0 := tsVec_nonneg v
    simp only [Option.bind_some, capd_lt hc, cond_false]
    rw [capd_pos hc, szStringS_eq (fuel_big hn) hns (by omega) (by omega)]
    by_cases hc2 : tsStrS names ≤ 1048576 - tsVec v
    · have hnl : names.length ≤ 68719476736 := by have := tsStrS_nonneg names; omega
      have hs := sel_facts hT h hns
      simp only [Option.bind_some, capd_lt hc2, cond_false, toVector_eq hn hT, toStringS_eq (fuel_big hn) hnl, spec_IsKey_eq hn hT h hns hnl ⟨hs.1, hs.2.1⟩, impl_IsKey_eq hn hT h hns hnl, eqVector_self hn hT, eqStringS_self (fuel_big hn) hnl]
      simp
    · simp only [Option.bind_some, capd_no hc2, cond_true]
  · simp only [Option.bind_some, capd_no hc, cond_true]
theorem pure_FnExactIsKey (xs : Dens [.vec, .sl .str]) (h : WfAll [.vec, .sl .str] xs) : ∃ n, laws_FnExactIsKey n xs.1 xs.2 = some true :=
  law_FnExactIsKey xs.1 xs.2 (h (unpack .vec xs.1) (List.mem_cons_self ..)) (wfc_strs (h (unpack (.sl .str) xs.2) (List.mem_cons_of_mem _ (List.mem_cons_self ..)) (.sl .str xs.2) (by simp [unpack])))
end Go.AM
