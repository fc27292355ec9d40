/- The abstract machine, part 3: typed states for the model's states, and that the model does what they say (no condition; for every program that passes its checks). -/
import Derived.LoopN
import Derived.ProofKit
import Derived.Laws.BitsLemmas
import Derived.Laws.Strings
import Derived.Test.YtmnadhgepopefaaAm2
/- A region in any order; the region's theorem. -/
namespace Go.AM
section
variable {P : Program} {w0 : World} {wr : Gh} {nt : Nat}

def unl (listed : Array Bool) (n : Nat) : Nat := (List.range n).countP fun j => !(listed.getD j false)
theorem unl_set {listed : Array Bool} {n i : Nat} (hi : i < n) (hl : i < listed.size) (h : listed.getD i false = false) : unl (listed.setIfInBounds i true) n < unl listed n := by
  unfold unl
  have gen : ∀ (l : List Nat), (l.countP fun j => !((listed.setIfInBounds i true).getD j false)) ≤ (l.countP fun j => !(listed.getD j false)) ∧ (i ∈ l → (l.countP fun j => !((listed.setIfInBounds i true).getD j false)) < (l.countP fun j => !(listed.getD j false))) := by
    have e : ∀ j, (listed.setIfInBounds i true).getD j false = if j = i then true else listed.getD j false := by
      intro j
      simp only [Array.getD_eq_getD_getElem?, Array.getElem?_setIfInBounds]
      by_cases hj : i = j
      · subst hj; simp [hl]
      · rw [if_neg hj, if_neg (fun e => hj e.symm)]
    intro l
    induction l with
    | nil => exact ⟨Nat.le_refl _, fun h => by cases h⟩
    | cons x l ih =>
      simp only [List.countP_cons, e]
      by_cases hx : x = i
      · subst hx
        simp only [if_true, Bool.not_true, Bool.false_eq_true, if_false, h, Bool.not_false]
        exact ⟨by have := ih.1; simp only [e] at this; omega, fun _ => by have := ih.1; simp only [e] at this; omega⟩
      · simp only [if_neg hx]
        refine ⟨by have := ih.1; simp only [e] at this; omega, fun hm => ?_⟩
        rcases List.mem_cons.1 hm with rfl | hm
        · exact absurd rfl hx
        · have := ih.2 hm; simp only [e] at this; omega
  exact (gen _).2 (List.mem_range.2 hi)
theorem unl_zero {listed : Array Bool} {n : Nat} (h : unl listed n = 0) : ∀ j, j < n → listed.getD j false = true := by
  intro j hj
  unfold unl at h
  rw [List.countP_eq_zero] at h
  simpa using h j (List.mem_range.2 hj)

theorem any_ok {T : Tab} {ρ : Nat → Option Fun} {fz : List Nat} {ops : Array Oper} {D : List OpD} {s0 : St} {B0 : Nat} (K : TabsOK P T ρ) (R : RegOK T ρ fz ops nt s0 D)
    (hst : ∀ (i : Nat) d, D[i]? = some d → ∀ τ ∈ d.tr.stamps, τ ≤ s0.clock ∨ τ = s0.clock + i + 1 ∨ ∃ j, j < i ∧ τ = s0.clock + j + 1 ∧ ((Region.before ops).getD i 0).testBit j = true)
    (hcl : ∀ (i j : Nat) d e, D[i]? = some d → D[j]? = some e → i < j → ((Region.before ops).getD j 0).testBit i = false → NoClash d e) (hed : edgesOk 0 ops.toList = true) {Q : Exit → Act → World → Prop}
    (hQ : ∀ a w, Mid w0 wr nt ops D s0 ops.size B0 (fun j => decide (j < ops.size)) a w → Q .normal a w) :
    ∀ (fuel : Nat) (listed : Array Bool) (a : Act) (w : World), listed.size = ops.size → unl listed ops.size ≤ fuel → (∀ i, listed.getD i false = true → ∀ j, ((Region.before ops).getD i 0).testBit j = true → listed.getD j false = true) →
      Mid w0 wr nt ops D s0 ops.size B0 (fun j => listed.getD j false) a w → wpAny P .any ops Q fuel listed a w := by
  have full : ∀ (listed : Array Bool) (a : Act) (w : World), listed.size = ops.size → (∀ j, j < ops.size → listed.getD j false = true) → Mid w0 wr nt ops D s0 ops.size B0 (fun j => listed.getD j false) a w → Q .normal a w := by
    intro listed a w hs h M
    have e : (fun j => listed.getD j false) = fun j => decide (j < ops.size) := by
      funext j
      by_cases hj : j < ops.size
      · rw [h j hj]; simp [hj]
      · simp only [Array.getD_eq_getD_getElem?]
        rw [Array.getElem?_eq_none (by omega)]; simp [hj]
    rw [e] at M
    exact hQ a w M
  have least : ∀ (listed : Array Bool), listed.size = ops.size → Region.ready .any ops listed = [] → ∀ j, j < ops.size → listed.getD j false = true := by
    intro listed hs hr j
    induction j using Nat.strongRecOn with
    | ind j ih =>
      intro hj
      cases hl : listed.getD j false with
      | true => rfl
      | false =>
        exfalso
        have : j ∈ Region.ready .any ops listed := by
          rw [mem_ready]
          refine ⟨?_, ops[j], Array.getElem?_eq_getElem hj, fun e he hb => ?_⟩
          · rw [Array.getD_eq_getD_getElem?] at hl ⊢
            rw [Array.getElem?_eq_getElem (by omega)] at hl ⊢
            exact hl
          · have hon := edges_spec ops.toList 0 hed j ops[j] (by rw [Array.getElem?_toList]; exact Array.getElem?_eq_getElem hj) e (by simpa using he) hb
            exact ih e.on (by omega) (by omega)
        rw [hr] at this; cases this
  intro fuel
  induction fuel with
  | zero =>
    intro listed a w hs hu hc M
    have hall := unl_zero (Nat.le_zero.1 hu)
    refine ⟨?_, full listed a w hs hall M⟩
    cases hr : Region.ready .any ops listed with
    | nil => rfl
    | cons x xs =>
      exfalso
      have hx : x ∈ Region.ready .any ops listed := by rw [hr]; exact List.mem_cons_self ..
      obtain ⟨h1, o, ho, _⟩ := mem_ready.1 hx
      have hlt := (Array.getElem?_eq_some_iff.1 ho).1
      have h2 := hall x hlt
      rw [Array.getD_eq_getD_getElem?] at h1 h2
      rw [Array.getElem?_eq_getElem (by omega)] at h1 h2
      simp only [Option.getD_some] at h1 h2
      rw [h1] at h2; cases h2
  | succ fuel ih =>
    intro listed a w hs hu hc M
    refine ⟨fun hr => full listed a w hs (least listed hs hr) M, fun i hi => ?_⟩
    obtain ⟨h1, o, ho, hedge⟩ := mem_ready.1 hi
    have hlt := (Array.getElem?_eq_some_iff.1 ho).1
    have h1' : listed.getD i false = false := by
      rw [Array.getD_eq_getD_getElem?] at h1 ⊢
      rw [Array.getElem?_eq_getElem (by omega)] at h1 ⊢
      exact h1
    have hbef : ∀ j, ((Region.before ops).getD i 0).testBit j = true → listed.getD j false = true := by
      intro j hj
      obtain ⟨o', ho', e, he, hb, h2⟩ := before_spec ops i hlt j hj
      rw [ho] at ho'; cases ho'
      have hle := hedge e (by simpa using he) hb
      rcases h2 with rfl | h2
      · exact hle
      · exact hc e.on hle j h2
    obtain ⟨d0, hd⟩ : ∃ d, D[i]? = some d := ⟨_, List.getElem?_eq_getElem (by rw [R.len]; exact hlt)⟩
    have nc : ∀ (v u : Nat) d e, D[v]? = some d → D[u]? = some e → v < u → listed.getD v false = false → (listed.getD u false = true ∨ u = i) → NoClash d e := by
      intro v u d e h2 h3 h4 h5 h6
      refine hcl v u d e h2 h3 h4 ?_
      cases hb : ((Region.before ops).getD u 0).testBit v with
      | false => rfl
      | true =>
        rcases h6 with h6 | rfl
        · rw [hc u h6 v hb] at h5; cases h5
        · rw [hbef v hb] at h5; cases h5
    refine step_ok K R M ho hd ⟨h1', fun v u d e g1 g2 g3 g4 g5 g6 => nc v u d e g5 g6 g1 g3 (.inl g4), fun v e g1 g3 g4 => nc v i e d0 g4 hd g1 g3 (.inr rfl), fun u e g1 g2 g3 => nc i u d0 e hd g3 g1 h1' (.inl g2), fun τ hτ => ?_⟩ fun a' w' M' => ih _ a' w' (by simpa using hs) ?_ ?_ ?_
    · rcases hst i d0 hd τ hτ with h | h | ⟨j, g1, g2, g3⟩
      · exact .inl h
      · exact .inr (.inl h)
      · exact .inr (.inr ⟨j, hbef j g3, g2⟩)
    · have := unl_set (n := ops.size) hlt (by omega) h1'
      omega
    · intro k hk j hj
      have e : ∀ q, (listed.setIfInBounds i true).getD q false = if q = i then true else listed.getD q false := by
        intro q
        simp only [Array.getD_eq_getD_getElem?, Array.getElem?_setIfInBounds]
        by_cases hq : i = q
        · subst hq; simp [hs, hlt]
        · rw [if_neg hq, if_neg (fun e => hq e.symm)]
      rw [e] at hk ⊢
      by_cases hji : j = i
      · rw [if_pos hji]
      · rw [if_neg hji]
        by_cases hki : k = i
        · subst hki; exact hbef j hj
        · rw [if_neg hki] at hk; exact hc k hk j hj
    · have e : (fun j => (listed.setIfInBounds i true).getD j false) = addS (fun j => listed.getD j false) i := by
        funext q
        simp only [addS, Array.getD_eq_getD_getElem?, Array.getElem?_setIfInBounds]
        by_cases hq : i = q
        · subst hq; simp [hs, hlt]
        · rw [if_neg hq, if_neg (fun e => hq e.symm)]
      rw [e]
      exact M'

theorem region_ok {R' α : Type} {E : Env R'} (K : TabsOK P E.T E.ρ) (hm : P.follows .mixedOrders = true) {id : Nat} {ops : Array Oper} {draw : Bool} {s : St} {z : α} {k : St → Option α} (h : regionK E ops draw s k = some z) (hf : Flat s)
    {B0 : Nat} {γ : Gh} {β : Nat → Nat} {a : Act} {w : World} (r : Rel w0 wr E.nt ⟨B0, γ, β, s, a, w⟩) {Q : Exit → Act → World → Prop}
    (hQ : ∀ s' γ' β' a' w', k s' = some z → Flat s' → Rel w0 wr E.nt ⟨B0, γ', β', s', a', w'⟩ → Q .normal a' w') : (Code.region id ops draw).wp P Q a w := by
  unfold regionK at h
  cases hc : nodupN (dsts ops.toList) && (((dsts ops.toList).all fun d => Nat.blt d E.nt) && guardsOk 0 ops.toList) with
  | false => rw [hc] at h; cases h
  | true =>
  rw [hc] at h
  simp only [cond_true] at h
  simp only [Bool.and_eq_true] at hc
  obtain ⟨c1, c2, c3⟩ := hc
  obtain ⟨D, d1, d2, d3⟩ := stepsK_data _ _ _ _ h
  rw [List.append_nil, List.reverse_reverse] at d3
  cases hc2 : stampsOk ops s.clock draw (D.map OpD.tr) && (!draw || drawOk ops (D.map OpD.tr)) with
  | false => rw [hc2] at d3; cases d3
  | true =>
  rw [hc2] at d3
  simp only [cond_true] at d3
  simp only [Bool.and_eq_true] at hc2
  obtain ⟨st, dr⟩ := hc2
  have len : D.length = ops.size := by rw [d1, Array.length_toList]
  have R : RegOK E.T E.ρ E.fz ops E.nt s D := by
    refine ⟨len, fun j o d h1 h2 => ?_, fun j o k h1 h2 => ?_, fun j j' o o' k h1 h2 h3 h4 => ?_, fun i j o want h1 h2 => ?_⟩
    · have := d2 j o d (by rw [Array.getElem?_toList]; exact h1) h2
      rw [Nat.zero_add] at this
      exact this
    · have hm : k ∈ dsts ops.toList := List.mem_filterMap.2 ⟨o, List.mem_of_getElem? (by rw [Array.getElem?_toList]; exact h1), h2⟩
      exact Nat.le_of_ble_eq_true (List.all_eq_true.1 c2 k hm)
    · exact dsts_spec ops.toList c1 j j' o o' k (by rw [Array.getElem?_toList]; exact h1) (by rw [Array.getElem?_toList]; exact h2) h3 h4
    · have := guards_spec ops.toList 0 c3 i o j want (by rw [Array.getElem?_toList]; exact h1) h2
      omega
  have tr_get : ∀ {i : Nat} {d : OpD}, D[i]? = some d → (D.map OpD.tr)[i]? = some d.tr := fun h => by rw [List.getElem?_map, h]; rfl
  have fin : ∀ a w, Mid w0 wr E.nt ops D s ops.size B0 (fun j => decide (j < ops.size)) a w → Q .normal a w := by
    intro a' w' M
    obtain ⟨⟨γ', β', r', hG⟩, _, _⟩ := M
    have e : prS D (fun j => decide (j < ops.size)) 0 ops.size = prs D := by
      rw [prS_all D ops.size (by rw [len]; exact Nat.le_refl _) (fun j hj => by simp [hj]), ← len, List.take_length]
    rw [e] at r' hG
    have hu : Uniq (applyAll s (prs D)).env := uniq_all _ (by rw [hf.env]; simp [Uniq])
    refine hQ _ γ' β' a' w' d3 (close_flat hu (fun k v _ hv => sl_keep (prs D) (fun k v hv q c τ hr => ?_) k v hv) E.keep ops.size) (close_rel r' hG hu E.keep ops.size)
    refine hf.refs q c τ ⟨k, ?_⟩
    unfold St.ent
    rw [hf.env]
    simp only [getA]
    rw [hv]
    exact hr
  cases draw with
  | false =>
    refine wp_region ?_
    rw [List.range_eq_range']
    refine range_ok K R (fun i d hd τ hτ => ?_) fin ops.size 0 a w (by omega) ?_
    · rcases stamps_spec st (tr_get hd) hτ with h | h | ⟨j, h1, h2, _⟩
      · exact .inl h
      · exact .inr (.inl h)
      · exact .inr (.inr ⟨j, h1, h2⟩)
    · have e : (fun j => decide (j < 0)) = fun _ : Nat => false := by funext j; simp
      rw [e]
      exact flat_mid hf r
  | true =>
    simp only [Bool.not_true, Bool.false_or] at dr
    refine wp_region_any hm (any_ok K R (fun i d hd τ hτ => ?_) (fun i j d e h1 h2 h3 h4 => noClash_of (draw_spec dr (tr_get h1) (tr_get h2) h3 h4)) (by unfold drawOk at dr; simp only [Bool.and_eq_true] at dr; exact dr.1) fin ops.size _ a _ (by simp) ?_ (fun i hi => ?_) ?_)
    · rcases stamps_spec st (tr_get hd) hτ with h | h | ⟨j, h1, h2, h3⟩
      · exact .inl h
      · exact .inr (.inl h)
      · exact .inr (.inr ⟨j, h1, h2, h3 rfl⟩)
    · unfold unl
      exact Nat.le_trans List.countP_le_length (by simp)
    · rw [Array.getD_eq_getD_getElem?, Array.getElem?_replicate] at hi
      split at hi <;> cases hi
    · have e : (fun j => (Array.replicate ops.size false).getD j false) = fun _ : Nat => false := by
        funext j
        rw [Array.getD_eq_getD_getElem?, Array.getElem?_replicate]
        split <;> rfl
      rw [e]
      refine flat_mid hf (γ := γ) (β := β) (r.frame (w' := { w with drawn := w.drawn + 1 }) ⟨fun b _ q => ⟨q, rfl⟩⟩ (Nat.le_refl _) (fun _ _ _ _ _ _ => ⟨fun b q => ⟨q, rfl⟩, fun b q => ⟨q, rfl⟩⟩) (fun q l hb => ⟨?_, rfl⟩) r.lim r.old ⟨rfl, rfl, rfl⟩)
      obtain ⟨_, _, _, h2, _⟩ := r.box q l hb
      exact h2

end
end Go.AM

/- The state that a loop's head or a function's end looks at: less is known, owners give up what is only read. -/
namespace Go.AM

def CellsConv (l l' : List CT) : Prop := l'.length = l.length ∧ ∀ (j : Nat) x', l'[j]? = some x' → ∃ v t t', l[j]? = some (.at v t) ∧ x' = .at v t' ∧ (v.isSl = true → okTag t t' = true)
def SlotConv (s s' : St) (k : Nat) (v' : SV) : Prop :=
  v' = .un ∨ (∃ a l l', (s.ent k).v = .val a l ∧ v' = .val a l' ∧ CellsConv l l') ∨ (v' = .fp k 0 ∧ (s.ent k).v = .fp k 0 ∧ (s'.box k).isSome) ∨
    (∃ l l', (s.ent k).v = .es true l ∧ v' = .es true l' ∧ CellsConv l l' ∧ ∀ x ∈ l', ∃ v, x = .at v .ps) ∨ ∃ f caps, v' = .clo f caps ∧ (s.ent k).v = .clo f caps ∧ ∀ q ∈ caps, (s'.box q).isSome

open Classical in
noncomputable def keepOw (s' : St) : Ow → Ow
  | .tp k c => if ∃ cv d st, s'.homeCT k c = some (.at cv (.own d st)) then .tp k c else .none
  | o => o

section
variable {w0 : World} {wr : Gh} {nt : Nat} {B0 : Nat} {γ : Gh} {β : Nat → Nat} {s s' : St} {a : Act} {w : World}

theorem keep_sh {b : Nat} (h : okSh γ b) : okSh (fun b => keepOw s' (γ b)) b := by
  rcases h with h | ⟨k, c, h⟩
  · left; simp only [h, keepOw]
  · right; exact ⟨k, c, by simp only [h, keepOw]⟩
theorem conv_at {k c : Nat} {y : Value} {v : CV} {t t' : Tag} (h : AtOK B0 γ w k c y v t) (hok : v.isSl = true → okTag t t' = true) (hh : ∀ d st, t' = .own d st → v.isSl = true → s'.homeCT k c = some (.at v t')) (hn : t' = .sh → ∀ cv d st, s'.homeCT k c ≠ some (.at cv (.own d st))) :
    AtOK B0 (fun b => keepOw s' (γ b)) w k c y v t' := by
  cases v with
  | int n m => exact h
  | bool b => exact h
  | str s => exact h
  | sl u xs =>
    have hok := hok rfl
    cases t' with
    | ps =>
      cases t <;> first | cases hok | skip
      exact Rep.mono (fun b _ q => ⟨⟨q.1, keep_sh q.2⟩, rfl⟩) h
    | sh =>
      cases t with
      | ps => exact Rep.mono (fun b _ q => ⟨keep_sh q.2, rfl⟩) h
      | sh => exact Rep.mono (fun b _ q => ⟨keep_sh q, rfl⟩) h
      | own d st =>
        refine Rep.mono (fun b _ q => ⟨?_, rfl⟩) (OwnS.rep h)
        rcases q with q | q
        · left
          simp only [q, keepOw]
          rw [if_neg]
          rintro ⟨cv, d', st', e⟩
          exact hn rfl cv d' st' e
        · exact keep_sh q
      | dead => cases hok
    | own d st =>
      cases t with
      | own e st' =>
        have hex : ∃ cv d st, s'.homeCT k c = some (.at cv (.own d st)) := ⟨_, _, _, hh d st rfl rfl⟩
        have h2 : OwnS w (fun b => keepOw s' (γ b)) k c e y u xs := OwnS.move h (fun b _ q => keep_sh q) (fun b q => by simp only [q, keepOw]; rw [if_pos hex]) (fun b q => by simp only [q, keepOw])
        cases d with
        | false => exact h2.weaken
        | true =>
          simp only [okTag, Bool.not_true, Bool.false_or] at hok
          subst hok
          exact h2
      | _ => cases hok
    | dead => cases t <;> cases hok

theorem rel_conv (r : Rel w0 wr nt ⟨B0, γ, β, s, a, w⟩) (hf : ∀ k, (s.ent k).b = true) (he : ∀ k, ∃ v', s'.ent k = ⟨[], true, v'⟩ ∧ SlotConv s s' k v') (hb : ∀ k l', s'.box k = some l' → ∃ l, s.box k = some l ∧ CellsConv l l') :
    ∃ γ', Rel w0 wr nt ⟨B0, γ', β, s', a, w⟩ := by
  refine ⟨fun b => keepOw s' (γ b), ⟨fun k => ?_, fun k l' hl' => ?_, fun b hb' => ?_, r.le, fun b hb' hn => ?_, r.rest, r.defers, r.size⟩⟩
  · obtain ⟨v', hv', hc⟩ := he k
    show EntOK _ k (s'.ent k)
    rw [hv']
    refine ⟨fun _ => ?_, fun e => by cases e⟩
    show SVOK _ k (tmpAt a k) v'
    have hold := (r.ent k).1 (hf k)
    have hold' : SVOK ⟨B0, γ, β, s, a, w⟩ k (tmpAt a k) (s.ent k).v := hold
    rcases hc with rfl | ⟨ag, l, l', h1, rfl, h2⟩ | ⟨rfl, h1, h2⟩ | ⟨l, l', h1, rfl, h2, h3⟩ | ⟨f, caps, rfl, h1, h2⟩
    · trivial
    · rw [h1] at hold'
      obtain ⟨g1, g2, g3⟩ := hold'
      refine ⟨g1, ⟨by rw [h2.1]; exact g2.1, fun j x' hj => ?_⟩, by rw [h2.1]; exact g3⟩
      obtain ⟨v, t, t', k1, rfl, k3⟩ := h2.2 j x' hj
      obtain ⟨y, hy, ho⟩ := g2.2 j _ k1
      refine ⟨y, hy, ?_⟩
      have hlt : j < 64 := by have := (List.getElem?_eq_some_iff.1 k1).1; omega
      have hhome : s'.homeCT k (0 + j) = some (.at v t') := by
        rw [Nat.zero_add, homeCT_slot (a := ag) (l := l') (by rw [hv']) hlt]; exact hj
      exact conv_at ho k3 (fun _ _ e _ => hhome) (fun e cv d st e2 => by rw [hhome, e] at e2; cases e2)
    · rw [h1] at hold'
      exact ⟨hold'.1, h2⟩
    · rw [h1] at hold'
      obtain ⟨b, o, g1, g2, g3, g4, g5⟩ := hold'
      refine ⟨b, o, g1, ⟨g2.1, keep_sh g2.2⟩, g3, fun x hx => ?_, fun j x' hj => ?_⟩
      · obtain ⟨v, rfl⟩ := h3 x hx
        cases v <;> rfl
      · obtain ⟨v, t, t', k1, rfl, k3⟩ := h2.2 j x' hj
        obtain ⟨v2, e⟩ := h3 _ (List.mem_of_getElem? hj)
        cases e
        obtain ⟨y, hy, ho⟩ := g5 j _ k1
        exact ⟨y, hy, conv_at ho k3 (fun d st e => by cases e) (fun e => by cases e)⟩
    · rw [h1] at hold'
      exact ⟨hold'.1, h2⟩
  · obtain ⟨l, hl, hc⟩ := hb k l' hl'
    obtain ⟨arr, E, g1, g2, g3⟩ := (r.box k l hl).ats
    refine ⟨arr, E, g1, ?_, ⟨by rw [hc.1]; exact g3.1, fun j x' hj => ?_⟩, fun x' hx' => ?_⟩
    · have g2' : γ (β k) = .bx k := g2
      show keepOw s' (γ (β k)) = _
      rw [g2']; rfl
    · obtain ⟨v, t, t', k1, rfl, k3⟩ := hc.2 j x' hj
      obtain ⟨y, v2, t2, e, hy, ho⟩ := g3.2 j _ k1
      cases e
      refine ⟨y, hy, ?_⟩
      have hhome : s'.homeCT k (64 + j) = some (.at v t') := by rw [homeCT_box hl']; exact hj
      exact conv_at ho k3 (fun _ _ e _ => hhome) (fun e cv d st e2 => by rw [hhome, e] at e2; cases e2)
    · obtain ⟨j, hj⟩ := List.mem_iff_getElem?.1 hx'
      obtain ⟨v, t, t', _, rfl, _⟩ := hc.2 j x' hj
      exact ⟨v, t', rfl⟩
  · have : γ b = .none := r.lim b hb'
    show keepOw s' (γ b) = _
    rw [this]; rfl
  · obtain ⟨h1, h2⟩ := r.old b hb' hn
    exact ⟨h1, h2.map (fun e => by have e' : γ b = .fo := e; show keepOw s' (γ b) = _; rw [e']; rfl) (fun e => by have e' : γ b = .none := e; show keepOw s' (γ b) = _; rw [e']; rfl) (fun e => keep_sh e)⟩

end

theorem okTags_conv : ∀ {l : List CT} {ts : List Tag}, okTags l ts = true → CellsConv l (tagZip (l.map CT.cv) ts) := by
  intro l
  induction l with
  | nil => intro ts _; cases ts <;> exact ⟨rfl, fun j x h => by simp [tagZip] at h⟩
  | cons x l ih =>
    intro ts h
    cases x with
    | ref => cases h
    | «at» v t =>
      simp only [okTags, Bool.and_eq_true, Bool.or_eq_true, Bool.not_eq_true'] at h
      obtain ⟨h1, h2⟩ := h
      obtain ⟨i1, i2⟩ := ih h2
      refine ⟨by rw [tagZip_len]; simp, fun j x' hj => ?_⟩
      cases ts with
      | nil =>
        have hv : v.isSl = false := by
          rcases h1 with h1 | h1
          · exact h1
          · cases t <;> cases h1
        cases j with
        | zero =>
          simp only [List.map_cons, tagZip, List.getElem?_cons_zero, Option.some.injEq] at hj
          subst hj
          exact ⟨v, t, .ps, rfl, rfl, fun e => by rw [hv] at e; cases e⟩
        | succ j => exact i2 j x' (by simpa [tagZip] using hj)
      | cons t' ts =>
        cases j with
        | zero =>
          simp only [List.map_cons, tagZip, List.getElem?_cons_zero, Option.some.injEq] at hj
          subst hj
          refine ⟨v, t, _, rfl, rfl, fun e => ?_⟩
          rcases h1 with h1 | h1
          · rw [h1] at e; cases e
          · have e' : (CT.at v t).cv.isSl = true := e
            rw [e']; exact h1
        | succ j => exact i2 j x' (by simpa [tagZip] using hj)

end Go.AM

/- Code: what 'exec' computes is what the model does. -/
namespace Go.AM

theorem getA_mem {α : Type} : ∀ {l : List (Nat × α)} {k : Nat} {x : α}, getA l k = some x → (k, x) ∈ l := by
  intro l
  induction l with
  | nil => intro k x h; cases h
  | cons p l ih =>
    intro k x h
    obtain ⟨q, y⟩ := p
    simp only [getA] at h
    by_cases hk : k = q
    · rw [if_pos hk] at h; cases h; subst hk; exact List.mem_cons_self ..
    · rw [if_neg hk] at h; exact List.mem_cons_of_mem _ (ih h)
theorem getA_some {α : Type} : ∀ {l : List (Nat × α)} {k : Nat} {x : α}, (k, x) ∈ l → (getA l k).isSome := by
  intro l
  induction l with
  | nil => intro k x h; cases h
  | cons p l ih =>
    intro k x h
    obtain ⟨q, y⟩ := p
    simp only [getA]
    by_cases hk : k = q
    · rw [if_pos hk]; rfl
    · rw [if_neg hk]
      rcases List.mem_cons.1 h with h | h
      · cases h; exact absurd rfl hk
      · exact ih h

/-! ### A loop's head -/
theorem keys_sl (s : St) : ∀ (ks : List KeyTy) {ls : List (List CV)}, decKeys s (ks.map fun q => (q.key, q.ty.isAgg, q.tags)) = some ls → ∀ k v, (k, v) ∈ keySl ks ls →
    ∃ q l, q ∈ ks ∧ decKey s q.key q.ty.isAgg q.tags = some l ∧ ((q.key = .slot k ∧ v = .val q.ty.isAgg (tagZip l q.tags)) ∨ (q.key = .box k ∧ v = .fp k 0) ∨ (q.key = .es k ∧ v = .es true (tagZip l q.tags))) := by
  intro ks
  induction ks with
  | nil => intro ls h k v hm; cases h; cases hm
  | cons q ks ih =>
    intro ls h k v hm
    simp only [List.map_cons, decKeys] at h
    obtain ⟨l, hl, h⟩ := Option.bind_eq_some_iff.1 h
    obtain ⟨r, hr, h⟩ := Option.bind_eq_some_iff.1 h
    cases h
    simp only [keySl] at hm
    rcases List.mem_cons.1 hm with hm | hm
    · refine ⟨q, l, List.mem_cons_self .., hl, ?_⟩
      cases hk : q.key with
      | slot k' => rw [hk] at hm; cases hm; exact .inl ⟨rfl, rfl⟩
      | box k' => rw [hk] at hm; cases hm; exact .inr (.inl ⟨rfl, rfl⟩)
      | es k' => rw [hk] at hm; cases hm; exact .inr (.inr ⟨rfl, rfl⟩)
      | hdr k' => rw [hk] at hl; cases hl
    · obtain ⟨q', l', h1, h2, h3⟩ := ih hr k v hm
      exact ⟨q', l', List.mem_cons_of_mem _ h1, h2, h3⟩
theorem keys_bx (s : St) : ∀ (ks : List KeyTy) {ls : List (List CV)}, decKeys s (ks.map fun q => (q.key, q.ty.isAgg, q.tags)) = some ls →
    (∀ k v, (k, v) ∈ keyBx ks ls → ∃ q l, q ∈ ks ∧ decKey s q.key q.ty.isAgg q.tags = some l ∧ q.key = .box k ∧ v = tagZip l q.tags) ∧ ∀ q ∈ ks, ∀ k, q.key = .box k → ∃ v, (k, v) ∈ keyBx ks ls := by
  intro ks
  induction ks with
  | nil => intro ls h; cases h; exact ⟨(fun k v hm => by cases hm), fun q hq => by cases hq⟩
  | cons q ks ih =>
    intro ls h
    simp only [List.map_cons, decKeys] at h
    obtain ⟨l, hl, h⟩ := Option.bind_eq_some_iff.1 h
    obtain ⟨r, hr, h⟩ := Option.bind_eq_some_iff.1 h
    cases h
    obtain ⟨i1, i2⟩ := ih hr
    refine ⟨fun k v hm => ?_, fun q' hq' k hk => ?_⟩
    · have tail : (k, v) ∈ keyBx ks r → ∃ q' l', q' ∈ q :: ks ∧ decKey s q'.key q'.ty.isAgg q'.tags = some l' ∧ q'.key = .box k ∧ v = tagZip l' q'.tags := fun hm => by
        obtain ⟨q', l', h1, h2⟩ := i1 k v hm
        exact ⟨q', l', List.mem_cons_of_mem _ h1, h2⟩
      simp only [keyBx] at hm
      cases hk : q.key with
      | box k' =>
        rw [hk] at hm
        rcases List.mem_cons.1 hm with hm | hm
        · cases hm; exact ⟨q, l, List.mem_cons_self .., hl, hk, rfl⟩
        · exact tail hm
      | slot k' => rw [hk] at hm; exact tail hm
      | es k' => rw [hk] at hm; exact tail hm
      | hdr k' => rw [hk] at hm; exact tail hm
    · simp only [keyBx]
      rcases List.mem_cons.1 hq' with rfl | hq'
      · rw [hk]; exact ⟨_, List.mem_cons_self ..⟩
      · obtain ⟨v, hv⟩ := i2 q' hq' k hk
        cases hk2 : q.key with
        | box k' => exact ⟨v, List.mem_cons_of_mem _ hv⟩
        | slot k' => exact ⟨v, hv⟩
        | es k' => exact ⟨v, hv⟩
        | hdr k' => exact ⟨v, hv⟩

theorem decKey_slot {s : St} {k : Nat} {ag : Bool} {tags : List Tag} {l : List CV} (h : decKey s (.slot k) ag tags = some l) : ∃ l0, (s.ent k).v = .val ag l0 ∧ okTags l0 tags = true ∧ l = l0.map CT.cv := by
  simp only [decKey] at h
  split at h
  · rename_i a l0 hv
    cases hc : a == ag && okTags l0 tags with
    | false => rw [hc] at h; cases h
    | true =>
      rw [hc] at h; cases h
      simp only [Bool.and_eq_true] at hc
      have := eq_of_beq hc.1
      subst this
      exact ⟨l0, hv, hc.2, rfl⟩
  · cases h
theorem decKey_box {s : St} {k : Nat} {ag : Bool} {tags : List Tag} {l : List CV} (h : decKey s (.box k) ag tags = some l) : (s.ent k).v = .fp k 0 ∧ ∃ l0, s.box k = some l0 ∧ okTags l0 tags = true ∧ l = l0.map CT.cv := by
  simp only [decKey] at h
  split at h
  · rename_i k' hv
    cases hb : Nat.beq k' k with
    | false => rw [hb] at h; cases h
    | true =>
      have := Nat.eq_of_beq_eq_true hb
      subst this
      rw [hb] at h
      simp only [cond_true] at h
      obtain ⟨l0, hl, h⟩ := Option.bind_eq_some_iff.1 h
      cases hc : okTags l0 tags with
      | false => rw [hc] at h; cases h
      | true => rw [hc] at h; cases h; exact ⟨hv, l0, hl, hc, rfl⟩
  · cases h
theorem decKey_es {s : St} {k : Nat} {ag : Bool} {tags : List Tag} {l : List CV} (h : decKey s (.es k) ag tags = some l) : ∃ l0, (s.ent k).v = .es true l0 ∧ okTags l0 tags = true ∧ psTags tags = true ∧ l = l0.map CT.cv := by
  simp only [decKey] at h
  split at h
  · rename_i l0 hv
    cases hc : okTags l0 tags && psTags tags with
    | false => rw [hc] at h; cases h
    | true =>
      rw [hc] at h; cases h
      simp only [Bool.and_eq_true] at hc
      exact ⟨l0, hv, hc.1, hc.2, rfl⟩
  · cases h
theorem psTags_zip : ∀ {ts : List Tag} {l : List CV}, psTags ts = true → ∀ x ∈ tagZip l ts, ∃ v, x = .at v .ps := by
  intro ts
  induction ts with
  | nil =>
    intro l _ x hx
    induction l with
    | nil => cases hx
    | cons c l ih =>
      simp only [tagZip] at hx
      rcases List.mem_cons.1 hx with rfl | hx
      · exact ⟨c, rfl⟩
      · exact ih hx
  | cons t ts ih =>
    intro l h x hx
    cases t <;> first | cases h | skip
    cases l with
    | nil => cases hx
    | cons c l =>
      simp only [tagZip] at hx
      rcases List.mem_cons.1 hx with rfl | hx
      · exact ⟨c, by cases c.isSl <;> rfl⟩
      · exact ih h x hx
theorem tagZip_at : ∀ {l : List CV} {ts : List Tag}, ∀ x ∈ tagZip l ts, ∃ v t, x = .at v t := by
  intro l
  induction l with
  | nil => intro ts x hx; cases ts <;> cases hx
  | cons c l ih =>
    intro ts x hx
    cases ts <;> simp only [tagZip] at hx <;> rcases List.mem_cons.1 hx with rfl | hx <;> first | exact ⟨_, _, rfl⟩ | exact ih x hx

section
variable {P : Program} {w0 : World} {wr : Gh} {nt : Nat} {B0 : Nat}

theorem dec_rel {R : Type} {ks : List KeyTy} {cs : Clos} {f : Dens (tysOf ks) → Option (Dens (tysOf ks) ⊕ R)} {s : St} {x : Dens (tysOf ks)} (h : (keyLoop ks cs f).dec s = some x) (hf : Flat s) {γ : Gh} {β : Nat → Nat} {a : Act} {w : World} (r : Rel w0 wr nt ⟨B0, γ, β, s, a, w⟩) :
    Flat (keySt ks cs x) ∧ ∃ γ', Rel w0 wr nt ⟨B0, γ', β, keySt ks cs x, a, w⟩ := by
  have h : (bif cloOk s cs && cloKeys ks cs then (decKeys s (ks.map fun q => (q.key, q.ty.isAgg, q.tags))).bind fun l => mkArgs (tysOf ks) l else none) = some x := h
  cases hc : cloOk s cs && cloKeys ks cs with
  | false => rw [hc] at h; cases h
  | true =>
  rw [hc] at h
  simp only [cond_true] at h
  simp only [Bool.and_eq_true] at hc
  obtain ⟨c1, c2⟩ := hc
  obtain ⟨ls, hls, hx⟩ := Option.bind_eq_some_iff.1 h
  have hsp := mkArgs_split hx
  have hS : keySt ks cs x = ⟨keySl ks ls ++ cloSl cs, keyBx ks ls, [], 0⟩ := by unfold keySt; rw [hsp]
  rw [hS]
  have hsl := keys_sl s ks hls
  obtain ⟨hb1, hb2⟩ := keys_bx s ks hls
  have hbox : ∀ k, (∃ q ∈ ks, q.key = .box k) → (St.box ⟨keySl ks ls ++ cloSl cs, keyBx ks ls, [], 0⟩ k).isSome := by
    rintro k ⟨q, hq, hk⟩
    obtain ⟨v, hv⟩ := hb2 q hq k hk
    exact getA_some hv
  have hent : ∀ k, ∃ v', St.ent ⟨keySl ks ls ++ cloSl cs, keyBx ks ls, [], 0⟩ k = ⟨[], true, v'⟩ ∧ SlotConv s ⟨keySl ks ls ++ cloSl cs, keyBx ks ls, [], 0⟩ k v' ∧ ∀ h c τ, ¬ RefSV v' h c τ := by
    intro k
    have hno : ∀ h c τ, ¬ RefSV .un h c τ := by rintro h c τ (⟨_, _, _, e, _⟩ | ⟨_, _, _, e⟩ | ⟨_, _, _, e⟩ | ⟨_, _, _, e, _⟩) <;> cases e
    simp only [St.ent, getA]
    cases hg : getA (keySl ks ls ++ cloSl cs) k with
    | none => exact ⟨.un, rfl, .inl rfl, hno⟩
    | some v =>
      refine ⟨v, rfl, ?_⟩
      rcases List.mem_append.1 (getA_mem hg) with hm | hm
      · obtain ⟨q, l, hq, hl, h3⟩ := hsl k v hm
        rcases h3 with ⟨hk, rfl⟩ | ⟨hk, rfl⟩ | ⟨hk, rfl⟩
        · rw [hk] at hl
          obtain ⟨l0, e1, e2, rfl⟩ := decKey_slot hl
          refine ⟨.inr (.inl ⟨_, l0, _, e1, rfl, okTags_conv e2⟩), ?_⟩
          rintro h c τ (⟨a', l', t, e, hin⟩ | ⟨_, _, _, e⟩ | ⟨_, _, _, e⟩ | ⟨_, _, _, e, _⟩)
          · cases e; obtain ⟨_, _, e⟩ := tagZip_at _ hin; cases e
          · cases e
          · cases e
          · cases e
        · rw [hk] at hl
          obtain ⟨e1, _⟩ := decKey_box hl
          refine ⟨.inr (.inr (.inl ⟨rfl, e1, hbox k ⟨q, hq, hk⟩⟩)), ?_⟩
          rintro h c τ (⟨_, _, _, e, _⟩ | ⟨_, _, _, e⟩ | ⟨_, _, _, e⟩ | ⟨_, _, _, e, _⟩) <;> cases e
        · rw [hk] at hl
          obtain ⟨l0, e1, e2, e3, rfl⟩ := decKey_es hl
          refine ⟨.inr (.inr (.inr (.inl ⟨l0, _, e1, rfl, okTags_conv e2, psTags_zip e3⟩))), ?_⟩
          rintro h c τ (⟨_, _, _, e, _⟩ | ⟨_, _, _, e⟩ | ⟨_, _, _, e⟩ | ⟨_, _, _, e, _⟩) <;> cases e
      · obtain ⟨q, hq, e⟩ := List.mem_map.1 hm
        cases e
        have h1 := List.all_eq_true.1 c1 q hq
        have h2 := List.all_eq_true.1 c2 q hq
        split at h1
        · rename_i f' c' hv
          simp only [Bool.and_eq_true] at h1
          have e1 := Nat.eq_of_beq_eq_true h1.1
          have e2 := eq_of_beq h1.2
          subst e1; subst e2
          refine ⟨.inr (.inr (.inr (.inr ⟨_, _, rfl, hv, fun k hk => hbox k ?_⟩))), ?_⟩
          · have := List.all_eq_true.1 h2 k hk
            obtain ⟨p, hp, e⟩ := List.any_eq_true.1 this
            exact ⟨p, hp, of_decide_eq_true e⟩
          · rintro h c τ (⟨_, _, _, e, _⟩ | ⟨_, _, _, e⟩ | ⟨_, _, _, e⟩ | ⟨_, _, _, e, _⟩) <;> cases e
        · cases h1
  refine ⟨⟨rfl, fun h c τ hr => ?_⟩, rel_conv r (fun k => (hf.ent k).2) (fun k => let ⟨v, h1, h2, _⟩ := hent k; ⟨v, h1, h2⟩) (fun k l' hl' => ?_)⟩
  · obtain ⟨k, hk⟩ := hr
    obtain ⟨v, h1, _, h3⟩ := hent k
    rw [h1] at hk
    exact h3 h c τ hk
  · obtain ⟨q, l, hq, hl, hk, rfl⟩ := hb1 k l' (getA_mem hl')
    rw [hk] at hl
    obtain ⟨_, l0, e1, e2, rfl⟩ := decKey_box hl
    exact ⟨l0, e1, okTags_conv e2⟩

/-! ### Code -/
def outE : Out → Exit
  | .normal => .normal
  | .exit i => .exit i
def LoopsIn (Φ : Nat → Code → Prop) : Code → Prop
  | .seq x y => LoopsIn Φ x ∧ LoopsIn Φ y
  | .cond _ x y => LoopsIn Φ x ∧ LoopsIn Φ y
  | .block id (.loop b) => Φ id b
  | .block _ c => LoopsIn Φ c
  | _ => True
/-- What a loop does is what its machine says. -/
def LoopOK (P : Program) {R : Type} (E : Env R) (id : Nat) (body : Code) : Prop :=
  ∀ (L : Loop R), E.lp id = some L → ∀ (w0 : World) (wr : Gh) (B0 : Nat) (s : St) (x : L.X) (r : L.X ⊕ R) (γ : Gh) (β : Nat → Nat) (a : Act) (w : World), L.dec s = some x → L.f x = some r → Flat s → Rel w0 wr E.nt ⟨B0, γ, β, s, a, w⟩ →
    ∀ (Q : Exit → Act → World → Prop), (∀ y, r = .inl y → ∀ γ' β' a' w', Flat (L.st y) → Rel w0 wr E.nt ⟨B0, γ', β', L.st y, a', w'⟩ → Q .normal a' w') →
      (∀ r0, r = .inr r0 → ∀ s' γ' β' a' w', E.ret s' = some r0 → Flat s' → Rel w0 wr E.nt ⟨B0, γ', β', s', a', w'⟩ → Q .ret a' w') → (Code.block id (.loop body)).wp P Q a w

theorem exec_ok {R α : Type} {E : Env R} (K : TabsOK P E.T E.ρ) (hm : P.follows .mixedOrders = true) : ∀ (c : Code) (_ : LoopsIn (LoopOK P E) c) (s : St) (k : Out → St → Option α) (kr : R → Option α) (z : α) (Q : Exit → Act → World → Prop) (γ : Gh) (β : Nat → Nat) (a : Act) (w : World),
    exec E c s k kr = some z → Flat s → Rel w0 wr E.nt ⟨B0, γ, β, s, a, w⟩ → (∀ o s' γ' β' a' w', k o s' = some z → Flat s' → Rel w0 wr E.nt ⟨B0, γ', β', s', a', w'⟩ → Q (outE o) a' w') →
    (∀ r s' γ' β' a' w', kr r = some z → E.ret s' = some r → Flat s' → Rel w0 wr E.nt ⟨B0, γ', β', s', a', w'⟩ → Q .ret a' w') → c.wp P Q a w := by
  intro c
  induction c with
  | skip => intro hl s k kr z Q γ β a w h hf r hk hr; exact wp_skip (hk .normal s γ β a w h hf r)
  | region id ops draw => intro hl s k kr z Q γ β a w h hf r hk hr; exact region_ok K hm h hf r fun s' γ' β' a' w' h' hf' r' => hk .normal s' γ' β' a' w' h' hf' r'
  | seq x y ihx ihy =>
    intro hl s k kr z Q γ β a w h hf r hk hr
    refine wp_seq (ihx hl.1 s _ kr z _ γ β a w h hf r (fun o s' γ' β' a' w' h' hf' r' => ?_) fun r0 s' γ' β' a' w' h' he hf' r' => hr r0 s' γ' β' a' w' h' he hf' r')
    cases o with
    | normal => exact ihy hl.2 s' k kr z Q γ' β' a' w' h' hf' r' hk hr
    | exit i => exact hk (.exit i) s' γ' β' a' w' h' hf' r'
  | cond cnd x y ihx ihy =>
    intro hl s k kr z Q γ β a w h hf r hk hr
    simp only [exec] at h
    obtain ⟨t, ht, h⟩ := Option.bind_eq_some_iff.1 h
    have hev := Rd.run_ev s _ ht
    have hb := opdBool_ok (X := ⟨B0, γ, β, s, a, w⟩) r (fun q => by
      show (s.ent q).b = true ↔ Holds a (s.ent q).g
      rw [(hf.ent q).1, (hf.ent q).2]
      exact ⟨(fun _ p hp => by cases hp), fun _ => rfl⟩) (fun p hp => by cases hp) hev
    refine wp_cond hb ?_
    cases ht1 : t.1 with
    | true => rw [ht1] at h; exact ihx hl.1 s k kr z Q γ β a w h hf r hk hr
    | false => rw [ht1] at h; exact ihy hl.2 s k kr z Q γ β a w h hf r hk hr
  | block id c ih =>
    intro hl s k kr z Q γ β a w h hf r hk hr
    have blk : exec E c s (fun o s' => match o with | .normal => k .normal s' | .exit i => bif Nat.beq i id then k .normal s' else k (.exit i) s') kr = some z → LoopsIn (LoopOK P E) c → (Code.block id c).wp P Q a w := by
      intro h hl
      refine wp_block (ih hl s _ kr z _ γ β a w h hf r (fun o s' γ' β' a' w' h' hf' r' => ?_) fun r0 s' γ' β' a' w' h' he hf' r' => hr r0 s' γ' β' a' w' h' he hf' r')
      cases o with
      | normal => exact hk .normal s' γ' β' a' w' h' hf' r'
      | exit i =>
        cases hb : Nat.beq i id with
        | true =>
          have e := Nat.eq_of_beq_eq_true hb
          subst e
          dsimp only at h'
          rw [hb] at h'
          show Exit.inBlock i Q (.exit i) a' w'
          simp only [Exit.inBlock, if_true]
          exact hk .normal s' γ' β' a' w' h' hf' r'
        | false =>
          dsimp only at h'
          rw [hb] at h'
          have hne : i ≠ id := fun e => by rw [e] at hb; simp at hb
          show Exit.inBlock id Q (.exit i) a' w'
          simp only [Exit.inBlock, if_neg hne]
          exact hk (.exit i) s' γ' β' a' w' h' hf' r'
    cases c with
    | loop body =>
      simp only [exec] at h
      obtain ⟨L, hL, h⟩ := Option.bind_eq_some_iff.1 h
      obtain ⟨x, hx, h⟩ := Option.bind_eq_some_iff.1 h
      obtain ⟨rr, hrr, h⟩ := Option.bind_eq_some_iff.1 h
      refine hl L hL w0 wr B0 s x rr γ β a w hx hrr hf r Q (fun y e γ' β' a' w' hf' r' => ?_) fun r0 e s' γ' β' a' w' he hf' r' => ?_
      · subst e; exact hk .normal (L.st y) γ' β' a' w' h hf' r'
      · subst e; exact hr r0 s' γ' β' a' w' h he hf' r'
    | skip => exact blk h hl
    | region _ _ _ => exact blk h hl
    | seq _ _ => exact blk h hl
    | cond _ _ _ => exact blk h hl
    | block _ _ => exact blk h hl
    | rangeFunc _ _ _ _ => exact blk h hl
    | exit _ => exact blk h hl
    | scope _ => exact blk h hl
    | label _ => exact blk h hl
    | goto _ => exact blk h hl
    | ret => exact blk h hl
    | refuse _ => exact blk h hl
  | exit id => intro hl s k kr z Q γ β a w h hf r hk hr; exact wp_exit (hk (.exit id) s γ β a w h hf r)
  | ret =>
    intro hl s k kr z Q γ β a w h hf r hk hr
    simp only [exec] at h
    obtain ⟨r0, h1, h2⟩ := Option.bind_eq_some_iff.1 h
    exact wp_ret (hr r0 s γ β a w h2 h1 hf r)
  | loop _ _ => intro hl s k kr z Q γ β a w h; cases h
  | rangeFunc _ _ _ _ _ _ => intro hl s k kr z Q γ β a w h; cases h
  | scope _ _ => intro hl s k kr z Q γ β a w h; cases h
  | label _ => intro hl s k kr z Q γ β a w h; cases h
  | goto _ => intro hl s k kr z Q γ β a w h; cases h
  | refuse _ => intro hl s k kr z Q γ β a w h; cases h

theorem loop_ok {R : Type} {E : Env R} (K : TabsOK P E.T E.ρ) (hm : P.follows .mixedOrders = true) {id : Nat} {body : Code} {ks : List KeyTy} {cs : Clos} {B : Dens (tysOf ks) → Option (Round (Dens (tysOf ks)) R)} {n : Nat}
    (hlp : E.lp id = some (keyLoop ks cs fun x => iter B n x)) (hB : ∀ x, roundK E id (keyLoop ks cs fun x => iter B n x) body x = B x) (hin : LoopsIn (LoopOK P E) body) : LoopOK P E id body := by
  intro L hL w0 wr B0 s x r γ β a w hdec hf hflat hrel Q hQ1 hQ2
  rw [hlp] at hL
  cases hL
  have hit : iter B n x = some r := hf
  refine wp_block (wp_loop_rounds n ?_)
  clear hf
  -- round by round
  generalize n = m at hit
  induction m generalizing s x γ β a w with
  | zero => cases hit
  | succ m ih =>
    simp only [iter] at hit
    obtain ⟨rd, hrd, hit⟩ := Option.bind_eq_some_iff.1 hit
    obtain ⟨hfl, γ1, r1⟩ := dec_rel hdec hflat hrel
    rw [← hB] at hrd
    unfold roundK at hrd
    rw [rounds_succ]
    refine exec_ok K hm body hin _ _ _ rd _ γ1 β a w hrd hfl r1 (fun o s' γ' β' a' w' h' hf' r' => ?_) fun r0 s' γ' β' a' w' h' he hf' r' => ?_
    · cases o with
      | normal =>
        obtain ⟨y, hy, h2⟩ := Option.bind_eq_some_iff.1 h'
        cases h2
        exact ih s' γ' β' a' w' hf' r' y hy hit
      | exit i =>
        dsimp only at h'
        cases hb : Nat.beq i id with
        | false => rw [hb] at h'; cases h'
        | true =>
          have e := Nat.eq_of_beq_eq_true hb
          subst e
          rw [hb] at h'
          obtain ⟨y, hy, h2⟩ := Option.bind_eq_some_iff.1 h'
          cases h2
          cases hit
          obtain ⟨hfl2, γ2, r2⟩ := dec_rel hy hf' r'
          show Exit.then _ (Exit.inBlock i Q) (.exit i) a' w'
          simp only [Exit.then, Exit.inBlock, if_true]
          exact hQ1 y rfl γ2 β' a' w' hfl2 r2
    · cases h'
      cases hit
      exact hQ2 r0 rfl s' γ' β' a' w' he hf' r'

end
end Go.AM

/- A function keeps its contract. -/
namespace Go.AM

/-! ### The start -/
theorem parSlots_mem : ∀ (ts : List Ty) (ls : List (List CV)) (mv : List (List (Option Bool))) (i0 k : Nat) (v : SV), (k, v) ∈ parSlots i0 ts ls mv →
    ∃ i t l, k = i0 + i ∧ ts[i]? = some t ∧ ls[i]? = some l ∧ v = .val t.isAgg (tagZip l (parTags (mv.getD i []) l.length)) := by
  intro ts
  induction ts with
  | nil => intro ls mv i0 k v h; cases ls <;> cases h
  | cons t ts ih =>
    intro ls mv i0 k v h
    cases ls with
    | nil => cases h
    | cons l ls =>
      simp only [parSlots] at h
      rcases List.mem_cons.1 h with h | h
      · cases h; exact ⟨0, t, l, rfl, rfl, rfl, by cases mv <;> rfl⟩
      · obtain ⟨i, t', l', h1, h2, h3, h4⟩ := ih ls mv.tail (i0 + 1) k v h
        refine ⟨i + 1, t', l', by omega, by simpa using h2, by simpa using h3, ?_⟩
        rw [h4]
        cases mv <;> simp
theorem capSlots_mem : ∀ (ls : List (List CV)) (i0 k : Nat) (v : SV), (k, v) ∈ capSlots i0 ls → ∃ i l, k = i0 + i ∧ ls[i]? = some l ∧ v = .es true (tagAll .ps l) := by
  intro ls
  induction ls with
  | nil => intro i0 k v h; cases h
  | cons l ls ih =>
    intro i0 k v h
    simp only [capSlots] at h
    rcases List.mem_cons.1 h with h | h
    · cases h; exact ⟨0, l, rfl, rfl, rfl⟩
    · obtain ⟨i, l', h1, h2, h3⟩ := ih (i0 + 1) k v h
      exact ⟨i + 1, l', by omega, by simpa using h2, h3⟩

section
variable {P : Program}

def startCx (w : World) (γ : Gh) (F : Fun) (xs : Dens (F.ptys ++ F.ctys)) (args : Array Value) (nt : Nat) : Cx :=
  ⟨w.heap.size, γ, fun _ => 0, startOf F.ptys F.pmv F.ctys xs, { tmps := args ++ Array.replicate (nt - args.size) undef, defers := [] }, w⟩
theorem start_ent {F : Fun} (xs : Dens (F.ptys ++ F.ctys)) (k : Nat) : ∃ v, (startOf F.ptys F.pmv F.ctys xs).ent k = ⟨[], true, v⟩ ∧ (v = .un ∨
    (∃ t l, F.ptys[k]? = some t ∧ (splitRes (F.ptys ++ F.ctys) xs)[k]? = some l ∧ v = .val t.isAgg (tagZip l (parTags (F.pmv.getD k []) l.length))) ∨
    ∃ i l, k = F.ptys.length + i ∧ i < F.ctys.length ∧ (splitRes (F.ptys ++ F.ctys) xs)[F.ptys.length + i]? = some l ∧ v = .es true (tagAll .ps l)) := by
  simp only [St.ent, startOf, getA]
  cases hg : getA (parSlots 0 F.ptys (splitRes (F.ptys ++ F.ctys) xs) F.pmv ++ capSlots F.ptys.length ((splitRes (F.ptys ++ F.ctys) xs).drop F.ptys.length)) k with
  | none => exact ⟨.un, rfl, .inl rfl⟩
  | some v =>
    refine ⟨v, rfl, .inr ?_⟩
    rcases List.mem_append.1 (getA_mem hg) with h | h
    · obtain ⟨i, t, l, h1, h2, h3, h4⟩ := parSlots_mem _ _ _ _ _ _ h
      rw [Nat.zero_add] at h1
      subst h1
      exact .inl ⟨t, l, h2, h3, h4⟩
    · obtain ⟨i, l, h1, h2, h3⟩ := capSlots_mem _ _ _ _ h
      rw [List.getElem?_drop] at h2
      have hlt := (List.getElem?_eq_some_iff.1 h2).1
      rw [splitRes_length, List.length_append] at hlt
      exact .inr ⟨i, l, h1, by omega, h2, h3⟩
theorem start_rel {w : World} {γ : Gh} {args : Array Value} {F : Fun} {xs : Dens (F.ptys ++ F.ctys)} {nt : Nat} (hlim : ∀ b, w.heap.size ≤ b → γ b = .none) (hA : ArgsOK w γ args F xs) (hn : F.ptys.length + F.ctys.length ≤ nt) :
    Flat (startOf F.ptys F.pmv F.ctys xs) ∧ Rel w γ nt (startCx w γ F xs args nt) := by
  have hsz : args.size ≤ nt := by rw [hA.size]; exact hn
  have htmp : ∀ k v, args[k]? = some v → tmpAt (startCx w γ F xs args nt).a k = v := by
    intro k v h
    have hlt := (Array.getElem?_eq_some_iff.1 h).1
    simp only [tmpAt, startCx, Array.getD_eq_getD_getElem?]
    rw [Array.getElem?_append_left hlt, h]; rfl
  refine ⟨⟨rfl, fun h c τ hr => ?_⟩, ⟨fun k => ?_, (fun k l h => by cases h), hlim, Nat.le_refl _, fun b hb hn' => ⟨rfl, ?_⟩, ⟨rfl, rfl, rfl⟩, rfl, ?_⟩⟩
  · obtain ⟨k, hk⟩ := hr
    obtain ⟨v, h1, h2⟩ := start_ent xs k
    rw [h1] at hk
    rcases h2 with rfl | ⟨t, l, _, _, rfl⟩ | ⟨i, l, _, _, _, rfl⟩
    · rcases hk with ⟨_, _, _, e, _⟩ | ⟨_, _, _, e⟩ | ⟨_, _, _, e⟩ | ⟨_, _, _, e, _⟩ <;> cases e
    · rcases hk with ⟨_, _, _, e, hin⟩ | ⟨_, _, _, e⟩ | ⟨_, _, _, e⟩ | ⟨_, _, _, e, _⟩
      · cases e; obtain ⟨_, _, e⟩ := tagZip_at _ hin; cases e
      · cases e
      · cases e
      · cases e
    · rcases hk with ⟨_, _, _, e, _⟩ | ⟨_, _, _, e⟩ | ⟨_, _, _, e⟩ | ⟨_, _, _, e, _⟩ <;> cases e
  · obtain ⟨v, h1, h2⟩ := start_ent xs k
    show EntOK _ k ((startOf F.ptys F.pmv F.ctys xs).ent k)
    rw [h1]
    refine ⟨fun _ => ?_, fun e => by cases e⟩
    show SVOK _ k _ v
    rcases h2 with rfl | ⟨t, l, e1, e2, rfl⟩ | ⟨i, l, rfl, e1, e2, rfl⟩
    · trivial
    · obtain ⟨y, a1, a2, a3⟩ := hA.par k t l e1 e2
      rw [htmp k y a1]
      obtain ⟨z, hz⟩ := splitRes_get xs k (t := t) (by rw [List.getElem?_append_left ((List.getElem?_eq_some_iff.1 e1).1)]; exact e1) e2
      refine ⟨a2, AtsOK.cells (X := startCx w γ F xs args nt) a3, by rw [tagZip_len, hz, unpack_len]; exact size_le t⟩
    · obtain ⟨b, a1, a2, a3, a4⟩ := hA.cap i l e1 e2
      rw [htmp _ _ a1]
      refine ⟨b, 0, rfl, a2, a3, fun x hx => ?_, fun j x hj => ?_⟩
      · obtain ⟨c, _, rfl⟩ := List.mem_map.1 hx
        cases c <;> rfl
      · obtain ⟨y, cv, t, rfl, hy, hat⟩ := a4 j x hj
        refine ⟨y, by rw [Nat.zero_add]; exact hy, ?_⟩
        rw [tagAll_get] at hj
        cases hc : l[j]? with
        | none => rw [hc] at hj; cases hj
        | some c =>
          rw [hc] at hj
          cases hj
          cases cv with
          | int n m => exact hat
          | bool b => exact hat
          | str s => exact hat
          | sl u zs => exact hat
  · rcases hn' with h | h
    · exact .inl ⟨h, h⟩
    · exact .inr ⟨h, h, fun e => e⟩
  · simp only [startCx, Array.size_append, Array.size_replicate]; omega

/-! ### The end -/
def homeKey (k c : Nat) : Key := bif Nat.ble 64 c then Key.box k else Key.slot k
def homeCell (c : Nat) : Nat := bif Nat.ble 64 c then c - 64 else c
def isOwn : Option Tag → Bool
  | some (.own _ _) => true
  | _ => false
/-- Which result's cell lies at a home that is still owned. -/
def wantAt (ks : List Key) (tags : List (List Tag)) (k c : Nat) : Option Nat :=
  bif decide (ks.idxOf (homeKey k c) < ks.length) && isOwn (tags.getD (ks.idxOf (homeKey k c)) [])[homeCell c]? then some (16 * ks.idxOf (homeKey k c) + homeCell c) else none
def endOw (ks : List Key) (tags : List (List Tag)) : Ow → Ow
  | .tp k c => match wantAt ks tags k c with | some n => .tp 0 n | none => .none
  | .ns k c => match wantAt ks tags k c with | some n => .ns 0 n | none => .none
  | .bx _ => .none
  | .fo => .fo
  | .none => .none
theorem end_sh {ks : List Key} {tags : List (List Tag)} {γ : Gh} {b : Nat} (h : okSh γ b) : okSh (fun b => endOw ks tags (γ b)) b := by
  rcases h with h | ⟨k, c, h⟩
  · left; simp only [h, endOw]
  · unfold okSh
    simp only [h, endOw]
    cases wantAt ks tags k c with
    | none => exact .inl rfl
    | some n => exact .inr ⟨_, _, rfl⟩
theorem end_at {B0 : Nat} {γ : Gh} {w : World} {ks : List Key} {tags : List (List Tag)} {k c n : Nat} {y : Value} {v : CV} {t t' : Tag} (h : AtOK B0 γ w k c y v t) (hok : v.isSl = true → okTag t t' = true) (hnp : v.isSl = true → (∃ d st, t' = .own d st) ∨ t' = .sh)
    (h1 : ∀ d st, t' = .own d st → wantAt ks tags k c = some n) (h2 : t' = .sh → wantAt ks tags k c = none) : AtOK 0 (fun b => endOw ks tags (γ b)) w 0 n y v t' := by
  cases v with
  | int n m => exact h
  | bool b => exact h
  | str s => exact h
  | sl u xs =>
    have hok := hok rfl
    rcases hnp rfl with ⟨d, st, rfl⟩ | rfl
    · cases t with
      | own e st' =>
        have hw := h1 d st rfl
        have h3 : OwnS w (fun b => endOw ks tags (γ b)) 0 n e y u xs := OwnS.move h (fun b _ q => end_sh q) (fun b q => by simp only [q, endOw, hw]) (fun b q => by simp only [q, endOw, hw])
        cases d with
        | false => exact h3.weaken
        | true =>
          simp only [okTag, Bool.not_true, Bool.false_or] at hok
          subst hok
          exact h3
      | _ => cases hok
    · cases t with
      | ps => exact Rep.mono (fun b _ q => ⟨end_sh q.2, rfl⟩) h
      | sh => exact Rep.mono (fun b _ q => ⟨end_sh q, rfl⟩) h
      | own d st =>
        refine Rep.mono (fun b _ q => ⟨?_, rfl⟩) (OwnS.rep h)
        rcases q with q | q
        · left; simp only [q, endOw, h2 rfl]
        · exact end_sh q
      | dead => cases hok

/-- Results that lie in variables: their types. -/
def resCells (T : Tab) : List ResultVar → List Ty → Bool
  | .cell _ ti :: rs, t :: ts => decide (T.ty ti = some t) && resCells T rs ts
  | .tmp _ :: rs, _ :: ts => resCells T rs ts
  | [], [] => true
  | _, _ => false

def resVal (a : Act) (_ : World) : ResultVar → Sem Value
  | .tmp t => pure (a.tmps.getD t undef)
  | .cell x t => do loadVar t (← asAddr (a.tmps.getD x undef))

theorem dec_res {T : Tab} (hT : TabOK P T) {w0 : World} {wr : Gh} {nt : Nat} {B0 : Nat} {γ : Gh} {β : Nat → Nat} {s : St} {a : Act} {w : World} (r : Rel w0 wr nt ⟨B0, γ, β, s, a, w⟩) (hf : Flat s) {v : ResultVar} {t : Ty} {tags : List Tag} {l : List CV}
    (h : decKey s (keyOfRes v) t.isAgg tags = some l) (hty : ∀ x ti, v = .cell x ti → T.ty ti = some t) (hl : l.length = t.size) :
    ∃ u k c0 l0, (resVal a w v).run P w = .ok u w ∧ shapeOK u t.isAgg ∧ u.cells.size = l.length ∧ okTags l0 tags = true ∧ l = l0.map CT.cv ∧ ((c0 = 0 ∧ keyOfRes v = .slot k) ∨ (c0 = 64 ∧ keyOfRes v = .box k)) ∧
      ∀ j x, l0[j]? = some x → ∃ y cv tg, x = .at cv tg ∧ u.cells[j]? = some y ∧ AtOK B0 γ w k (c0 + j) y cv tg := by
  have ats : ∀ {l0 : List CT}, okTags l0 tags = true → ∀ x ∈ l0, ∃ cv tg, x = .at cv tg := by
    intro l0
    clear h
    induction l0 generalizing tags with
    | nil => intro _ x hx; cases hx
    | cons y l0 ih =>
      intro ho x hx
      cases y with
      | ref => cases ho
      | «at» cv tg =>
        rcases List.mem_cons.1 hx with rfl | hx
        · exact ⟨cv, tg, rfl⟩
        · simp only [okTags, Bool.and_eq_true] at ho
          exact ih ho.2 x hx
  cases v with
  | tmp k =>
    obtain ⟨l0, e1, e2, rfl⟩ := decKey_slot h
    have hold : SVOK ⟨B0, γ, β, s, a, w⟩ k (tmpAt a k) (s.ent k).v := (r.ent k).1 (hf.ent k).2
    rw [e1] at hold
    obtain ⟨g1, g2, g3⟩ := hold
    refine ⟨tmpAt a k, k, 0, l0, rfl, g1, by rw [List.length_map]; exact g2.1, e2, rfl, .inl ⟨rfl, rfl⟩, fun j x hj => ?_⟩
    obtain ⟨cv, tg, rfl⟩ := ats e2 x (List.mem_of_getElem? hj)
    obtain ⟨y, hy, ho⟩ := g2.2 j _ hj
    exact ⟨y, cv, tg, rfl, hy, ho⟩
  | cell k ti =>
    obtain ⟨e0, l0, e1, e2, rfl⟩ := decKey_box h
    have hold : SVOK ⟨B0, γ, β, s, a, w⟩ k (tmpAt a k) (s.ent k).v := (r.ent k).1 (hf.ent k).2
    rw [e0] at hold
    obtain ⟨arr, E, g1, g2, g3⟩ := (r.box k l0 e1).ats
    have hti := hty k ti rfl
    obtain ⟨inf, hi, hz, _⟩ := (hT ti t hti).info
    have hasz : arr.toList.length = t.size := by rw [Array.length_toList, g3.1, ← hl, List.length_map]
    have hptr : a.tmps.getD k undef = .pointer (some ⟨β k, 0, none⟩) := hold.1
    have hcell : ∀ j y, arr.toList[j]? = some y → w.cell? ⟨β k, 0 + j, none⟩ = some y := fun j y hj => by
      rw [Nat.zero_add]
      have := cell_of_cells (w := w) (b := β k) g1 j
      rw [this, ← Array.getElem?_toList]; exact hj
    refine ⟨ofCells t arr.toList, k, 64, l0, ?_, ?_, ?_, e2, rfl, .inr ⟨rfl, rfl⟩, fun j x hj => ?_⟩
    · cases ha : t.isAgg with
      | true =>
        have hlc := run_loadCells_list (P := P) w ⟨β k, 0, none⟩ arr.toList (fun j v hj => by rw [Addr.add_lit]; exact hcell j v hj)
        rw [hasz] at hlc
        simp [resVal, hptr, asAddr, loadVar, isAgg_run hT hti, ha, sizeOf, typeInfo, hi, hz, hlc, ofCells]
      | false =>
        have h1 : t.size = 1 := by cases t <;> first | rfl | cases ha
        obtain ⟨y, hy⟩ : ∃ y, arr.toList[0]? = some y := ⟨_, List.getElem?_eq_getElem (by omega)⟩
        have hc := hcell 0 y hy
        rw [Nat.add_zero] at hc
        simp only [resVal, hptr, asAddr, loadVar, Sem.run_bind, Sem.run_pure, Result.andThen_ok, isAgg_run hT hti, ha, Bool.false_eq_true, if_false, ofCells, List.getD_eq_getElem?_getD, hy, Option.getD_some]
        simp [hc]
    · unfold shapeOK ofCells
      cases ha : t.isAgg with
      | true => simp
      | false =>
        have h1 : t.size = 1 := by cases t <;> first | rfl | cases ha
        obtain ⟨x, hx⟩ : ∃ x, l0[0]? = some x := ⟨_, List.getElem?_eq_getElem (by rw [List.length_map] at hl; omega)⟩
        obtain ⟨y, cv, tg, _, hy, hat⟩ := g3.2 0 x hx
        have hy' : arr.toList[0]? = some y := by rw [Array.getElem?_toList]; exact hy
        simp only [Bool.false_eq_true, if_false, List.getD_eq_getElem?_getD, hy', Option.getD_some]
        exact hat.isSingle
    · unfold ofCells
      cases ha : t.isAgg with
      | true => simp only [if_true]; show arr.toList.toArray.size = _; rw [List.size_toArray, hasz, hl]
      | false =>
        have h1 : t.size = 1 := by cases t <;> first | rfl | cases ha
        obtain ⟨x, hx⟩ : ∃ x, l0[0]? = some x := ⟨_, List.getElem?_eq_getElem (by rw [List.length_map] at hl; omega)⟩
        obtain ⟨y, cv, tg, _, hy, hat⟩ := g3.2 0 x hx
        have hy' : arr.toList[0]? = some y := by rw [Array.getElem?_toList]; exact hy
        simp only [Bool.false_eq_true, if_false, List.getD_eq_getElem?_getD, hy', Option.getD_some]
        rw [single_cells hat.isSingle, hl, h1]; rfl
    · obtain ⟨y, cv, tg, e, hy, hat⟩ := g3.2 j x hj
      refine ⟨y, cv, tg, e, ?_, hat⟩
      unfold ofCells
      cases ha : t.isAgg with
      | true => simp only [if_true]; show arr.toList.toArray[j]? = _; rw [List.getElem?_toArray, Array.getElem?_toList]; exact hy
      | false =>
        have h1 : t.size = 1 := by cases t <;> first | rfl | cases ha
        have hj0 : j = 0 := by have := (List.getElem?_eq_some_iff.1 hj).1; rw [List.length_map] at hl; omega
        subst hj0
        have hy' : arr.toList[0]? = some y := by rw [Array.getElem?_toList]; exact hy
        simp only [Bool.false_eq_true, if_false, List.getD_eq_getElem?_getD, hy', Option.getD_some]
        rw [single_cells hat.isSingle]; rfl

end
end Go.AM

/- A function keeps its contract, whole. -/
namespace Go.AM
section
variable {P : Program}

theorem nodupK_spec : ∀ {l : List Key}, nodupK l = true → l.Nodup := by
  intro l
  induction l with
  | nil => intro _; exact List.nodup_nil
  | cons x l ih =>
    intro h
    simp only [nodupK, Bool.and_eq_true, Bool.not_eq_true'] at h
    refine List.nodup_cons.2 ⟨fun hm => ?_, ih h.2⟩
    rw [List.elem_eq_true_of_mem hm] at h
    cases h.1
theorem decKeys_get {s : St} : ∀ {L : List (Key × Bool × List Tag)} {ls : List (List CV)}, decKeys s L = some ls → ls.length = L.length ∧ ∀ (i : Nat) q l, L[i]? = some q → ls[i]? = some l → decKey s q.1 q.2.1 q.2.2 = some l := by
  intro L
  induction L with
  | nil => intro ls h; cases h; exact ⟨rfl, fun i q l h => by simp at h⟩
  | cons q L ih =>
    intro ls h
    simp only [decKeys] at h
    obtain ⟨x, hx, h⟩ := Option.bind_eq_some_iff.1 h
    obtain ⟨y, hy, h⟩ := Option.bind_eq_some_iff.1 h
    cases h
    obtain ⟨i1, i2⟩ := ih hy
    refine ⟨by simp [i1], fun i q' l' h1 h2 => ?_⟩
    cases i with
    | zero => simp at h1 h2; subst h1; subst h2; exact hx
    | succ i => exact i2 i q' l' (by simpa using h1) (by simpa using h2)
theorem resCells_len {T : Tab} : ∀ {rs : List ResultVar} {ts : List Ty}, resCells T rs ts = true → rs.length = ts.length ∧ ∀ (i : Nat) x ti t, rs[i]? = some (.cell x ti) → ts[i]? = some t → T.ty ti = some t := by
  intro rs
  induction rs with
  | nil =>
    intro ts h
    cases ts with
    | nil => exact ⟨rfl, fun i x ti t h => by simp at h⟩
    | cons t ts => cases h
  | cons v rs ih =>
    intro ts h
    cases ts with
    | nil => cases v <;> cases h
    | cons t ts =>
      cases v with
      | tmp k =>
        obtain ⟨i1, i2⟩ := ih (ts := ts) h
        refine ⟨by simp [i1], fun i x ti t' h1 h2 => ?_⟩
        cases i with
        | zero => simp at h1
        | succ i => exact i2 i x ti t' (by simpa using h1) (by simpa using h2)
      | cell k ti0 =>
        simp only [resCells, Bool.and_eq_true, decide_eq_true_eq] at h
        obtain ⟨i1, i2⟩ := ih h.2
        refine ⟨by simp [i1], fun i x ti t' h1 h2 => ?_⟩
        cases i with
        | zero => simp at h1 h2; rw [← h1.2, ← h2]; exact h.1
        | succ i => exact i2 i x ti t' (by simpa using h1) (by simpa using h2)

theorem mapM_run {a : Act} {w : World} : ∀ (rs : List ResultVar) (Φ : Nat → Value → Prop), (∀ (i : Nat) v, rs[i]? = some v → ∃ u, (resVal a w v).run P w = .ok u w ∧ Φ i u) →
    ∃ us : List Value, us.length = rs.length ∧ (rs.mapM (resVal a w)).run P w = .ok us w ∧ ∀ (i : Nat) u, us[i]? = some u → Φ i u := by
  intro rs
  induction rs with
  | nil => intro Φ _; exact ⟨[], rfl, by simp, fun i u h => by simp at h⟩
  | cons v rs ih =>
    intro Φ h
    obtain ⟨u, hu, hΦ⟩ := h 0 v rfl
    obtain ⟨us, h1, h2, h3⟩ := ih (fun i => Φ (i + 1)) fun i v' hv => h (i + 1) v' (by simpa using hv)
    refine ⟨u :: us, by simp [h1], ?_, fun i u' hi => ?_⟩
    · rw [List.mapM_cons]
      simp [hu, h2]
    · cases i with
      | zero => simp at hi; subst hi; exact hΦ
      | succ i => exact h3 i u' (by simpa using hi)

theorem run_results {a : Act} {w : World} {fn : Func} {us : List Value} (h : (fn.results.toList.mapM (resVal a w)).run P w = .ok us w) : (results fn a.tmps).run P w = .ok (match us with | [u] => u | us => .tuple us.toArray) w := by
  have e : (results fn a.tmps) = (fn.results.mapM (resVal a w) >>= fun vs => pure (if h : vs.size = 1 then vs[0] else .tuple vs)) := by
    unfold results
    congr 1
  rw [e, Array.mapM_eq_mapM_toList]
  simp only [Sem.run_bind]
  have : (List.toArray <$> fn.results.toList.mapM (resVal a w)).run P w = .ok us.toArray w := by
    simp [h]
  rw [this]
  simp only [Result.andThen_ok, Sem.run_pure]
  match us with
  | [] => rfl
  | [u] => rfl
  | u :: v :: us => simp

/-- What has to be known of a function. -/
structure FunIn (P : Program) {F : Fun} (E : Env (Dens F.rtys)) (f : FuncId) (c : Code) (rs : List ResultVar) : Prop where
  fn : ∃ fn, P.funcs[f]? = some fn ∧ fn.body = some c ∧ (fn.name == "runtime.NumGoroutine") = false ∧ fn.ntmps = E.nt ∧ fn.results.toList = rs
  pars : F.ptys.length + F.ctys.length ≤ E.nt
  ret : E.ret = retOf rs F.rtys F.rtags
  cells : resCells E.T rs F.rtys = true
  keys : nodupK (rs.map keyOfRes) = true
  tags : resTagsOk F.rtys F.rtags = true
  len : F.rtags.length = F.rtys.length

theorem ret_ok {F : Fun} {E : Env (Dens F.rtys)} {f : FuncId} {c : Code} {rs : List ResultVar} (H : FunIn P E f c rs) (hT : TabOK P E.T) {w0 : World} {γ0 : Gh} {s : St} {γ : Gh} {β : Nat → Nat} {a : Act} {w : World} {x : Dens F.rtys} {fn : Func} (hfr : fn.results.toList = rs)
    (hret : E.ret s = some x) (hf : Flat s) (r : Rel w0 γ0 E.nt ⟨w0.heap.size, γ, β, s, a, w⟩) :
    ∃ v, (results fn a.tmps).run P w = .ok v w ∧ ResOK w0 w γ0 (fun b => endOw (rs.map keyOfRes) F.rtags (γ b)) v (resTup F.rtys F.rtags x) := by
  rw [H.ret] at hret
  obtain ⟨ls, hls, hx⟩ := Option.bind_eq_some_iff.1 hret
  have hsp := mkArgs_split hx
  obtain ⟨d1, d2⟩ := decKeys_get hls
  obtain ⟨n1, n2⟩ := resCells_len H.cells
  have hnd := nodupK_spec H.keys
  obtain ⟨us, u1, u2, u3⟩ := mapM_run (P := P) (a := a) (w := w) rs (fun i u => ∀ p, (resTup F.rtys F.rtags x)[i]? = some p → shapeOK u p.1 ∧ AtsOK 0 (fun b => endOw (rs.map keyOfRes) F.rtags (γ b)) w 0 (16 * i) u.cells p.2) (fun i v hv => by
    have hi : i < F.rtys.length := by rw [← n1]; exact (List.getElem?_eq_some_iff.1 hv).1
    obtain ⟨t, ht⟩ : ∃ t, F.rtys[i]? = some t := ⟨_, List.getElem?_eq_getElem hi⟩
    obtain ⟨tg, htg⟩ : ∃ tg, F.rtags[i]? = some tg := ⟨_, List.getElem?_eq_getElem (by rw [H.len]; exact hi)⟩
    obtain ⟨l, hl⟩ : ∃ l, ls[i]? = some l := ⟨_, List.getElem?_eq_getElem (by rw [← hsp, splitRes_length]; exact hi)⟩
    have hz : ((rs.map keyOfRes).zip ((F.rtys.map Ty.isAgg).zip F.rtags))[i]? = some (keyOfRes v, t.isAgg, tg) :=
      List.getElem?_zip_eq_some.2 ⟨by rw [List.getElem?_map, hv]; rfl, List.getElem?_zip_eq_some.2 ⟨by rw [List.getElem?_map, ht]; rfl, htg⟩⟩
    have hdk := d2 i _ l hz hl
    rw [← hsp] at hl
    obtain ⟨yv, rfl⟩ := splitRes_get x i ht hl
    obtain ⟨u, k, c0, l0, q1, q2, q3, q4, q5, q6, q7⟩ := dec_res hT r hf hdk (fun z ti e => n2 i z ti t (by rw [hv, e]) ht) (unpack_len _ _)
    refine ⟨u, q1, fun p hp => ?_⟩
    obtain ⟨t', l', tg', e1, e2, e3, rfl⟩ := resTup_get H.len hp
    rw [ht] at e1; cases e1
    rw [hl] at e2; cases e2
    rw [htg] at e3; cases e3
    refine ⟨q2, by rw [tagZip_len]; exact q3, fun j x' hj => ?_⟩
    have hj' := hj
    rw [q5] at hj
    obtain ⟨cv, t0, t1, k1, rfl, k3⟩ := (okTags_conv q4).2 j x' hj
    obtain ⟨y, cv', tg0, e4, hy, hat⟩ := q7 j _ k1
    cases e4
    refine ⟨y, cv, t1, rfl, hy, ?_⟩
    have hnp : cv.isSl = true → (∃ d st, t1 = .own d st) ∨ t1 = .sh := fun hs => resTup_tag H.tags H.len hp hj' hs
    have hjl : j < 16 := by
      have h1 := (List.getElem?_eq_some_iff.1 k1).1
      have h2 : l0.length = t.size := by rw [← List.length_map (f := CT.cv), ← q5, unpack_len]
      have := size_le t; omega
    have hkey : homeKey k (c0 + j) = keyOfRes v := by
      unfold homeKey
      rcases q6 with ⟨rfl, e⟩ | ⟨rfl, e⟩
      · cases hb : Nat.ble 64 (0 + j) with
        | true => have := (ble_iff _ _).1 hb; omega
        | false => exact e.symm
      · rw [(ble_iff 64 (64 + j)).2 (by omega)]; exact e.symm
    have hjj : homeCell (c0 + j) = j := by
      unfold homeCell
      rcases q6 with ⟨rfl, e⟩ | ⟨rfl, e⟩
      · cases hb : Nat.ble 64 (0 + j) with
        | true => have := (ble_iff _ _).1 hb; omega
        | false => simp
      · rw [(ble_iff 64 (64 + j)).2 (by omega)]; simp
    have hkl : i < (rs.map keyOfRes).length := by rw [List.length_map, n1]; exact hi
    have hki : (rs.map keyOfRes)[i] = keyOfRes v := by
      have : (rs.map keyOfRes)[i]? = some (keyOfRes v) := by rw [List.getElem?_map, hv]; rfl
      rw [List.getElem?_eq_getElem hkl] at this
      exact Option.some.inj this
    have hidx : (rs.map keyOfRes).idxOf (keyOfRes v) = i := by rw [← hki]; exact List.Nodup.idxOf_getElem hnd i hkl
    have htgi : F.rtags.getD i [] = tg := by rw [List.getD_eq_getElem?_getD, htg]; rfl
    have hzip : cv.isSl = true → tg[j]? = some t1 := by
      intro hs
      rw [tagZip_get] at hj'
      cases hc : (unpack t yv)[j]? with
      | none => rw [hc] at hj'; cases hj'
      | some c =>
        rw [hc, Option.map_some] at hj'
        cases htj : tg[j]? with
        | none =>
          rw [htj] at hj'
          simp only at hj'
          injection hj' with hj'
          injection hj' with _ e6
          rcases hnp hs with ⟨d, st, e7⟩ | e7 <;> rw [e7] at e6 <;> cases e6
        | some t2 =>
          rw [htj] at hj'
          simp only at hj'
          injection hj' with hj'
          injection hj' with e5 e6
          subst e5
          rw [hs] at e6
          simp only [cond_true] at e6
          rw [e6]
    by_cases hs : cv.isSl = true
    · refine end_at hat k3 hnp (fun d st e => ?_) (fun e => ?_)
      · unfold wantAt
        rw [hkey, hjj, hidx, htgi, hzip hs, e]
        have hkl' : i < rs.length := by simpa using hkl
        simp [hkl', isOwn]
      · unfold wantAt
        rw [hkey, hjj, hidx, htgi, hzip hs, e]
        simp [isOwn]
    · cases cv with
      | sl u xs => exact absurd rfl hs
      | int n m => exact hat
      | bool b => exact hat
      | str s => exact hat)
  have hrun := run_results (fn := fn) (by rw [hfr]; exact u2)
  have hlen : us.length = (resTup F.rtys F.rtags x).length := by rw [u1, n1, resTup_len H.len]
  refine ⟨_, hrun, r.le, fun b hb => ?_, fun b hb hn => ?_, r.rest, ?_⟩
  · have : γ b = .none := r.lim b hb
    simp only [this, endOw]
  · obtain ⟨h1, h2⟩ := r.old b hb hn
    exact ⟨h1, h2.map (fun e => by have e' : γ b = .fo := e; simp only [e', endOw]) (fun e => by have e' : γ b = .none := e; simp only [e', endOw]) (fun e => end_sh e)⟩
  · unfold ResVal
    match hr : resTup F.rtys F.rtags x, us, hlen, u3 with
    | [], us, hlen, u3 =>
      have : us = [] := List.eq_nil_of_length_eq_zero (by simpa using hlen)
      subst this
      exact ⟨#[], rfl, rfl, fun i p hp => by simp at hp⟩
    | [p], [u], _, u3 => exact u3 0 u rfl p rfl
    | p :: q :: L, u :: u' :: us, hlen, u3 =>
      refine ⟨(u :: u' :: us).toArray, rfl, by simpa using hlen, fun i p' hp => ?_⟩
      obtain ⟨u0, hu0⟩ : ∃ u0, (u :: u' :: us)[i]? = some u0 := ⟨_, List.getElem?_eq_getElem (by rw [hlen]; exact (List.getElem?_eq_some_iff.1 hp).1)⟩
      exact ⟨u0, by rw [List.getElem?_toArray]; exact hu0, u3 i u0 hu0 p' hp⟩

/-- The theorem: what the machine computes of the code, the function does. -/
theorem fun_ok {F : Fun} {E : Env (Dens F.rtys)} {f : FuncId} {c : Code} {rs : List ResultVar} (H : FunIn P E f c rs) (K : TabsOK P E.T E.ρ) (hm : P.follows .mixedOrders = true) (hin : LoopsIn (LoopOK P E) c)
    (hrun : ∀ xs, runF E c (startOf F.ptys F.pmv F.ctys xs) = F.f xs) : FOK P f F := by
  obtain ⟨fn, h1, h2, h3, h4, h5⟩ := H.fn
  refine ⟨H.tags, H.len, ⟨fn, h1, by rw [h2]; rfl, h3⟩, fun w γ args xs r hlim hA hF => ?_⟩
  obtain ⟨hfl, hrel⟩ := start_rel (nt := E.nt) hlim hA H.pars
  refine calls_of_wp h1 h2 ?_
  rw [h4]
  have hex := hrun xs
  rw [hF] at hex
  unfold runF at hex
  have fin : ∀ s' γ' β' a' w', E.ret s' = some r → Flat s' → Rel w γ E.nt ⟨w.heap.size, γ', β', s', a', w'⟩ →
      a'.defers = [] ∧ ∃ v, (results fn a'.tmps).run P w' = .ok v w' ∧ ∃ v' γ'', Ending.returned v = .returned v' ∧ ResOK w w' γ γ'' v' (resTup F.rtys F.rtags r) := by
    intro s' γ' β' a' w' hr hf' r'
    obtain ⟨v, hv, hR⟩ := ret_ok H K.tab h5 hr hf' r'
    exact ⟨r'.defers, v, hv, v, _, rfl, hR⟩
  refine exec_ok K hm c hin _ _ _ r _ γ (fun _ => 0) _ w hex hfl hrel (fun o s' γ' β' a' w' h' hf' r' => ?_) fun r0 s' γ' β' a' w' h' he hf' r' => ?_
  · cases o with
    | normal => exact fin s' γ' β' a' w' h' hf' r'
    | exit i => cases h'
  · cases h'
    exact fin s' γ' β' a' w' he hf' r'

end
end Go.AM

/- A law's row: what comes in can be read as typed data; what the machine says of the law holds of the call. -/
namespace Go.AM
open Go.ChangeShapes Go.WideShapes Go.RowKit

/-- Numbers in their kind's range, lengths that a Go slice may have. -/
inductive WfC : CV → Prop
  | int (k : IntKind) (n : Int) (h1 : k.min ≤ n) (h2 : n ≤ k.max) : WfC (.int k n)
  | bool (b) : WfC (.bool b)
  | str (s) (h : s.size ≤ maxLen) : WfC (.str s)
  | sl (t : Ty) (xs : List t.den) (h : xs.length ≤ maxLen) (he : ∀ x ∈ xs, ∀ c ∈ unpack t x, WfC c) : WfC (.sl t xs)
def Wf (t : Ty) (x : t.den) : Prop := ∀ c ∈ unpack t x, WfC c

def cvFits (t : Ty) (c : CV) : Prop := ∃ x : t.den, unpack t x = [c]
theorem assemble {t : Ty} (ha : t.isAgg = true) {cvs : List CV} (hl : cvs.length = t.size) (h : ∀ (j : Nat) c u, cvs[j]? = some c → (cellTys t)[j]? = some u → cvFits u c) : ∃ x : t.den, unpack t x = cvs := by
  cases t <;> first | cases ha | skip
  · match cvs, hl with
    | [a, b, c], _ =>
      obtain ⟨x0, e0⟩ := h 0 a (.int .i64) rfl rfl
      obtain ⟨x1, e1⟩ := h 1 b (.int .i64) rfl rfl
      obtain ⟨x2, e2⟩ := h 2 c .str rfl rfl
      cases e0; cases e1; cases e2
      exact ⟨⟨x0, x1, x2⟩, rfl⟩
  · match cvs, hl with
    | [a, b, c, d, e, f, g, i], _ =>
      obtain ⟨x0, e0⟩ := h 0 a (.int .i64) rfl rfl
      obtain ⟨x1, e1⟩ := h 1 b (.sl .item) rfl rfl
      obtain ⟨x2, e2⟩ := h 2 c (.sl .vec) rfl rfl
      obtain ⟨x3, e3⟩ := h 3 d (.sl .str) rfl rfl
      obtain ⟨x4, e4⟩ := h 4 e (.sl .str) rfl rfl
      obtain ⟨x5, e5⟩ := h 5 f (.sl .str) rfl rfl
      obtain ⟨x6, e6⟩ := h 6 g (.int .i64) rfl rfl
      obtain ⟨x7, e7⟩ := h 7 i (.int .i64) rfl rfl
      cases e0; cases e1; cases e2; cases e3; cases e4; cases e5; cases e6; cases e7
      exact ⟨⟨x0, x1, x2, x3, x4, x5, x6, x7⟩, rfl⟩
  · match cvs, hl with
    | [a, b, c], _ =>
      obtain ⟨x0, e0⟩ := h 0 a (.int .i64) rfl rfl
      obtain ⟨x1, e1⟩ := h 1 b (.int .i64) rfl rfl
      obtain ⟨x2, e2⟩ := h 2 c (.sl .item) rfl rfl
      cases e0; cases e1; cases e2
      exact ⟨⟨x0, x1, x2⟩, rfl⟩

section
variable {P : Program} {T : Tab} {H : Type} {enc : TypeId × Value → H}

/-- The cells read as typed data. -/
def ReadAs (w : World) (ty : Ty) (cs : List Value) : Prop :=
  ∃ x : ty.den, Wf ty x ∧ cs.length = ty.size ∧ ∀ (j : Nat) c, (unpack ty x)[j]? = some c → ∃ y, cs[j]? = some y ∧ Rep w (fun _ => True) y c

theorem trod_read (hT : TabOK P T) {w : World} {base : Nat} {spare : Nat → Bool} {held : Bool} : ∀ (fuel : Nat) (t : TypeId) (ty : Ty) (cs : List Value) (x : DataW H × List MemPlace), T.ty t = some ty → DataW.trod enc P w base spare held fuel t cs = some x → ReadAs w ty cs := by
  have single1 : ∀ {ty : Ty} {v : Value} {c : CV} (x : ty.den), unpack ty x = [c] → Rep w (fun _ => True) v c → WfC c → ReadAs w ty [v] := by
    intro ty v c x hx hr hw
    refine ⟨x, by unfold Wf; rw [hx]; intro c' hc'; simp at hc'; subst hc'; exact hw, by rw [← unpack_len ty x, hx]; rfl, fun j c' hj => ?_⟩
    rw [hx] at hj
    cases j with
    | zero => simp at hj; subst hj; exact ⟨v, rfl, hr⟩
    | succ j => simp at hj
  intro fuel
  induction fuel with
  | zero => intro t ty cs x ht h; simp [DataW.trod] at h
  | succ fuel ih =>
    intro t ty cs x ht h
    have hk := hT t ty ht
    cases ty with
    | int k =>
      obtain ⟨n, rfl, _, hw⟩ := DataW.trod_int (hk.int k rfl) h
      simp only [Lit.wf, Bool.and_eq_true, decide_eq_true_eq] at hw
      exact single1 (ty := .int k) n rfl (.int k n) (.int k n hw.1 hw.2)
    | bool =>
      obtain ⟨b, rfl, _⟩ := DataW.trod_bool (hk.bool rfl) h
      exact single1 (ty := .bool) b rfl (.bool b) (.bool b)
    | str =>
      obtain ⟨s, rfl, _, hs⟩ := DataW.trod_string (hk.str rfl) h
      exact single1 (ty := .str) s rfl (.str s) (.str s hs)
    | sl u =>
      obtain ⟨e, he, hte⟩ := hk.sl u rfl
      obtain ⟨inf, hi, hz, _⟩ := (hT e u hte).info
      have hco : P.cellsOf e = u.size := by simp [Program.cellsOf, hi, hz]
      rcases DataW.trod_slice he h with ⟨rfl, _⟩ | ⟨a, len, cap, elems, rest, n, hn, rfl, _, _, hle, hcap, hlen, hel, _⟩
      · exact single1 (ty := .sl u) [] rfl (.sl u [] none 0 (Nat.le_refl _) (fun _ _ => .tuple #[]) (fun h => absurd h (by simp)) (fun i j c hi => absurd hi (by simp))) (.sl u [] (by simp) (fun x hx => by cases hx))
      · have hn' : n = fuel := by omega
        subst hn'
        have one : ∀ i, i < len → ∃ cs', w.cells? base (a.add (i * u.size)) u.size = some cs' ∧ ReadAs w u cs' := by
          intro i hil
          have := hel i hil
          rw [hco] at this
          rw [List.getElem?_eq_getElem (by omega)] at this
          obtain ⟨cs', h1, h2⟩ := Option.bind_eq_some_iff.1 this
          exact ⟨cs', h1, ih e u cs' _ hte h2⟩
        -- the elements, one by one
        have cellAt : ∀ i, i < len → ∃ cs' : List Value, cs'.length = u.size ∧ (∀ j y, cs'[j]? = some y → a.spot = none ∧ w.cell? ⟨a.block, a.off + i * u.size + j, none⟩ = some y) ∧ ReadAs w u cs' := by
          intro i hil
          obtain ⟨cs', h1, h2⟩ := one i hil
          have h0 := one 0 (by omega)
          obtain ⟨c0, g1, g2⟩ := h0
          have len' : cs'.length = u.size := by obtain ⟨_, _, e, _⟩ := h2; exact e
          have spot : a.spot = none := by
            unfold World.cells? at g1
            split at g1
            · have hc0 : c0.length = u.size := by obtain ⟨_, _, e, _⟩ := g2; exact e
              obtain ⟨y, hy⟩ : ∃ y, c0[0]? = some y := ⟨_, List.getElem?_eq_getElem (by rw [hc0]; exact u.size_pos)⟩
              have := mapM_range_get g1 0 y hy
              rw [Nat.zero_mul] at this
              simp only [Addr.add, if_true] at this
              unfold World.cell? at this
              split at this
              · split at this
                · cases this
                · rename_i hns; simpa using hns
              · cases this
            · cases g1
          refine ⟨cs', len', fun j y hj => ⟨spot, ?_⟩, h2⟩
          unfold World.cells? at h1
          split at h1
          · have := mapM_range_get h1 j y hj
            rw [addr_add _ _ spot] at this
            rw [Addr.add_lit] at this
            exact this
          · cases h1
        let pick : Nat → u.den := fun i => if h : i < len then (cellAt i h).choose_spec.2.2.choose else u.zero
        let cells : Nat → List Value := fun i => if h : i < len then (cellAt i h).choose else []
        have hp : ∀ i, i < len → Wf u (pick i) ∧ (cells i).length = u.size ∧ (∀ j y, (cells i)[j]? = some y → a.spot = none ∧ w.cell? ⟨a.block, a.off + i * u.size + j, none⟩ = some y) ∧
            ∀ (j : Nat) c, (unpack u (pick i))[j]? = some c → ∃ y, (cells i)[j]? = some y ∧ Rep w (fun _ => True) y c := by
          intro i hil
          have h3 := (cellAt i hil).choose_spec
          have h4 := h3.2.2.choose_spec
          simp only [pick, cells, dif_pos hil]
          exact ⟨h4.1, h3.1, h3.2.1, h4.2.2⟩
        let xs : List u.den := (List.range len).map pick
        have hxl : xs.length = len := by simp [xs]
        have hxg : ∀ i, i < len → xs.getD i u.zero = pick i := by
          intro i hil
          rw [List.getD_eq_getElem?_getD, List.getElem?_map, List.getElem?_range hil]; rfl
        have hrep : Rep w (fun _ => True) (.slice (some a) xs.length cap) (.sl u xs) := by
          refine .sl u xs (some a) cap (by rw [hxl]; exact hle) (fun i j => (cells i).getD j undef) (fun hp0 => ⟨a, rfl, ?_, trivial, fun i j hi' hj => ?_⟩) (fun i j c hi' hc => ?_)
          · rw [hxl] at hp0
            obtain ⟨_, p2, p3, _⟩ := hp 0 hp0
            obtain ⟨y, hy⟩ : ∃ y, (cells 0)[0]? = some y := ⟨_, List.getElem?_eq_getElem (by rw [p2]; exact u.size_pos)⟩
            exact (p3 0 y hy).1
          · rw [hxl] at hi'
            obtain ⟨_, p2, p3, _⟩ := hp i hi'
            obtain ⟨y, hy⟩ : ∃ y, (cells i)[j]? = some y := ⟨_, List.getElem?_eq_getElem (by rw [p2]; exact hj)⟩
            rw [List.getD_eq_getElem?_getD, hy]
            exact (p3 j y hy).2
          · rw [hxl] at hi'
            rw [hxg i hi'] at hc
            obtain ⟨_, _, _, p4⟩ := hp i hi'
            obtain ⟨y, hy, hr⟩ := p4 j c hc
            rw [List.getD_eq_getElem?_getD, hy]
            exact hr
        have hv : (Value.slice (some a) len cap) = .slice (some a) xs.length cap := by rw [hxl]
        rw [hv]
        refine single1 (ty := .sl u) xs rfl hrep (.sl u xs (by rw [hxl]; omega) (fun x hx c hc => ?_))
        obtain ⟨i, hi', rfl⟩ := List.mem_map.1 hx
        exact (hp i (List.mem_range.1 hi')).1 c hc
    | item => exact trod_struct hT ih ht rfl h
    | vec => exact trod_struct hT ih ht rfl h
    | mat => exact trod_struct hT ih ht rfl h
where
  mapM_range_get {w : World} {a : Addr} {n : Nat} {cs : List Value} (h : ((List.range n).mapM fun i => w.cell? (a.add i)) = some cs) (j : Nat) (y : Value) (hj : cs[j]? = some y) : w.cell? (a.add j) = some y := by
    have gen : ∀ (l : List Nat) (cs : List Value), (l.mapM fun i => w.cell? (a.add i)) = some cs → ∀ (j : Nat) y, cs[j]? = some y → ∃ i, l[j]? = some i ∧ w.cell? (a.add i) = some y := by
      intro l
      induction l with
      | nil => intro cs h j y hj; simp at h; subst h; simp at hj
      | cons x l ih =>
        intro cs h j y hj
        rw [List.mapM_cons] at h
        simp only [Option.bind_eq_bind, Option.pure_def] at h
        obtain ⟨z, hz, h⟩ := Option.bind_eq_some_iff.1 h
        obtain ⟨zs, hzs, h⟩ := Option.bind_eq_some_iff.1 h
        cases h
        cases j with
        | zero => simp at hj; subst hj; exact ⟨x, rfl, hz⟩
        | succ j => exact ih zs hzs j y (by simpa using hj)
    obtain ⟨i, hi, hc⟩ := gen _ cs h j y hj
    have hlt := (List.getElem?_eq_some_iff.1 hi).1
    rw [List.getElem?_range (by simpa using hlt)] at hi
    cases hi
    exact hc
  trod_struct (hT : TabOK P T) {w : World} {base : Nat} {spare : Nat → Bool} {held : Bool} {fuel : Nat} (ih : ∀ (t : TypeId) (ty : Ty) (cs : List Value) (x : DataW H × List MemPlace), T.ty t = some ty → DataW.trod enc P w base spare held fuel t cs = some x → ReadAs w ty cs)
      {t : TypeId} {ty : Ty} {cs : List Value} {x : DataW H × List MemPlace} (ht : T.ty t = some ty) (ha : ty.isAgg = true) (h : DataW.trod enc P w base spare held (fuel + 1) t cs = some x) : ReadAs w ty cs := by
    obtain ⟨fs, hu, hsz, hF⟩ := (hT t ty ht).agg ha
    obtain ⟨inf, hi, hz, _⟩ := (hT t ty ht).info
    have hco : P.cellsOf t = ty.size := by simp [Program.cellsOf, hi, hz]
    obtain ⟨xs, n, hn, _, hl, hlen, hf⟩ := DataW.trod_struct hu h
    have hn' : n = fuel := by omega
    subst hn'
    rw [hco] at hl
    have one : ∀ j, j < ty.size → ∃ c u y, (cellTys ty)[j]? = some u ∧ cvFits u c ∧ WfC c ∧ cs[j]? = some y ∧ Rep w (fun _ => True) y c := by
      intro j hj
      obtain ⟨f, hfj⟩ : ∃ f, fs[j]? = some f := ⟨_, Array.getElem?_eq_getElem (by omega)⟩
      obtain ⟨u, hu'⟩ : ∃ u, (cellTys ty)[j]? = some u := ⟨_, List.getElem?_eq_getElem (by rw [agg_size ha]; exact hj)⟩
      have hFO := hF j f u hfj hu'
      obtain ⟨inf', hi', hz', _⟩ := (hT f.type u hFO.ty).info
      obtain ⟨s1, _⟩ := cellTys_flat ha hu'
      have hcu : P.cellsOf f.type = 1 := by simp [Program.cellsOf, hi', hz', s1]
      have h1 := hf j f hfj
      rw [hFO.off, hcu, List.getElem?_eq_getElem (by omega)] at h1
      obtain ⟨x, hw, hlx, hr⟩ := ih f.type u _ _ hFO.ty h1
      obtain ⟨c, hc⟩ : ∃ c, (unpack u x)[0]? = some c := ⟨_, List.getElem?_eq_getElem (by rw [unpack_len, s1]; omega)⟩
      obtain ⟨y, hy, hrep⟩ := hr 0 c hc
      rw [List.getElem?_take, if_pos (by omega), List.getElem?_drop, Nat.add_zero] at hy
      have hux : unpack u x = [c] := by
        have : (unpack u x).length = 1 := by rw [unpack_len, s1]
        match hh : unpack u x, this with
        | [z], _ => rw [hh] at hc; simp at hc; rw [hc]
      exact ⟨c, u, y, hu', ⟨x, hux⟩, hw c (by rw [hux]; simp), hy, hrep⟩
    let cv : Nat → CV := fun j => if h : j < ty.size then (one j h).choose else .bool false
    have hcv : ∀ j, j < ty.size → ∃ u y, (cellTys ty)[j]? = some u ∧ cvFits u (cv j) ∧ WfC (cv j) ∧ cs[j]? = some y ∧ Rep w (fun _ => True) y (cv j) := by
      intro j hj
      simp only [cv, dif_pos hj]
      exact (one j hj).choose_spec
    obtain ⟨x, hx⟩ := assemble ha (cvs := (List.range ty.size).map cv) (by simp) (fun j c u hj hu' => by
      rw [List.getElem?_map] at hj
      by_cases hjl : j < ty.size
      · rw [List.getElem?_range hjl] at hj
        cases hj
        obtain ⟨u', y, e1, e2, _⟩ := hcv j hjl
        rw [hu'] at e1; cases e1
        exact e2
      · rw [List.getElem?_eq_none (by simpa using hjl)] at hj; cases hj)
    refine ⟨x, fun c hc => ?_, hl, fun j c hj => ?_⟩
    · rw [hx] at hc
      obtain ⟨j, hj, rfl⟩ := List.mem_map.1 hc
      obtain ⟨_, _, _, _, e3, _⟩ := hcv j (List.mem_range.1 hj)
      exact e3
    · rw [hx, List.getElem?_map] at hj
      by_cases hjl : j < ty.size
      · rw [List.getElem?_range hjl] at hj
        cases hj
        obtain ⟨_, y, _, _, _, e4, e5⟩ := hcv j hjl
        exact ⟨y, e4, e5⟩
      · rw [List.getElem?_eq_none (by simpa using hjl)] at hj; cases hj

end
end Go.AM

/- A law's row. -/
namespace Go.AM
open Go.ChangeShapes Go.WideShapes Go.RowKit

theorem dens_ex : ∀ (ts : List Ty) (Φ : Nat → (t : Ty) → t.den → Prop), (∀ (i : Nat) t, ts[i]? = some t → ∃ x : t.den, Φ i t x) →
    ∃ xs : Dens ts, ∀ (i : Nat) t l, ts[i]? = some t → (splitRes ts xs)[i]? = some l → ∃ x : t.den, l = unpack t x ∧ Φ i t x := by
  intro ts
  induction ts with
  | nil => intro Φ _; exact ⟨(), fun i t l h => by simp at h⟩
  | cons t ts ih =>
    intro Φ h
    obtain ⟨x0, h0⟩ := h 0 t rfl
    cases ts with
    | nil =>
      refine ⟨x0, fun i t' l h1 h2 => ?_⟩
      cases i with
      | zero => simp at h1; subst h1; simp [splitRes] at h2; exact ⟨x0, h2.symm, h0⟩
      | succ i => simp at h1
    | cons u r =>
      obtain ⟨xs, hxs⟩ := ih (fun i => Φ (i + 1)) fun i t' h' => h (i + 1) t' (by simpa using h')
      refine ⟨(x0, xs), fun i t' l h1 h2 => ?_⟩
      cases i with
      | zero => simp at h1; subst h1; simp [splitRes] at h2; exact ⟨x0, h2.symm, h0⟩
      | succ i => exact hxs i t' l (by simpa using h1) (by simpa [splitRes] using h2)

section
variable {P : Program} {T : Tab} {H : Type} {enc : TypeId × Value → H}

/-- All that came in is well formed. -/
def WfAll (ts : List Ty) (xs : Dens ts) : Prop := ∀ l ∈ splitRes ts xs, ∀ c ∈ l, WfC c

theorem trodAll_get {w : World} {base : Nat} {spare : Nat → Bool} {held : Bool} : ∀ {ts : List TypeId} {vs : List Value} {ds : List (DataW H)} {ps : List MemPlace}, DataW.TrodAll enc P w base spare held ts vs ds ps →
    ts.length = vs.length ∧ ds.length = ts.length ∧ ∀ (i : Nat) t v, ts[i]? = some t → vs[i]? = some v → ∃ d q, DataW.Trod enc P w base spare held t v d q := by
  intro ts
  induction ts with
  | nil =>
    intro vs ds ps h
    cases vs <;> cases ds <;> first | (simp only [DataW.TrodAll] at h; done) | skip
    · exact ⟨rfl, rfl, fun i t v h => by simp at h⟩
    all_goals exact h.elim
  | cons t ts ih =>
    intro vs ds ps h
    cases vs with
    | nil => cases ds <;> exact h.elim
    | cons v vs =>
      cases ds with
      | nil => exact h.elim
      | cons d ds =>
        obtain ⟨p, q, h1, h2, _⟩ := h
        obtain ⟨i1, i2, i3⟩ := ih h2
        refine ⟨by simp [i1], by simp [i2], fun i t' v' ht hv => ?_⟩
        cases i with
        | zero => simp at ht hv; subst ht; subst hv; exact ⟨d, p, h1⟩
        | succ i => exact i3 i t' v' (by simpa using ht) (by simpa using hv)
theorem trodAll_below {W W' : World} (hl : laidOutB P = true) (hb : Below W.heap.size W W') : ∀ {ts : List TypeId} {vs : List Value} {ds : List (DataW H)} {ps : List MemPlace}, (∀ t ∈ ts, P.readableRec t = true ∧ t < P.types.size) →
    DataW.TrodAll enc P W 0 (fun _ => true) true ts vs ds ps → (∀ x ∈ ps, x.block < W.heap.size) → DataW.TrodAll enc P W' 0 (fun b => decide (b < W.heap.size)) true ts vs ds ps := by
  intro ts
  induction ts with
  | nil =>
    intro vs ds ps _ h _
    cases vs <;> cases ds <;> first | exact h | exact h.elim
  | cons t ts ih =>
    intro vs ds ps hr h hlt
    cases vs with
    | nil => cases ds <;> exact h.elim
    | cons v vs =>
      cases ds with
      | nil => exact h.elim
      | cons d ds =>
        obtain ⟨p, q, h1, h2, rfl⟩ := h
        obtain ⟨r1, r2⟩ := hr t (List.mem_cons_self ..)
        exact ⟨p, q, Below.trod hl r1 r2 h1 hb fun x hx => hlt x (List.mem_append_left _ hx), ih (fun t ht => hr t (List.mem_cons_of_mem _ ht)) h2 fun x hx => hlt x (List.mem_append_right _ hx), rfl⟩

theorem okWide_shape (hT : TabOK P T) {w : World} {base : Nat} {t : TypeId} {ty : Ty} {v : Value} (ht : T.ty t = some ty) (h : Value.okWide P w .any base t v) : shapeOK v ty.isAgg := by
  have hk := hT t ty ht
  unfold shapeOK
  cases ty with
  | int k => obtain ⟨n, rfl⟩ := okWide_int (hk.int k rfl) h; rfl
  | bool => obtain ⟨n, rfl⟩ := okWide_bool (hk.bool rfl) h; rfl
  | str => obtain ⟨n, rfl⟩ := okWide_string (hk.str rfl) h; rfl
  | sl u => obtain ⟨e, he, _⟩ := hk.sl u rfl; obtain ⟨a, n, m, rfl⟩ := okWide_slice he h; rfl
  | item => obtain ⟨fs, hu, _⟩ := hk.agg rfl; obtain ⟨cs, rfl, _⟩ := okWide_struct hu h; exact ⟨cs, rfl⟩
  | vec => obtain ⟨fs, hu, _⟩ := hk.agg rfl; obtain ⟨cs, rfl, _⟩ := okWide_struct hu h; exact ⟨cs, rfl⟩
  | mat => obtain ⟨fs, hu, _⟩ := hk.agg rfl; obtain ⟨cs, rfl, _⟩ := okWide_struct hu h; exact ⟨cs, rfl⟩

theorem law_calls (hT : TabOK P T) {f : FuncId} {ptys : List Ty} {pmv : List (List (Option Bool))} {g : Nat → Dens (ptys ++ []) → Option Bool} (hF : ∀ n, FOK P f ⟨ptys, pmv, [], [.bool], [[]], g n⟩) (hmv : ∀ i j, (pmv.getD i []).getD j none = none)
    {params : List TypeId} (hp : params.map T.ty = ptys.map some) {W : World} {base : Nat} {args : Array Value} {ds : List (DataW H)} {ps : List MemPlace}
    (hval : ∀ (j : Nat) t v, params[j]? = some t → args[j]? = some v → Value.okWide P W .any base t v) (hA : DataW.TrodAll enc P W 0 (fun _ => true) true params args.toList ds ps) (hpure : ∀ xs, WfAll (ptys ++ []) xs → ∃ n, g n xs = some true) :
    Calls P f args W fun e W' => e = .returned (.bool true) ∧ Below W.heap.size W W' := by
  obtain ⟨n1, n2, n3⟩ := trodAll_get hA
  have hpl : params.length = ptys.length := by have := congrArg List.length hp; simpa using this
  have hty : ∀ (i : Nat) t ty, params[i]? = some t → ptys[i]? = some ty → T.ty t = some ty := by
    intro i t ty h1 h2
    have := congrArg (fun l => l[i]?) hp
    simp only [List.getElem?_map, h1, h2, Option.map_some, Option.some.injEq] at this
    exact this
  have asz : args.size = ptys.length := by rw [← Array.length_toList, ← n1, hpl]
  obtain ⟨xs, hxs⟩ := dens_ex (ptys ++ []) (fun i t x => Wf t x ∧ ∃ v, args[i]? = some v ∧ shapeOK v t.isAgg ∧ v.cells.size = t.size ∧ ∀ (j : Nat) c, (unpack t x)[j]? = some c → ∃ y, v.cells[j]? = some y ∧ Rep W (fun _ => True) y c) (fun i ty hi => by
    have hi' : ptys[i]? = some ty := by simpa using hi
    have hil := (List.getElem?_eq_some_iff.1 hi').1
    obtain ⟨t, ht⟩ : ∃ t, params[i]? = some t := ⟨_, List.getElem?_eq_getElem (by omega)⟩
    obtain ⟨v, hv⟩ : ∃ v, args[i]? = some v := ⟨_, Array.getElem?_eq_getElem (by omega)⟩
    have htt := hty i t ty ht hi'
    obtain ⟨d, q, fuel, htr⟩ := n3 i t v ht (by rw [Array.getElem?_toList]; exact hv)
    obtain ⟨x, hw, hl, hr⟩ := trod_read hT fuel t ty _ _ htt htr
    exact ⟨x, hw, v, hv, okWide_shape hT htt (hval i t v ht hv), by rw [← Array.length_toList]; exact hl, fun j c hc => by
      obtain ⟨y, hy, hrep⟩ := hr j c hc
      exact ⟨y, by rw [← Array.getElem?_toList]; exact hy, hrep⟩⟩)
  obtain ⟨n, hg⟩ := hpure xs (fun l hl c hc => by
    obtain ⟨i, hi⟩ := List.mem_iff_getElem?.1 hl
    have hlt := (List.getElem?_eq_some_iff.1 hi).1
    rw [splitRes_length] at hlt
    obtain ⟨x, rfl, hw, _⟩ := hxs i _ l (List.getElem?_eq_getElem hlt) hi
    exact hw c hc)
  refine ((hF n).run W (fun _ => .none) args xs true (fun _ _ => rfl) ⟨by simpa using asz, fun i t l hi hl => ?_, fun i l hi => by simp at hi⟩ hg).mono fun e W' hR => ?_
  · obtain ⟨x, rfl, _, v, hv, hs, hsz, hr⟩ := hxs i t l (by simpa using hi) hl
    refine ⟨v, hv, hs, by rw [tagZip_len, unpack_len]; exact hsz, fun j z hj => ?_⟩
    rw [tagZip_get, parTags_get] at hj
    cases hc : (unpack t x)[j]? with
    | none => rw [hc] at hj; cases hj
    | some c =>
      rw [hc, Option.map_some] at hj
      obtain ⟨y, hy, hrep⟩ := hr j c hc
      rw [if_pos (List.getElem?_eq_some_iff.1 hc).1, hmv i j] at hj
      refine ⟨y, c, _, by injection hj with hj; exact hj.symm, hy, ?_⟩
      cases c with
      | int k n => exact hrep.weaken.int
      | bool b => exact hrep.weaken.bool
      | str s => exact hrep.weaken.str
      | sl u zs => exact Rep.mono (fun b hb _ => ⟨⟨hb, .inl rfl⟩, rfl⟩) hrep
  · obtain ⟨v, γ', rfl, R⟩ := hR
    have hv := R.val
    have hv2 : ResVal W' γ' v [(false, [.at (.bool true) .ps])] := hv
    obtain ⟨h1, h2⟩ := hv2
    have hs : single v = true := h1
    obtain ⟨y, cv, t, e, hy, hat⟩ := h2.2 0 _ rfl
    cases e
    rw [single_cells hs] at hy
    cases hy
    have hb : v = .bool true := hat
    subst hb
    exact ⟨rfl, R.rest.1, R.rest.2.1, R.rest.2.2, R.size, fun k hk => (R.old k hk (.inr (.inl rfl))).1⟩

theorem below_kept {W W' : World} (h : Below W.heap.size W W') (may : MemPlace → Prop) : W.keptBut W' may := by
  refine ⟨h.os, h.output, fun i hi => ?_⟩
  rw [h.block i hi]
  cases hw : W.heap[i]? with
  | none => trivial
  | some o => cases o <;> first | exact ⟨rfl, rfl, rfl, fun _ _ => rfl⟩ | exact .inr ⟨rfl, rfl⟩ | rfl

theorem law_post {fn : Func} {s : ChangeSpec} (hl : laidOutB P = true) (hvars : s.vars = []) (hres : ∃ t, fn.resultTypes = #[t] ∧ P.underlying t = some .bool)
    (hs : ∀ ds : List (DataW H), ds.length = fn.params.toList.length → s.fn H ds = { results := [.lit (.bool true)], args := ds }) (hrd : ∀ t ∈ fn.params.toList, P.readableRec t = true ∧ t < P.types.size)
    {W W' : World} {args : Array Value} {ds gs : List (DataW H)} {before : List MemPlace} (hW : DataW.Whole enc P fn.params.toList s.vars false W args.toList ds gs before) (hb : Below W.heap.size W W') :
    s.post enc P fn false true false false W args (.bool true) W' := by
  have hW0 := hW
  have hlt := hW.lt
  obtain ⟨p, q, hA, hV, rfl, _, _⟩ := hW
  rw [hvars] at hV
  obtain ⟨rfl, rfl⟩ := trodVars_none hV
  obtain ⟨_, n2, _⟩ := trodAll_get hA
  have hfn := hs ds n2
  obtain ⟨t, ht, hu⟩ := hres
  have e : ds ++ [] = ds := List.append_nil ds
  refine ⟨ds, [], _, [], p, [], hW0, ?_, ?_, ?_, below_kept hb _, fun h => by cases h⟩
  · rw [e, hfn, ht]
    refine ⟨[], [], ⟨1, ?_⟩, rfl, rfl⟩
    simp [DataW.trod, hu, Value.cells]
  · rw [e, hfn]
    exact trodAll_below hl hb hrd hA fun x hx => hlt x (List.mem_append_left _ hx)
  · rw [e, hfn, hvars]
    rfl

end
end Go.AM

/- Small words for the contracts' texts. -/
namespace Go.AM

def loopsOf : Code → List (Nat × Code)
  | .seq x y => loopsOf x ++ loopsOf y
  | .cond _ x y => loopsOf x ++ loopsOf y
  | .block id (.loop b) => [(id, b)]
  | .block _ c => loopsOf c
  | _ => []
def AllL (Φ : Nat → Code → Prop) (l : List (Nat × Code)) : Prop := ∀ p ∈ l, Φ p.1 p.2
theorem loops_nil {Φ : Nat → Code → Prop} : AllL Φ [] := fun p hp => by cases hp
theorem loops_cons {Φ : Nat → Code → Prop} {id : Nat} {c : Code} {l : List (Nat × Code)} (h : Φ id c) (t : AllL Φ l) : AllL Φ ((id, c) :: l) := fun p hp => by
  rcases List.mem_cons.1 hp with rfl | hp
  · exact h
  · exact t p hp
theorem loopsIn_of {Φ : Nat → Code → Prop} : ∀ (c : Code), AllL Φ (loopsOf c) → LoopsIn Φ c := by
  intro c
  induction c with
  | seq x y ihx ihy => intro h; exact ⟨ihx fun p hp => h p (List.mem_append_left _ hp), ihy fun p hp => h p (List.mem_append_right _ hp)⟩
  | cond c x y ihx ihy => intro h; exact ⟨ihx fun p hp => h p (List.mem_append_left _ hp), ihy fun p hp => h p (List.mem_append_right _ hp)⟩
  | block id c ih =>
    intro h
    cases c with
    | loop b => exact h (id, b) (List.mem_singleton.2 rfl)
    | skip => exact ih h
    | region _ _ _ => exact ih h
    | seq _ _ => exact ih h
    | cond _ _ _ => exact ih h
    | block _ _ => exact ih h
    | rangeFunc _ _ _ _ => exact ih h
    | exit _ => exact ih h
    | scope _ => exact ih h
    | label _ => exact ih h
    | goto _ => exact ih h
    | ret => exact ih h
    | refuse _ => exact ih h
  | _ => intro _; trivial
theorem loops_of {Φ : Nat → Code → Prop} {c : Code} {l : List (Nat × Code)} (h : loopsOf c = l) (t : AllL Φ l) : LoopsIn Φ c := loopsIn_of c (by rw [h]; exact t)

theorem rho_cons {P : Program} {u : Nat} {F0 : Fun} {l : List (Nat × Fun)} (h : FOK P u F0) (t : ∀ f F, getA l f = some F → FOK P f F) : ∀ f F, getA ((u, F0) :: l) f = some F → FOK P f F := by
  intro f F hf
  simp only [getA] at hf
  by_cases e : f = u
  · rw [if_pos e] at hf; cases hf; rw [e]; exact h
  · rw [if_neg e] at hf; exact t f F hf
/-- A function that never answers. -/
theorem fok_none {P : Program} {F : Fun} {E : Env (Dens F.rtys)} {f : FuncId} {c : Code} {rs : List ResultVar} (H : FunIn P E f c rs) : FOK P f { F with f := fun _ => none } := by
  obtain ⟨fn, h1, h2, h3, _⟩ := H.fn
  exact ⟨H.tags, H.len, ⟨fn, h1, by rw [h2]; rfl, h3⟩, fun _ _ _ _ _ _ _ h => by cases h⟩
theorem pmv_none {pmv : List (List (Option Bool))} (h : pmv.all List.isEmpty = true) (i j : Nat) : (pmv.getD i []).getD j Option.none = Option.none := by
  rw [List.getD_eq_getElem?_getD (l := pmv)]
  cases hi : pmv[i]? with
  | none => rfl
  | some l =>
    have := List.all_eq_true.1 h l (List.mem_of_getElem? hi)
    rw [Option.getD_some, List.isEmpty_iff.1 this]
    rfl
end Go.AM

/- Plain words for the typed functions: loops as folds, wrapping away, strings compared. -/
namespace Go.AM

/-- Fuel that suffices for every counted loop. -/
def BIG : Nat := 18446744073709551616

theorem w64_id {x : Int} (h1 : -9223372036854775808 ≤ x) (h2 : x ≤ 9223372036854775807) : w64 x = x := by
  unfold w64
  rw [IntKind.wrap_i64]
  omega
theorem w64_succ {i : Nat} (h : i + 1 ≤ 9223372036854775807) : w64 ((i : Int) + 1) = ((i + 1 : Nat) : Int) := by
  rw [w64_id (by omega) (by omega)]
  omega

@[simp] theorem chk_true {α : Type} (x : Option α) : chk true x = x := rfl
theorem chk_of {α : Type} {c : Bool} (h : c = true) (x : Option α) : chk c x = x := by rw [h]; rfl

theorem strEq_iff {x y : ByteArray} : strEq x y = true ↔ x = y := by
  unfold strEq
  rw [beq_iff_eq, ByteArray.toList_eq, ByteArray.toList_eq]
  constructor
  · intro h
    cases x; cases y
    simp only [ByteArray.mk.injEq]
    exact Array.toList_inj.1 h
  · intro h; rw [h]
@[simp] theorem strEq_self (x : ByteArray) : strEq x x = true := strEq_iff.2 rfl

/-! ### Loops -/
/-- Over a list, with an early end. -/
def forL {α σ ρ : Type} (f : σ → α → σ ⊕ ρ) : List α → σ → σ ⊕ ρ
  | [], s => .inl s
  | a :: l, s => match f s a with | .inl s' => forL f l s' | .inr r => .inr r
theorem iter_succ {X R : Type} (B : X → Option (Round X R)) (n : Nat) (x : X) : iter B (n + 1) x = (B x).bind fun r => match r with | .again y => iter B n y | .stop y => some (.inl y) | .ret r => some (.inr r) := rfl
/-- More fuel does no harm. -/
theorem iter_mono {X R : Type} {B : X → Option (Round X R)} : ∀ {n : Nat} {x : X} {r : X ⊕ R}, iter B n x = some r → ∀ m, n ≤ m → iter B m x = some r := by
  intro n
  induction n with
  | zero => intro x r h; cases h
  | succ n ih =>
    intro x r h m hm
    obtain ⟨k, rfl⟩ : ∃ k, m = k + 1 := ⟨m - 1, by omega⟩
    rw [iter_succ] at h ⊢
    obtain ⟨rd, hrd, h⟩ := Option.bind_eq_some_iff.1 h
    rw [hrd]
    cases rd with
    | again y => exact ih h k (by omega)
    | stop y => exact h
    | ret r => exact h

/-- A loop that counts through a list: 'mk s i' is the state before round i, I what holds then. -/
theorem iter_for {α σ X R : Type} {B : X → Option (Round X R)} (xs : List α) (mk : σ → Nat → X) (f : σ → α → σ ⊕ R) (I : Nat → σ → Prop)
    (step : ∀ i a s, xs[i]? = some a → I i s → B (mk s i) = some (match f s a with | .inl s' => .again (mk s' (i + 1)) | .inr r => .ret r))
    (inv : ∀ i a s s', xs[i]? = some a → I i s → f s a = .inl s' → I (i + 1) s')
    (stop : ∀ s, I xs.length s → B (mk s xs.length) = some (.stop (mk s xs.length))) {n : Nat} (hn : xs.length < n) (s : σ) (h0 : I 0 s) :
    iter B n (mk s 0) = some (match forL f xs s with | .inl s' => .inl (mk s' xs.length) | .inr r => .inr r) := by
  have gen : ∀ (l : List α) (i : Nat) (s : σ) (n : Nat), xs.drop i = l → i ≤ xs.length → I i s → l.length < n → iter B n (mk s i) = some (match forL f l s with | .inl s' => .inl (mk s' xs.length) | .inr r => .inr r) := by
    intro l
    induction l with
    | nil =>
      intro i s n hd hi hI hn
      have hlen : i = xs.length := by have := congrArg List.length hd; rw [List.length_drop] at this; simp at this; omega
      subst hlen
      obtain ⟨k, rfl⟩ : ∃ k, n = k + 1 := ⟨n - 1, by simp at hn; omega⟩
      rw [iter_succ, stop s hI]
      rfl
    | cons a l ih =>
      intro i s n hd hi hI hn
      have ha : xs[i]? = some a := by have := congrArg (fun z => z[0]?) hd; simpa using this
      have hlt := (List.getElem?_eq_some_iff.1 ha).1
      obtain ⟨k, rfl⟩ : ∃ k, n = k + 1 := ⟨n - 1, by omega⟩
      rw [iter_succ, step i a s ha hI]
      have hd' : xs.drop (i + 1) = l := by
        have := congrArg List.tail hd
        simpa using this
      simp only [forL, Option.bind_some]
      cases hf : f s a with
      | inl s' => exact ih (i + 1) s' k hd' (by omega) (inv i a s s' ha hI hf) (by simp at hn; omega)
      | inr r => rfl
  exact gen xs 0 s n rfl (Nat.zero_le _) h0 hn

theorem getD_of {α : Type} {xs : List α} {i : Nat} {a : α} (h : xs[i]? = some a) (d : α) : xs.getD i d = a := by
  rw [List.getD_eq_getElem?_getD, h]; rfl
theorem getD_cast {α : Type} {xs : List α} {i : Nat} {a : α} (h : xs[i]? = some a) (d : α) : xs.getD ((i : Int).toNat) d = a := getD_of h d

/-- A loop that builds nothing and ends early at the first element that fails. -/
theorem forL_all {α ρ : Type} (p : α → Bool) (r : ρ) : ∀ (xs : List α), forL (fun (_ : Unit) a => if p a then .inl () else .inr r) xs () = if xs.all p then .inl () else .inr r := by
  intro xs
  induction xs with
  | nil => rfl
  | cons a l ih =>
    simp only [forL, List.all_cons]
    by_cases hp : p a = true
    · simp only [hp, if_true, Bool.true_and]; exact ih
    · simp only [hp]; simp

theorem item_ext {a b : Item} (h1 : a.num = b.num) (h2 : a.den = b.den) (h3 : a.text = b.text) : a = b := by cases a; cases b; simp_all

end Go.AM
