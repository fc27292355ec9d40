/- The abstract machine, part 2: typed states for the model's states, and that the model does what they say (no condition; for every program that passes its checks). -/
import Derived.Laws.Tables
import Derived.Laws.MakeOwn
import Derived.Laws.BytesString
import Derived.Laws.Slices
import Derived.Laws.CopyRow
import Derived.Test.YtmnadhgepopefaaAm1
/- alloc, frozen move, field, build. -/
namespace Go.AM
section
variable {P : Program} {T : Tab} {w0 : World} {wr : Gh} {nt : Nat} {X : Cx} {st dst : Nat} {o : Oper} {g : List (Nat × Bool)}

theorem zeroV_cells (t : Ty) : (zeroV t).cells = ((unpack t t.zero).map valOf).toArray := by cases t <;> rfl
/-- Zero's cells own what they lead to: nothing. -/
theorem zero_at (t : Ty) {j : Nat} {c : CV} (h : (unpack t t.zero)[j]? = some c) (B0 : Nat) (γ : Gh) (w : World) (k n : Nat) : AtOK B0 γ w k n (valOf c) c (bif c.isSl then .own true st else .ps) := by
  have hc : c ∈ unpack t t.zero := List.mem_of_getElem? h
  have : ∀ c ∈ unpack t t.zero, match c with | .sl _ xs => xs = [] | _ => True := by
    cases t <;> simp [unpack, Ty.zero]
  have hh := this c hc
  cases c with
  | int k n => rfl
  | bool b => rfl
  | str s => rfl
  | sl u xs => simp only at hh; subst hh; exact .inl ⟨rfl, rfl⟩
theorem zero_ats (t : Ty) (B0 : Nat) (γ : Gh) (w : World) (k c : Nat) : AtsOK B0 γ w k c (zeroV t).cells (tagAll (.own true st) (unpack t t.zero)) := by
  refine ⟨by rw [zeroV_cells]; simp [tagAll], fun j x hj => ?_⟩
  rw [tagAll_get] at hj
  cases hc : (unpack t t.zero)[j]? with
  | none => rw [hc] at hj; cases hj
  | some z =>
    rw [hc] at hj
    cases hj
    exact ⟨valOf z, z, _, rfl, by rw [zeroV_cells]; simp [hc], zero_at t hc B0 γ w k (c + j)⟩
theorem zero_single (t : Ty) : if t.isAgg then ∃ cs, zeroV t = .agg cs else single (zeroV t) = true := by cases t <;> first | exact ⟨_, rfl⟩ | rfl

theorem op_alloc (r : Rel w0 wr nt X) (hst : ∀ h c, ¬ RefIn X.s h c st) (hT : TabOK P T) {ti : TypeId} (ho : o.op = .alloc ti) {L : Leaf} {ps : List Prim} {v : SV}
    (h : ((Rd.ofOption (T.ty ti)).bind fun t => Rd.slot dst fun e => .box dst fun o => match e.v, o with
      | .un, Option.none => .ret (Leaf.pure [.box dst (tagAll (.own true st) (unpack t t.zero))] (.fp dst 0))
      | _, _ => .fail).ev X.s = some L) (hL : Gives L ps v) : OpOK P w0 wr nt X st dst o ps v := by
  obtain ⟨t, ht, h⟩ := Rd.invO h
  obtain ⟨inf, hi, hz, _, hz0⟩ := (hT ti t ht).info
  simp only [Rd.ev] at h
  split at h
  · rename_i hv hb
    cases h
    obtain ⟨rfl, rfl⟩ := hL
    obtain ⟨γ2, r2⟩ := Rel.newVar (ti := ti) r hb (zero_ats (st := st) t X.B0 X.γ X.w dst 64) (fun j cv dd st1 hj hr => by
      rw [tagAll_get] at hj
      cases hc : (unpack t t.zero)[j]? with
      | none => rw [hc] at hj; cases hj
      | some z =>
        rw [hc] at hj
        simp only [Option.map_some, Option.some.injEq, CT.at.injEq] at hj
        obtain ⟨_, e⟩ := hj
        cases hs : z.isSl <;> rw [hs] at e <;> cases e
        exact hst _ _ hr)
    refine ⟨.inl fun c cv dd st' hc => (by cases hc), fun z hz => ?_, fun K Q hK => ?_⟩
    · simp at hz; subst hz; rfl
    · unfold Oper.wp
      have hrun : (execOp X.a.eval o).run P X.w = .ok (.value (.pointer (some ⟨X.w.heap.size, 0, none⟩))) { X.w with heap := X.w.heap.push (.cells (zeroV t).cells ti (0, 0)) } := by
        unfold execOp; rw [ho]; simp [Instr.alloc, zeroValue, typeInfo, hi, hz0, newVar, newRow]
      rw [hrun]
      refine hK γ2 (fun z => if z = dst then X.w.heap.size else X.β z) _ _ r2 ?_
      refine sv_fp (l := tagAll (.own true st) (unpack t t.zero)) (by simp) ?_ dst
      show (Prim.apply X.s (.box dst _)).box dst = _
      rw [box_box, if_pos rfl]
  · cases h

theorem frz_noown (l : List CT) : ∀ x ∈ l.map frzCT, ∀ cv dd st', x ≠ .at cv (.own dd st') := by
  intro x hx cv dd st' e
  obtain ⟨y, _, rfl⟩ := List.mem_map.1 hx
  cases y with
  | ref => cases e
  | «at» v t => cases t <;> cases e
theorem frz_noput (k c : Nat) (l : List CT) : ∀ p ∈ frzCells k c l, noPut p = true := by
  intro q hq
  rw [frz_map] at hq
  obtain ⟨z, _, rfl⟩ := List.mem_map.1 hq
  rfl

theorem op_moveF (r : Rel w0 wr nt X) (hG : GOK X) (hg : Holds X.a g) {x : Operand} (ho : o.op = .move x) {t : Option Ty} {L : Leaf} {ps : List Prim} {v : SV}
    (h : ((opd st t g x).bind (moveR true)).ev X.s = some L) (hL : Gives L ps v) : OpOK P w0 wr nt X st dst o ps v := by
  obtain ⟨p, hp, h⟩ := Rd.inv h
  have hop := opd_ok r hG hg hp
  cases x with
  | tmp k =>
    have hp1 : p.1 = some k := by
      simp only [opd, Rd.ev] at hp
      cases hb : (X.s.ent k).g.all (fun p => g.elem p) <;> rw [hb] at hp <;> cases hp
      rfl
    obtain ⟨pk, sv⟩ := p
    simp only at hp1
    subst hp1
    cases sv with
    | val a l =>
      cases h
      obtain ⟨rfl, rfl⟩ := hL
      obtain ⟨he, ha, h1, h2, h3⟩ := hop
      obtain ⟨γ', r', s1, c1⟩ := frz_ok r (c := 0) h2 (fun j hj => by rw [Nat.zero_add]; exact homeCT_slot he (by omega)) (fun j hj => by
        rw [Nat.zero_add]; unfold Cx.hv; rw [if_neg (by omega), ha, cellV_val h1])
      refine ⟨new_noown (frz_noown l), frz_noput k 0 l, fun K Q hK => ?_⟩
      unfold Oper.wp
      rw [run_move ho]
      exact hK γ' X.β X.w _ r' ⟨h1, c1 dst 0, by rw [List.length_map]; exact h3⟩
    | tup l =>
      cases h
      obtain ⟨rfl, rfl⟩ := hL
      obtain ⟨h1, h2⟩ := copy_tup (st := st) hop dst
      exact OpOK.pure r h2 (run_move ho) h1
    | clo f caps =>
      cases h
      obtain ⟨rfl, rfl⟩ := hL
      exact OpOK.pure r (.inl fun c cv dd st' hc => by cases hc) (run_move ho) hop.2.2
    | un => cases h
    | fp => cases h
    | ep => cases h
    | es => cases h
    | sub => cases h
  | const y =>
    have hp' := hp
    simp only [opd, Rd.ev_bind, Rd.ev_ofOption] at hp'
    cases hv0 : constV st t y with
    | none => rw [hv0] at hp'; cases hp'
    | some sv =>
      rw [hv0] at hp'
      cases hp'
      have hc : ConstOK X (X.a.eval (.const y)) sv := hop
      obtain ⟨a, l, rfl, _⟩ := id hc
      cases h
      obtain ⟨rfl, rfl⟩ := hL
      exact op_move_const r hc (constV_new hv0) (run_move ho)
  | global q => cases hp
  | func f => cases hp

theorem op_field (r : Rel w0 wr nt X) (hG : GOK X) (hg : Holds X.a g) (hT : TabOK P T) {ti : TypeId} {f : Nat} {x : Operand} (ho : o.op = .field ti x f) {L : Leaf} {ps : List Prim} {v : SV}
    (h : ((Rd.ofOption (T.ty ti)).bind fun t => bif t.isAgg && Nat.blt f t.size then (opd st Option.none g x).bind fun p => match p.1, p.2 with
      | some h, .val true l => (Rd.ofOption (l[f]?)).bind fun c => .ret (Leaf.pure [] (.val false [copyCell h f c]))
      | _, _ => .fail
    else .fail).ev X.s = some L) (hL : Gives L ps v) : OpOK P w0 wr nt X st dst o ps v := by
  obtain ⟨t, ht, h⟩ := Rd.invO h
  cases hc : t.isAgg && Nat.blt f t.size with
  | false => rw [hc] at h; cases h
  | true =>
    rw [hc] at h
    simp only [Bool.and_eq_true] at hc
    have hf : f < t.size := Nat.le_of_ble_eq_true hc.2
    simp only [cond_true] at h
    obtain ⟨p, hp, h⟩ := Rd.inv h
    have hop := opd_ok r hG hg hp
    split at h
    · rename_i k l e1 e2
      rw [e1, e2] at hop
      obtain ⟨c0, hc0, h⟩ := Rd.invO h
      cases h
      obtain ⟨rfl, rfl⟩ := hL
      obtain ⟨he, ha, h1, h2, h3⟩ := hop
      obtain ⟨cs, hcs⟩ : ∃ cs, X.a.eval x = .agg cs := h1
      have hlt := (List.getElem?_eq_some_iff.1 hc0).1
      obtain ⟨y, hy, hyo⟩ := h2.2 f c0 hc0
      rw [hcs] at hy
      have hy' : cs[f]? = some y := hy
      have hys := hyo.isSingle
      have hyc : y.cells = #[y] := by cases y <;> first | rfl | cases hys
      have hX : X.s.homeCT k f = some c0 := by rw [homeCT_slot he (by omega)]; exact hc0
      have hV : X.hv k f = some y := by
        unfold Cx.hv; rw [if_neg (by omega), ha, hcs]; exact hy'
      have one : CellsOK X k f #[y] [c0] := ⟨rfl, fun j x' hj => by
        cases j with
        | zero => simp at hj; subst hj; rw [Nat.zero_add] at hyo; exact ⟨y, rfl, by rw [Nat.add_zero]; exact hyo⟩
        | succ j => simp at hj⟩
      obtain ⟨q1, q2, q3⟩ := copy_ok one (fun j hj => by
        have : j = 0 := by simpa using hj
        subst this; rw [Nat.add_zero]; exact hX) (fun j hj => by
        have : j = 0 := by simpa using hj
        subst this; rw [Nat.add_zero]; exact hV) dst 0
      have e3 : copyCells k f [c0] = [copyCell k f c0] := rfl
      rw [e3] at q1 q2 q3
      obtain ⟨fs, fd, inf, u, f1, f2, f3, f4, f5, f6, f7⟩ := agg_field hT ht hc.1 hf
      refine OpOK.pure r (new_noown q3) ?_ ⟨hys, by rw [hyc]; exact q1, by simp⟩
      have hia := isAgg_run (P := P) hT f6 X.w
      rw [f7] at hia
      unfold execOp; rw [ho]
      simp [Instr.field, run_underlying f1, f2, hcs, asAgg, part, hia, f3, hy']
    · cases h

end
end Go.AM

/- build. -/
namespace Go.AM
section
variable {P : Program} {T : Tab} {w0 : World} {wr : Gh} {nt : Nat} {X : Cx} {st dst : Nat} {o : Oper} {g : List (Nat × Bool)}

theorem places_of : ∀ (fs : List Field) (n : Nat), (∀ (j : Nat) f, fs[j]? = some f → f.offset = n + j ∧ ∃ i, P.info? f.type = some i ∧ i.size = 1) →
    fs.mapM (fun f => (P.info? f.type).map fun i => (f.offset, i.size)) = some ((List.range' n fs.length).map fun j => (j, 1)) := by
  intro fs
  induction fs with
  | nil => intro n _; rfl
  | cons f fs ih =>
    intro n h
    obtain ⟨h1, i, h2, h3⟩ := h 0 f rfl
    have := ih (n + 1) fun j f' hj => by
      obtain ⟨g1, g2⟩ := h (j + 1) f' (by simpa using hj)
      exact ⟨by omega, g2⟩
    simp [List.mapM_cons, h1, h2, h3, this, List.range'_succ]

theorem fill_step {place : Nat → Option (Nat × Nat)} {cells : Array Value} {i : Nat} {y : Value} {rest : List (Nat × Value)} (hp : place i = some (i, 1)) (hy : y.cells = #[y]) (hi : i < cells.size) :
    Instr.fill place cells ((i, y) :: rest) = Instr.fill place (cells.setIfInBounds i y) rest := by
  have h : ¬ (i + 1 > cells.size) := by omega
  simp [Instr.fill, hp, hy, h]

theorem single_cells {y : Value} (h : single y = true) : y.cells = #[y] := by cases y <;> first | rfl | cases h

theorem place_went (r : Rel w0 wr nt X) (hG : GOK X) (hg : Holds X.a g) {t : Ty} {place : Nat → Option (Nat × Nat)} (hpl : ∀ i, i < t.size → place i = some (i, 1)) {N : Nat} :
    ∀ (parts : List (Nat × Operand)) {ps0 : List Prim} {γ0 : Gh} {acc : List CT} {vs : List Value} {q : List Prim × List CT}, Went w0 wr nt X X [] N ps0 γ0 → InTr X γ0 N 0 st vs acc → vs.length = acc.length → acc.length = t.size →
      (placeR st g t parts ps0 acc).ev X.s = some q → nodupH (q.1.flatMap Prim.home) = true →
      ∃ γ' vs', Went w0 wr nt X X [] N q.1 γ' ∧ InTr X γ' N 0 st vs' q.2 ∧ vs'.length = q.2.length ∧ q.2.length = t.size ∧
        Instr.fill place vs.toArray (parts.map fun p => (p.1, X.a.eval p.2)) = some vs'.toArray := by
  intro parts
  induction parts with
  | nil =>
    intro ps0 γ0 acc vs q W hi hl hn h hd
    cases h
    exact ⟨γ0, vs, W, hi, hl, hn, rfl⟩
  | cons p parts ih =>
    intro ps0 γ0 acc vs q W hi hl hn h hd
    obtain ⟨i, x⟩ := p
    obtain ⟨p, hp, h⟩ := Rd.inv h
    obtain ⟨c, hc, h⟩ := Rd.inv h
    obtain ⟨z, hz, h⟩ := Rd.inv h
    have hop := opd_ok r hG hg hp
    rw [ev_one hc] at hop
    obtain ⟨hs, hlies⟩ := hop.one r
    cases hb : Nat.blt i acc.length with
    | false => rw [hb] at h; cases h
    | true =>
      have hi' : i < acc.length := Nat.le_of_ble_eq_true hb
      rw [hb] at h
      simp only [cond_true] at h
      -- the homes are apart
      have mono : ∀ (parts : List (Nat × Operand)) {ps0 : List Prim} {acc : List CT} {q : List Prim × List CT}, (placeR st g t parts ps0 acc).ev X.s = some q → ∃ qs, q.1 = ps0 ++ qs := by
        intro parts
        induction parts with
        | nil => intro ps0 acc q h; cases h; exact ⟨[], by simp⟩
        | cons p parts ih =>
          intro ps0 acc q h
          obtain ⟨i, x⟩ := p
          obtain ⟨p, hp, h⟩ := Rd.inv h
          obtain ⟨c, hc, h⟩ := Rd.inv h
          obtain ⟨z, hz, h⟩ := Rd.inv h
          cases hb : Nat.blt i acc.length with
          | false => rw [hb] at h; cases h
          | true =>
            rw [hb] at h
            obtain ⟨qs, e⟩ := ih h
            exact ⟨z.1 ++ qs, by rw [e, List.append_assoc]⟩
      obtain ⟨qs, hqs⟩ := mono parts h
      rw [hqs, List.append_assoc, List.flatMap_append, List.flatMap_append] at hd
      obtain ⟨_, d2, d3⟩ := homes_append hd
      obtain ⟨d4, _, _⟩ := homes_append d2
      obtain ⟨γ1, g1, cv, tg, e1, e2, e3⟩ := grab_went W.rel W.link W.fresh i hlies hz (fun y hy hm => by
        simp only [List.append_nil] at hm
        exact d3 y hm (List.mem_append_left _ hy))
      have hd' : nodupH (q.1.flatMap Prim.home) = true := by
        rw [hqs, List.append_assoc, List.flatMap_append, List.flatMap_append]; exact hd
      obtain ⟨γ', vs', G1, G2, G3, G4, G5⟩ := ih (vs := vs.set i (X.a.eval x)) (W.trans g1) (fun j x' hj => by
        rw [List.getElem?_set] at hj
        by_cases hij : i = j
        · subst hij
          rw [if_pos rfl, if_pos hi'] at hj
          cases hj
          exact ⟨X.a.eval x, cv, tg, e1, e2, by rw [List.getElem?_set, if_pos rfl, if_pos (by omega)], by rw [Nat.zero_add]; exact e3⟩
        · rw [if_neg hij] at hj
          obtain ⟨y, cv', t', f1, f2, f3, f4⟩ := hi j x' hj
          exact ⟨y, cv', t', f1, f2, by rw [List.getElem?_set, if_neg hij]; exact f3, g1.at f4⟩) (by simp [hl]) (by simp [hn]) h hd'
      refine ⟨γ', vs', G1, G2, G3, G4, ?_⟩
      rw [List.map_cons, fill_step (hpl i (by omega)) (single_cells hs) (by simp; omega)]
      simpa using G5

theorem op_build (r : Rel w0 wr nt X) (hG : GOK X) (hg : Holds X.a g) (hT : TabOK P T) {ti : TypeId} {parts : Array (Nat × Operand)} (ho : o.op = .build ti parts) {L : Leaf} {ps : List Prim} {v : SV}
    (h : ((Rd.ofOption (T.ty ti)).bind fun t => bif t.isAgg then (placeR st g t parts.toList [] (tagAll (.own true st) (unpack t t.zero))).bind fun q => .ret (Leaf.pure q.1 (.val true q.2)) else .fail).ev X.s = some L) (hL : Gives L ps v)
    (hd : nodupH (ps.flatMap Prim.home) = true) : OpOK P w0 wr nt X st dst o ps v := by
  obtain ⟨t, ht, h⟩ := Rd.invO h
  cases ha : t.isAgg with
  | false => rw [ha] at h; cases h
  | true =>
    rw [ha] at h
    obtain ⟨q, hq, h⟩ := Rd.inv h
    cases h
    obtain ⟨rfl, rfl⟩ := hL
    obtain ⟨inf, hi, hz, _, hz0⟩ := (hT ti t ht).info
    obtain ⟨fs, h1, h2, h3⟩ := (hT ti t ht).agg ha
    have hpm := places_of (P := P) fs.toList 0 (fun j f hj => by
      rw [Array.getElem?_toList] at hj
      have hlt : j < t.size := by rw [← h2]; exact (Array.getElem?_eq_some_iff.1 hj).1
      obtain ⟨fs', fd, inf', u, k1, k2, k3, k4, k5, _⟩ := agg_field hT ht ha hlt
      rw [h1] at k1; cases k1
      rw [hj] at k2; cases k2
      exact ⟨by omega, inf', k4, k5⟩)
    obtain ⟨N, hN⟩ := fresh_ex X.s
    have hzl : (zeroV t).cells.toList.length = (tagAll (.own true st) (unpack t t.zero)).length := by rw [zeroV_cells]; simp [tagAll]
    have hfl : fs.toList.length = t.size := by rw [Array.length_toList, h2]
    obtain ⟨γ', vs', W, hin, e1, e2, hf⟩ := place_went r hG hg (place := fun x => ((List.range' 0 t.size).map fun j => (j, 1))[x]?) (fun i hi => by simp [hi]) parts.toList (Went.nil r (Link.refl X) hN)
      (vs := (zeroV t).cells.toList) (fun j x hj => by
        obtain ⟨y, cv, tg, e, hy, hat⟩ := (zero_ats (st := st) t X.B0 X.γ X.w N 0).2 j x hj
        refine ⟨y, cv, tg, e, fun d st' e' => ?_, by rw [Array.getElem?_toList]; exact hy, hat⟩
        subst e; subst e'
        rw [tagAll_get] at hj
        cases hc : (unpack t t.zero)[j]? with
        | none => rw [hc] at hj; cases hj
        | some z => rw [hc, Option.map_some] at hj; cases hs : z.isSl <;> rw [hs] at hj <;> cases hj; rfl) hzl (by simp [tagAll, unpack_len]) hq hd
    have hbu : P.built ti (parts.map fun (i, x) => (i, X.a.eval x)).toList = some vs'.toArray := by
      unfold Program.built
      rw [hfl] at hpm
      simp only [hi, h1, hz0, hpm]
      simpa using hf
    have hrun : (execOp X.a.eval o).run P X.w = .ok (.value (.agg vs'.toArray)) X.w := by
      unfold execOp; rw [ho]
      have := run_build X.w ti (parts.map fun (i, x) => (i, X.a.eval x)) _ hbu
      simp [this]
    refine ⟨new_tr hin, W.noput, fun K Q hK => ?_⟩
    unfold Oper.wp
    rw [hrun]
    refine hK _ X.β X.w _ (W.laid fun n => (dst, 0 + n)) ⟨⟨_, rfl⟩, ?_, by rw [e2]; exact size_le t⟩
    exact (W.ats (d := dst) (c := 0) (vs := vs'.toArray) hin (by simpa using e1)).cells (X := After X (fun b => lay N (fun n => (dst, 0 + n)) (γ' b)) X.β q.1 X.w)

end
end Go.AM

/- A row of cells that become one owned slice. -/
namespace Go.AM

theorem asBool_eq {c : CV} {n : Bool} (h : c.asBool = some n) : c = .bool n := by
  cases c <;> simp only [CV.asBool] at h <;> cases h; rfl
theorem pack_eq : ∀ {u : Ty} {l : List CV} {y : u.den}, pack u l = some y → l = unpack u y := by
  intro u l y h
  cases u with
  | int k => match l, h with | [c], h => rw [asInt_eq h]; rfl
  | bool => match l, h with | [c], h => rw [asBool_eq h]; rfl
  | str => match l, h with | [c], h => rw [asStr_eq h]; rfl
  | sl t => match l, h with | [c], h => rw [asSl_eq h]; rfl
  | item =>
    match l, h with
    | [a, b, c], h =>
      simp only [pack] at h
      obtain ⟨n, hn, h⟩ := Option.bind_eq_some_iff.1 h
      obtain ⟨d, hd, h⟩ := Option.bind_eq_some_iff.1 h
      obtain ⟨t, ht, h⟩ := Option.bind_eq_some_iff.1 h
      cases h
      rw [asInt_eq hn, asInt_eq hd, asStr_eq ht]; rfl
  | mat =>
    match l, h with
    | [a, b, c], h =>
      simp only [pack] at h
      obtain ⟨n, hn, h⟩ := Option.bind_eq_some_iff.1 h
      obtain ⟨d, hd, h⟩ := Option.bind_eq_some_iff.1 h
      obtain ⟨t, ht, h⟩ := Option.bind_eq_some_iff.1 h
      cases h
      rw [asInt_eq hn, asInt_eq hd, asSl_eq ht]; rfl
  | vec =>
    match l, h with
    | [a, b, c, d, e, f, g, k], h =>
      simp only [pack] at h
      obtain ⟨x1, h1, h⟩ := Option.bind_eq_some_iff.1 h
      obtain ⟨x2, h2, h⟩ := Option.bind_eq_some_iff.1 h
      obtain ⟨x3, h3, h⟩ := Option.bind_eq_some_iff.1 h
      obtain ⟨x4, h4, h⟩ := Option.bind_eq_some_iff.1 h
      obtain ⟨x5, h5, h⟩ := Option.bind_eq_some_iff.1 h
      obtain ⟨x6, h6, h⟩ := Option.bind_eq_some_iff.1 h
      obtain ⟨x7, h7, h⟩ := Option.bind_eq_some_iff.1 h
      obtain ⟨x8, h8, h⟩ := Option.bind_eq_some_iff.1 h
      cases h
      rw [asInt_eq h1, asSl_eq h2, asSl_eq h3, asSl_eq h4, asSl_eq h5, asSl_eq h6, asInt_eq h7, asInt_eq h8]; rfl

theorem flat_get (u : Ty) : ∀ (ys : List u.den) (i j : Nat), i < ys.length → j < u.size → (ys.flatMap (unpack u))[i * u.size + j]? = (unpack u (ys.getD i u.zero))[j]? := by
  intro ys
  induction ys with
  | nil => intro i j hi; simp at hi
  | cons y ys ih =>
    intro i j hi hj
    rw [List.flatMap_cons]
    cases i with
    | zero => rw [Nat.zero_mul, Nat.zero_add, List.getElem?_append_left (by rw [unpack_len]; exact hj)]; rfl
    | succ i =>
      rw [List.getElem?_append_right (by rw [unpack_len, Nat.add_mul, Nat.one_mul]; omega), unpack_len, show (i + 1) * u.size + j - u.size = i * u.size + j by rw [Nat.add_mul, Nat.one_mul]; omega,
        ih i j (by simpa using hi) hj]
      rfl
theorem flat_len (u : Ty) (ys : List u.den) : (ys.flatMap (unpack u)).length = ys.length * u.size := by
  induction ys with
  | nil => simp
  | cons y ys ih => rw [List.flatMap_cons, List.length_append, ih, unpack_len, List.length_cons, Nat.add_mul, Nat.one_mul, Nat.add_comm]

theorem allDeep_get {l : List CT} (h : allDeep l = true) {j : Nat} {x : CT} (hj : l[j]? = some x) : ∃ v t, x = .at v t ∧ (v.isSl = true → ∃ st, t = .own true st) := by
  induction l generalizing j with
  | nil => simp at hj
  | cons y l ih =>
    cases y with
    | ref => cases h
    | «at» v t =>
      simp only [allDeep, Bool.and_eq_true, Bool.or_eq_true, Bool.not_eq_true'] at h
      cases j with
      | zero =>
        simp at hj; subst hj
        refine ⟨v, t, rfl, fun hs => ?_⟩
        rcases h.1 with h1 | h1
        · rw [hs] at h1; cases h1
        · cases t with
          | own d st => simp only at h1; subst h1; exact ⟨st, rfl⟩
          | _ => cases h1
      | succ j => exact ih h.2 (by simpa using hj)

theorem grab_nd {st : Nat} {k : Option Nat} {c : Nat} {x x' : CT} {ps : List Prim} {s : St} (h : (grabR st k c x).ev s = some (ps, x')) (v : CV) : x' ≠ .at v .dead := by
  cases x with
  | «at» v t =>
    simp only [grabR] at h
    cases hs : v.isSl with
    | false => rw [hs] at h; cases h; intro e; cases e
    | true =>
      rw [hs] at h
      cases t with
      | ps => cases h; intro e; cases e
      | sh => cases h; intro e; cases e
      | own d st0 => cases h; intro e; cases e
      | dead => cases h
  | ref h' c' st' t =>
    obtain ⟨p, _, h2⟩ := Rd.inv h
    cases h2
    intro e; cases e
theorem grabs_nd {st : Nat} {k : Option Nat} {s : St} : ∀ (l : List CT) (c : Nat) {ps : List Prim} {l' : List CT}, (grabsR st k c l).ev s = some (ps, l') → ∀ x ∈ l', ∀ v, x ≠ .at v .dead := by
  intro l
  induction l with
  | nil => intro c ps l' h; cases h; intro x hx; cases hx
  | cons x l ih =>
    intro c ps l' h
    obtain ⟨q, hq, h2⟩ := Rd.inv h
    obtain ⟨z, hz, h3⟩ := Rd.inv h2
    cases h3
    intro y hy v
    rcases List.mem_cons.1 hy with rfl | hy
    · exact grab_nd hq v
    · exact ih _ hz y hy v

/-- What is in transit goes under the home (d, c0). -/
def layNs (N d c0 : Nat) : Ow → Ow
  | .tp k c => if k = N then .ns d c0 else .tp k c
  | .ns k c => if k = N then .ns d c0 else .ns k c
  | o => o
theorem layNs_keeps {N : Nat} {s : St} (h : Fresh N s) (d c0 : Nat) : Keeps (layNs N d c0) s := by
  refine ⟨rfl, rfl, fun k c => ?_, fun _ _ => rfl, fun k c cv dd st hh => ?_⟩
  · right
    simp only [layNs]
    split <;> exact ⟨_, _, rfl⟩
  · have hk : k ≠ N := fun e => by subst e; exact h c cv dd st hh
    simp [layNs, hk]

section
variable {P : Program} {T : Tab} {w0 : World} {wr : Gh} {nt : Nat} {X : Cx} {st dst : Nat} {o : Oper} {g : List (Nat × Bool)}

/-- A block in transit, or a new one, is written and owned anew. -/
theorem Rel.lay2 (r : Rel w0 wr nt X) {N : Nat} (hN : Fresh N X.s) {b0 : Nat} {ow : Ow} {φ : Ow → Ow} (hφ : Keeps φ X.s) {w' : World} (hsz : X.w.heap.size ≤ w'.heap.size) (hg : (∃ n, X.γ b0 = .tp N n) ∨ X.w.heap.size ≤ b0) (hgs : b0 < w'.heap.size)
    (hw : ∀ b, b ≠ b0 → b < X.w.heap.size → w'.heap[b]? = X.w.heap[b]?) (rest : w'.os = X.w.os ∧ w'.tape = X.w.tape ∧ w'.output = X.w.output) :
    Rel w0 wr nt { X with γ := fun b => if b = b0 then ow else φ (X.γ b), w := w' } := by
  have r1 := r.map hφ
  have hlt : ∀ b, X.γ b ≠ .none → b < X.w.heap.size := fun b hb => by
    rcases Nat.lt_or_ge b X.w.heap.size with h | h
    · exact h
    · exact absurd (r.lim b h) hb
  have ne_sh : ∀ b, b < X.w.heap.size → okSh X.γ b → b ≠ b0 := by
    intro b hb q e
    subst e
    rcases hg with ⟨n, hg⟩ | hg
    · rcases q with q | ⟨k, c, q⟩ <;> rw [hg] at q <;> cases q
    · omega
  have hsh : Stays X.γ (fun b => if b = b0 then ow else φ (X.γ b)) X.w w' := ⟨fun b hb q => by
    have hne := ne_sh b hb q
    refine ⟨?_, hw b hne hb⟩
    have := hφ.sh q
    unfold okSh at this ⊢
    simpa [hne] using this⟩
  refine r.frame hsh hsz (fun k c cv d st' hh => ⟨fun b q => ?_, fun b q => ?_⟩) (fun q l hb => ?_) (fun b hb => ?_) (fun b hb hn => ?_) rest
  · have hb := hlt b (by rw [q]; simp)
    have hne : b ≠ b0 := by
      intro e
      subst e
      rcases hg with ⟨n, hg⟩ | hg
      · rw [hg] at q; cases q; exact hN _ _ _ _ hh
      · omega
    exact ⟨by simp only [if_neg hne, q, (hφ.own k c cv d st' hh).1], hw b hne hb⟩
  · have hb := hlt b (by rw [q]; simp)
    have hne := ne_sh b hb (.inr ⟨k, c, q⟩)
    exact ⟨by simp only [if_neg hne, q, (hφ.own k c cv d st' hh).2], hw b hne hb⟩
  · obtain ⟨_, _, _, h2, _⟩ := r.box q l hb
    have hbl := hlt (X.β q) (by rw [h2]; simp)
    have hne : X.β q ≠ b0 := by
      intro e
      rcases hg with ⟨n, hg⟩ | hg
      · rw [← e, h2] at hg; cases hg
      · omega
    exact ⟨by simp only [if_neg hne, h2, hφ.bx q (by rw [hb]; rfl)], hw _ hne hbl⟩
  · have hb' : w'.heap.size ≤ b := hb
    have hne : b ≠ b0 := by omega
    simp only [if_neg hne, r.lim b (by omega), hφ.none]
  · have hb' : b < X.w.heap.size := Nat.lt_of_lt_of_le hb r.le
    obtain ⟨h1, h2⟩ := r.old b hb hn
    have hne : b ≠ b0 := by
      intro e
      subst e
      rcases hg with ⟨n, hg⟩ | hg
      · exact h2.notp _ _ hg
      · omega
    exact ⟨(hw b hne hb').trans h1, h2.map (fun e => by simp only [if_neg hne, e, hφ.fo]) (fun e => by simp only [if_neg hne, e, hφ.none]) (fun e => (hsh.sh b hb' e).1)⟩

/-- A cell in transit, read. -/
theorem tr_rep {B0 N n : Nat} {γ γ2 : Gh} {w w' : World} {y : Value} {e : CV} {t : Tag} (h : AtOK B0 γ w N n y e t) (hd : e.isSl = true → t ≠ .dead) (hok : ∀ b, b < w.heap.size → okSh γ b → okSh γ2 b) (htp : ∀ b, γ b = .tp N n → okSh γ2 b)
    (hw : ∀ b, b < w.heap.size → okSh γ b ∨ γ b = .tp N n → w'.heap[b]? = w.heap[b]?) : Rep w' (okSh γ2) y e := by
  cases e with
  | int k n => have e : y = .int k n := h; rw [e]; exact .int k n
  | bool b => have e : y = .bool b := h; rw [e]; exact .bool b
  | str s => have e : y = .string s := h; rw [e]; exact .str s
  | sl t' zs =>
    cases t with
    | ps => exact Rep.mono (fun b hb q => ⟨hok b hb q.2, hw b hb (.inl q.2)⟩) h
    | sh => exact Rep.mono (fun b hb q => ⟨hok b hb q, hw b hb (.inl q)⟩) h
    | own dd st0 =>
      refine Rep.mono (fun b hb q => ⟨?_, hw b hb (q.elim .inr .inl)⟩) (OwnS.rep h)
      rcases q with q | q
      · exact htp b q
      · exact hok b hb q
    | dead => exact absurd rfl (hd rfl)
/-- A cell in transit that is owned all the way down. -/
theorem tr_deep {B0 N n : Nat} {γ : Gh} {w w' : World} {y : Value} {e : CV} {t : Tag} (h : AtOK B0 γ w N n y e t) (hd : e.isSl = true → ∃ st, t = .own true st)
    (hw : ∀ b, γ b = .tp N n ∨ γ b = .ns N n → w'.heap[b]? = w.heap[b]?) {Q : Nat → Prop} (hQ : ∀ b, γ b = .tp N n ∨ γ b = .ns N n → Q b) : Deep w' Q y e := by
  cases e with
  | int k n => have e : y = .int k n := h; rw [e]; exact .int _ k n
  | bool b => have e : y = .bool b := h; rw [e]; exact .bool _ b
  | str s => have e : y = .string s := h; rw [e]; exact .str _ s
  | sl t' zs =>
    obtain ⟨st0, e3⟩ := hd rfl
    subst e3
    exact (OwnS.deep h).mono fun b q => ⟨hQ b q, hw b q⟩

/-- Cells in transit, read under the home (d, 0). -/
theorem under_new {N : Nat} {γ : Gh} {w w' : World} {d b0 B0 : Nat} {ow : Ow} {vs : List Value} {l : List CT} {u : Ty} {ys : List u.den} (hN : ∀ j x, l[j]? = some x → ∃ y cv t, x = .at cv t ∧ vs[j]? = some y ∧ AtOK B0 γ w N j y cv t)
    (hl : l.map CT.cv = ys.flatMap (unpack u)) (hnd : ∀ x ∈ l, ∀ v, x ≠ .at v .dead) (hsh0 : ∀ b, b < w.heap.size → b ≠ b0 → w'.heap[b]? = w.heap[b]?) (hb1 : w.heap.size ≤ b0) (hlim : ∀ b, w.heap.size ≤ b → γ b = .none) :
    Under w' (fun b => if b = b0 then ow else layNs N d 0 (γ b)) d 0 (allDeep l) u ys (fun i j => vs.getD (i * u.size + j) undef) := by
  have hlt : ∀ b, γ b ≠ .none → b < w.heap.size := fun b hb => by
    rcases Nat.lt_or_ge b w.heap.size with h | h
    · exact h
    · exact absurd (hlim b h) hb
  have cell : ∀ i j e, i < ys.length → (unpack u (ys.getD i u.zero))[j]? = some e → j < u.size ∧ ∃ y t, l[i * u.size + j]? = some (.at e t) ∧ vs[i * u.size + j]? = some y ∧ AtOK B0 γ w N (i * u.size + j) y e t := by
    intro i j e hi he
    have hj : j < u.size := by have := (List.getElem?_eq_some_iff.1 he).1; rwa [unpack_len] at this
    rw [← flat_get u ys i j hi hj, ← hl, List.getElem?_map] at he
    cases hx : l[i * u.size + j]? with
    | none => rw [hx] at he; cases he
    | some x =>
      rw [hx] at he
      obtain ⟨y, cv, t, rfl, hy, hat⟩ := hN _ x hx
      cases he
      exact ⟨hj, y, t, rfl, hy, hat⟩
  have okN : ∀ b, b < w.heap.size → okSh γ b → okSh (fun b => if b = b0 then ow else layNs N d 0 (γ b)) b := by
    intro b hb q
    have hne : b ≠ b0 := by omega
    rcases q with q | ⟨k, c, q⟩
    · left; simp only [if_neg hne, q, layNs]
    · right
      simp only [if_neg hne, q, layNs]
      split <;> exact ⟨_, _, rfl⟩
  have rep : ∀ i j e, i < ys.length → (unpack u (ys.getD i u.zero))[j]? = some e → (∀ t, l[i * u.size + j]? = some (.at e t) → e.isSl = true → t ≠ .dead) → Rep w' (okSh (fun b => if b = b0 then ow else layNs N d 0 (γ b))) (vs.getD (i * u.size + j) undef) e := by
    intro i j e hi he hd
    obtain ⟨hj, y, t, h1, h2, h3⟩ := cell i j e hi he
    rw [List.getD_eq_getElem?_getD, h2, Option.getD_some]
    cases e with
    | int k n => have e : y = .int k n := h3; rw [e]; exact .int k n
    | bool b => have e : y = .bool b := h3; rw [e]; exact .bool b
    | str s => have e : y = .string s := h3; rw [e]; exact .str s
    | sl t' zs =>
      cases t with
      | ps => exact Rep.mono (fun b hb q => ⟨okN b hb q.2, hsh0 b hb (by omega)⟩) h3
      | sh => exact Rep.mono (fun b hb q => ⟨okN b hb q, hsh0 b hb (by omega)⟩) h3
      | own dd st0 =>
        refine Rep.mono (fun b hb q => ⟨?_, hsh0 b hb (by omega)⟩) (OwnS.rep h3)
        rcases q with q | q
        · right
          have hne : b ≠ b0 := by omega
          exact ⟨d, 0, by simp only [if_neg hne, q, layNs, if_true]⟩
        · exact okN b hb q
      | dead => exact absurd rfl (hd _ h1 rfl)
  cases hdp : allDeep l with
  | true =>
    refine ⟨fun i j b => j < u.size ∧ (γ b = .tp N (i * u.size + j) ∨ γ b = .ns N (i * u.size + j)), fun i j b q => ?_, fun i j i' j' b q q' => ?_, fun i j e hi he => ?_⟩
    · have hb := hlt b (by rcases q.2 with q | q <;> rw [q] <;> simp)
      have hne : b ≠ b0 := by omega
      rcases q.2 with q | q <;> simp only [if_neg hne, q, layNs, if_true]
    · obtain ⟨hj, q⟩ := q
      obtain ⟨hj', q'⟩ := q'
      have e : i * u.size + j = i' * u.size + j' := by
        rcases q with q | q <;> rcases q' with q' | q' <;> rw [q] at q' <;> injection q'
      have hi : i = i' := by
        have h1 : (i * u.size + j) / u.size = i := by rw [Nat.add_comm, Nat.add_mul_div_right _ _ u.size_pos, Nat.div_eq_of_lt hj, Nat.zero_add]
        have h2 : (i' * u.size + j') / u.size = i' := by rw [Nat.add_comm, Nat.add_mul_div_right _ _ u.size_pos, Nat.div_eq_of_lt hj', Nat.zero_add]
        rw [← h1, ← h2, e]
      subst hi
      exact ⟨rfl, by omega⟩
    · obtain ⟨hj, y, t, h1, h2, h3⟩ := cell i j e hi he
      simp only [List.getD_eq_getElem?_getD, h2, Option.getD_some]
      obtain ⟨v, t', e1, e2⟩ := allDeep_get hdp h1
      cases e1
      cases e with
      | int k n => have e : y = .int k n := h3; rw [e]; exact .int _ k n
      | bool b => have e : y = .bool b := h3; rw [e]; exact .bool _ b
      | str s => have e : y = .string s := h3; rw [e]; exact .str _ s
      | sl t' zs =>
        obtain ⟨st0, e3⟩ := e2 rfl
        subst e3
        refine (OwnS.deep h3).mono fun b q => ⟨⟨hj, q⟩, ?_⟩
        have hb := hlt b (by rcases q with q | q <;> rw [q] <;> simp)
        exact hsh0 b hb (by omega)
  | false =>
    intro i j e hi he
    refine rep i j e hi he fun t ht hs e' => ?_
    subst e'
    exact hnd _ (List.mem_of_getElem? ht) e rfl

end
end Go.AM

/- buildSlice, makeSlice. -/
namespace Go.AM
section
variable {P : Program} {T : Tab} {w0 : World} {wr : Gh} {nt : Nat} {X : Cx} {st dst : Nat} {o : Oper} {g : List (Nat × Bool)}

theorem fold_set (off : Nat) : ∀ (l : List Value) (k : Nat) (cs : Array Value), off + k + l.length ≤ cs.size →
    (l.zipIdx k).foldl (fun cs (p : Value × Nat) => cs.setIfInBounds (off + p.2) p.1) cs = (cs.toList.take (off + k) ++ l ++ cs.toList.drop (off + k + l.length)).toArray := by
  intro l
  induction l with
  | nil => intro k cs h; apply Array.toList_inj.1; simp
  | cons v l ih =>
    intro k cs h
    rw [List.zipIdx_cons, List.foldl_cons, ih (k + 1) _ (by simp at h ⊢; omega)]
    apply Array.toList_inj.1
    simp only [List.length_cons] at h ⊢
    apply List.ext_getElem?
    intro j
    have e1 : off + (k + 1) = off + k + 1 := by omega
    have e2 : off + k + 1 + l.length = off + k + (l.length + 1) := by omega
    simp only [e1, e2, Array.toList_setIfInBounds, List.append_assoc, List.getElem?_append, List.length_take, List.length_set, Array.length_toList, List.getElem?_take, List.getElem?_set, List.getElem?_drop]
    have m1 : min (off + k + 1) cs.size = off + k + 1 := by omega
    have m2 : min (off + k) cs.size = off + k := by omega
    rw [m1, m2]
    by_cases h1 : j < off + k
    · rw [if_pos (by omega), if_pos (by omega), if_neg (by omega), if_pos h1, if_pos (by omega)]
    · rw [if_neg h1]
      by_cases h2 : j = off + k
      · subst h2
        rw [if_pos (by omega), if_pos (by omega), if_pos rfl, if_pos (by omega)]
        simp
      · rw [if_neg (by omega)]
        obtain ⟨i, rfl⟩ : ∃ i, j = off + k + (i + 1) := ⟨j - (off + k) - 1, by omega⟩
        rw [show off + k + (i + 1) - (off + k + 1) = i by omega, show off + k + (i + 1) - (off + k) = i + 1 by omega]
        simp only [List.getElem?_cons_succ, List.length_cons]
        by_cases h3 : i < l.length
        · rw [if_pos h3, if_pos (by omega)]
        · rw [if_neg h3, if_neg (by omega), if_neg (by omega)]
          congr 1; omega

theorem allDeep_append (l m : List CT) : allDeep (l ++ m) = (allDeep l && allDeep m) := by
  induction l with
  | nil => rfl
  | cons x l ih =>
    cases x with
    | ref => rfl
    | «at» v t => simp only [List.cons_append, allDeep, ih, Bool.and_assoc]

theorem fill_block {place : Nat → Option (Nat × Nat)} {cells : Array Value} {i off size : Nat} {y : Value} {rest : List (Nat × Value)} (hp : place i = some (off, size)) (hy : y.cells.size = size) (hi : off + size ≤ cells.size) :
    Instr.fill place cells ((i, y) :: rest) = Instr.fill place (cells.toList.take off ++ y.cells.toList ++ cells.toList.drop (off + size)).toArray rest := by
  have h : ¬ (off + y.cells.size > cells.size) := by omega
  have hf := fold_set off y.cells.toList 0 cells (by rw [Array.length_toList]; omega)
  simp only [Instr.fill, hp]
  have hf' : (decide (y.cells.size ≠ size) || decide (off + y.cells.size > cells.size)) = false := by simp [hy]; omega
  rw [if_neg (by rw [hf']; simp)]
  congr 1
  rw [← Array.foldl_toList, Array.toList_zipIdx]
  simp only [Nat.add_zero, Array.length_toList, hy] at hf
  exact hf

theorem Opnd.gwent (r : Rel w0 wr nt X) {k : Option Nat} {y : Value} {a : Bool} {l : List CT} (hop : Opnd X k y (.val a l)) {X1 : Cx} {H : List (Nat × Nat)} (r1 : Rel w0 wr nt X1) (L : Link X X1 H) {N : Nat} (hN : Fresh N X1.s) (n : Nat) {ps : List Prim} {l' : List CT}
    (he : (grabsR st k 0 l).ev X.s = some (ps, l')) (hH : ∀ q ∈ ps.flatMap Prim.home, q ∉ H) (hd : nodupH (ps.flatMap Prim.home) = true) :
    ∃ γ', Went w0 wr nt X X1 H N ps γ' ∧ l'.length = l.length ∧ InTr X1 γ' N n st y.cells.toList l' ∧ y.cells.size = l.length := by
  obtain ⟨h1, h2, h3, h4⟩ := hop.lies r
  obtain ⟨γ', g1, g2, g3⟩ := grabs_went l r1 L hN n 0 (fun j x hj => by obtain ⟨z, hz, hl⟩ := h4 j x hj; exact ⟨z, by rw [Array.getElem?_toList]; exact hz, by rw [Nat.zero_add]; exact hl⟩) he hH hd
  exact ⟨γ', g1, g2, g3, h2⟩

theorem elems_went (r : Rel w0 wr nt X) (hG : GOK X) (hg : Holds X.a g) {u : Ty} {place : Nat → Option (Nat × Nat)} (hpl : ∀ i, place i = some (i * u.size, u.size)) {N : Nat} :
    ∀ (parts : List (Nat × Operand)) (n : Nat) {X1 : Cx} {H : List (Nat × Nat)} {z : List Prim × List u.den × Bool}, Rel w0 wr nt X1 → Link X X1 H → Fresh N X1.s → (elemsR st g u n parts).ev X.s = some z →
      (∀ q ∈ z.1.flatMap Prim.home, q ∉ H) → nodupH (z.1.flatMap Prim.home) = true →
      ∃ γ' l vs, Went w0 wr nt X X1 H N z.1 γ' ∧ InTr X1 γ' N (n * u.size) st vs l ∧ vs.length = l.length ∧ l.map CT.cv = z.2.1.flatMap (unpack u) ∧ allDeep l = z.2.2 ∧ z.2.1.length = parts.length ∧ (∀ x ∈ l, ∀ v, x ≠ .at v .dead) ∧
        ∀ cells : Array Value, cells.size = (n + parts.length) * u.size → Instr.fill place cells (parts.map fun p => (p.1, X.a.eval p.2)) = some (cells.toList.take (n * u.size) ++ vs).toArray := by
  intro parts
  induction parts with
  | nil =>
    intro n X1 H z r1 L hN h hH hd
    cases h
    refine ⟨X1.γ, [], [], Went.nil r1 L hN, fun j x hj => by simp at hj, rfl, rfl, rfl, rfl, (fun x hx => by cases hx), fun cells hc => ?_⟩
    simp only [List.length_nil, Nat.add_zero] at hc
    simp only [List.map_nil, Instr.fill, ← hc, List.append_nil, Option.some.injEq]
    apply Array.toList_inj.1
    rw [← Array.length_toList, List.take_length]
  | cons p parts ih =>
    intro n X1 H z r1 L hN h hH hd
    obtain ⟨i, x⟩ := p
    simp only [elemsR] at h
    cases hb : Nat.beq i n with
    | false => rw [hb] at h; cases h
    | true =>
      have e := Nat.eq_of_beq_eq_true hb
      subst e
      rw [hb] at h
      simp only [cond_true] at h
      obtain ⟨p, hp, h⟩ := Rd.inv h
      obtain ⟨l0, hl0, h⟩ := Rd.inv h
      obtain ⟨q, hq, h⟩ := Rd.inv h
      obtain ⟨y, hy, h⟩ := Rd.invO h
      obtain ⟨z', hz, h⟩ := Rd.inv h
      cases h
      have hop := opd_ok r hG hg hp
      obtain ⟨pk, sv⟩ := p
      cases sv with
      | val a m =>
        cases hl0
        rw [List.flatMap_append] at hH hd
        obtain ⟨d1, d2, d3⟩ := homes_append hd
        obtain ⟨γ1, g1, g2, g3, g4⟩ := hop.gwent r r1 L hN (i * u.size) hq (fun s hs => hH s (List.mem_append_left _ hs)) d1
        obtain ⟨γ2, l2, vs2, k1, k2, k3, k4, k5, k6, k7, k8⟩ := ih (i + 1) g1.rel g1.link g1.fresh hz (fun s hs hm => by
          rcases List.mem_append.1 hm with h | h
          · exact d3 s h hs
          · exact hH s (List.mem_append_right _ hs) h) d2
        have hpk := pack_eq hy
        have hql : q.2.length = u.size := by rw [← List.length_map (f := CT.cv), hpk, unpack_len]
        refine ⟨γ2, q.2 ++ l2, (X.a.eval x).cells.toList ++ vs2, g1.trans k1, fun j x' hj => ?_, by simp [k3, g2, g4], by simp [hpk, k4], by rw [allDeep_append, k5], by simp [k6], fun x' hx' => ?_, fun cells hc => ?_⟩
        · by_cases hjl : j < q.2.length
          · rw [List.getElem?_append_left hjl] at hj
            obtain ⟨y', cv, t, f1, f2, f3, f4⟩ := g3 j x' hj
            exact ⟨y', cv, t, f1, f2, by rw [List.getElem?_append_left (by rw [Array.length_toList, g4, ← g2]; exact hjl)]; exact f3, k1.at f4⟩
          · rw [List.getElem?_append_right (by omega)] at hj
            obtain ⟨y', cv, t, f1, f2, f3, f4⟩ := k2 _ x' hj
            refine ⟨y', cv, t, f1, f2, ?_, ?_⟩
            · rw [List.getElem?_append_right (by rw [Array.length_toList, g4, ← g2]; omega), Array.length_toList, g4, ← g2]; exact f3
            · have e : (i + 1) * u.size + (j - q.2.length) = i * u.size + j := by rw [Nat.add_mul, Nat.one_mul, hql]; omega
              rw [e] at f4; exact f4
        · rcases List.mem_append.1 hx' with h | h
          · exact grabs_nd _ _ hq x' h
          · exact k7 x' h
        · have hsz : (X.a.eval x).cells.size = u.size := by rw [g4, ← g2, hql]
          have hle : i * u.size + u.size ≤ cells.size := by
            rw [hc, List.length_cons, show i * u.size + u.size = (i + 1) * u.size by rw [Nat.add_mul, Nat.one_mul]]
            exact Nat.mul_le_mul_right _ (by omega)
          rw [List.map_cons, fill_block (hpl i) hsz hle, k8 _ (by
            rw [List.length_cons] at hc
            simp only [List.size_toArray, List.length_append, List.length_take, Array.length_toList, List.length_drop, hsz]
            rw [show i + 1 + parts.length = i + (parts.length + 1) by omega, ← hc]
            omega)]
          congr 2
          rw [show (i + 1) * u.size = i * u.size + u.size by rw [Nat.add_mul, Nat.one_mul], ← List.append_assoc]
          congr 1
          have hlen : (cells.toList.take (i * u.size) ++ (X.a.eval x).cells.toList).length = i * u.size + u.size := by
            simp only [List.length_append, List.length_take, Array.length_toList, hsz]; omega
          show List.take (i * u.size + u.size) (cells.toList.take (i * u.size) ++ (X.a.eval x).cells.toList ++ cells.toList.drop (i * u.size + u.size)) = _
          rw [← hlen, List.take_left]
      | un => cases hl0
      | fp => cases hl0
      | ep => cases hl0
      | es => cases hl0
      | tup => cases hl0
      | sub => cases hl0
      | clo => cases hl0

/-- The new row, as the state holds it. -/
theorem Went.row {N : Nat} {ps : List Prim} {γ' : Gh} (W : Went w0 wr nt X X [] N ps γ') {vs : List Value} {l : List CT} {u : Ty} {ys : List u.den} (hi : InTr X γ' N 0 st vs l) (hl : l.map CT.cv = ys.flatMap (unpack u)) (hvl : vs.length = l.length)
    (hnd : ∀ x ∈ l, ∀ v, x ≠ .at v .dead) (e : TypeId) (d : Nat) :
    ∃ γ'', Rel w0 wr nt (After X γ'' X.β ps { X.w with heap := X.w.heap.push (.cells vs.toArray e (0, 0)) }) ∧
      OwnS { X.w with heap := X.w.heap.push (.cells vs.toArray e (0, 0)) } γ'' d 0 (allDeep l) (.slice (some ⟨X.w.heap.size, 0, none⟩) ys.length ys.length) u ys := by
  have hlen : vs.length = ys.length * u.size := by rw [hvl, ← List.length_map (f := CT.cv), hl, flat_len]
  refine ⟨fun b => if b = X.w.heap.size then .tp d 0 else layNs N d 0 (γ' b), ?_, .inr ⟨X.w.heap.size, ys.length, vs.toArray, e, fun i j => vs.getD (i * u.size + j) undef, rfl, by simp, by simp, by simp [hlen], Nat.le_refl _, fun i j hi' hj => ?_, ?_⟩⟩
  · exact W.rel.lay2 W.fresh (b0 := X.w.heap.size) (ow := .tp d 0) (φ := layNs N d 0) (layNs_keeps W.fresh d 0) (w' := { X.w with heap := X.w.heap.push (.cells vs.toArray e (0, 0)) }) (by simp) (.inr (Nat.le_refl _)) (by simp)
      (fun b _ hb => heap_push_old hb) ⟨rfl, rfl, rfl⟩
  · have hlt : i * u.size + j < vs.length := by
      rw [hlen]
      have : (i + 1) * u.size ≤ ys.length * u.size := Nat.mul_le_mul_right _ hi'
      rw [Nat.add_mul, Nat.one_mul] at this
      omega
    simp only [List.getElem?_toArray, List.getD_eq_getElem?_getD, List.getElem?_eq_getElem hlt, Option.getD_some]
  · refine under_new (N := N) (γ := γ') (w := X.w) (B0 := X.B0) (vs := vs) (fun j x hj => ?_) hl hnd (fun b hb _ => heap_push_old hb) (Nat.le_refl _) W.rel.lim
    obtain ⟨y, cv, t, h1, _, h3, h4⟩ := hi j x hj
    rw [Nat.zero_add] at h4
    exact ⟨y, cv, t, h1, h3, h4⟩

theorem new_one {u : Ty} {ys : List u.den} {d : Bool} : NewSV st (one (.sl u ys) (.own d st)) := by
  refine .inr ⟨fun h c st' hr => ?_, fun c cv dd st' hc => ?_⟩
  · rcases hr with ⟨a', l', t, e, hin⟩ | ⟨t, i, o, e⟩ | ⟨t, lo, hi, e⟩ | ⟨l', p, t, e, _⟩
    · cases e; simp at hin
    · cases e
    · cases e
    · cases e
  · cases c with
    | zero => simp only [one, cellSV, List.getElem?_cons_zero, Option.some.injEq, CT.at.injEq, Tag.own.injEq] at hc; exact hc.2.2.symm
    | succ c => simp [one, cellSV] at hc
theorem sv_own {X' : Cx} {d : Nat} {v : Value} {dp : Bool} {u : Ty} {ys : List u.den} (h : OwnS X'.w X'.γ d 0 dp v u ys) : SVOK X' d v (one (.sl u ys) (.own dp st)) := by
  have hs : single v = true := by obtain ⟨A, n, m, rfl⟩ := h.isSl; rfl
  refine ⟨hs, ⟨by rw [single_cells hs]; rfl, fun j x hj => ?_⟩, by simp⟩
  cases j with
  | zero => simp at hj; subst hj; exact ⟨v, by rw [single_cells hs]; rfl, h⟩
  | succ j => simp at hj

theorem op_buildSlice (r : Rel w0 wr nt X) (hG : GOK X) (hg : Holds X.a g) (hT : TabOK P T) {ti : TypeId} {n : Nat} {parts : Array (Nat × Operand)} (ho : o.op = .buildSlice ti n parts) {L : Leaf} {ps : List Prim} {v : SV}
    (h : ((Rd.ofOption (T.ty ti)).bind fun t => match t with
      | .sl u => bif Nat.beq n parts.size && Nat.ble (n * u.size) 16777216 then (elemsR st g u 0 parts.toList).bind fun q => .ret (Leaf.pure q.1 (one (.sl u q.2.1) (.own q.2.2 st))) else .fail
      | _ => .fail).ev X.s = some L) (hL : Gives L ps v) (hd : nodupH (ps.flatMap Prim.home) = true) : OpOK P w0 wr nt X st dst o ps v := by
  obtain ⟨t, ht, h⟩ := Rd.invO h
  cases t with
  | sl u =>
    obtain ⟨e, he, hte⟩ := (hT ti _ ht).sl u rfl
    obtain ⟨inf, hi, hz, _, hz0⟩ := (hT e u hte).info
    cases hc : Nat.beq n parts.size && Nat.ble (n * u.size) 16777216 with
    | false => simp only [hc] at h; cases h
    | true =>
      simp only [hc, cond_true] at h
      simp only [Bool.and_eq_true] at hc
      have hn : n = parts.size := Nat.eq_of_beq_eq_true hc.1
      have hle : n * u.size ≤ 16777216 := Nat.le_of_ble_eq_true hc.2
      obtain ⟨q, hq, h⟩ := Rd.inv h
      cases h
      obtain ⟨rfl, rfl⟩ := hL
      obtain ⟨N, hN⟩ := fresh_ex X.s
      obtain ⟨γ', l, vs, W, hin, e1, e2, e3, e4, e5, e6⟩ := elems_went r hG hg (u := u) (place := fun i => some (i * u.size, u.size)) (fun i => rfl) parts.toList 0 r (Link.refl X) hN hq (fun s _ hs => by cases hs) hd
      rw [Nat.zero_mul] at hin
      have hll : q.2.1.length = n := by rw [e4, Array.length_toList, hn]
      have hf := fun cells hcs => e6 cells hcs
      obtain ⟨γ'', r2, own⟩ := W.row hin e2 e1 e5 e dst
      rw [hll, e3] at own
      have hrun : (execOp X.a.eval o).run P X.w = .ok (.value (.slice (some ⟨X.w.heap.size, 0, none⟩) n n)) { X.w with heap := X.w.heap.push (.cells vs.toArray e (0, 0)) } := by
        unfold execOp; rw [ho]
        have hno : ¬ (16777216 < n * u.size) := by omega
        have hfill : ∀ z : Array Value, Instr.fill (fun i => some (i * u.size, u.size)) ((Array.range (n * u.size)).map (z[· % z.size]!)) (parts.toList.map fun p => (p.1, X.a.eval p.2)) = some vs.toArray := by
          intro z
          rw [hf _ (by simp [hn])]
          simp
        by_cases hz1 : n * u.size = 0
        · have := hfill #[]
          simp [hz1] at this
          simp [Instr.buildSlice, run_underlying he, sizeOf, typeInfo, hi, hz, hz1, this, newRow]
        · have := hfill (zeroV u).cells
          simp [Instr.buildSlice, run_underlying he, sizeOf, typeInfo, zeroValue, hi, hz, hz0, hno, hz1, this, newRow]
      refine ⟨new_one, W.noput, fun K Q hK => ?_⟩
      unfold Oper.wp
      rw [hrun]
      exact hK γ'' X.β _ _ r2 (sv_own own)
  | int k => cases h
  | bool => cases h
  | str => cases h
  | item => cases h
  | vec => cases h
  | mat => cases h

end
end Go.AM

/- makeSlice, convert, slice. -/
namespace Go.AM
section
variable {P : Program} {T : Tab} {w0 : World} {wr : Gh} {nt : Nat} {X : Cx} {st dst : Nat} {o : Oper} {g : List (Nat × Bool)}

theorem zero_deep (t : Ty) {j : Nat} {c : CV} (h : (unpack t t.zero)[j]? = some c) (w : World) (Q : Nat → Prop) : Deep w Q (valOf c) c := by
  have hc : c ∈ unpack t t.zero := List.mem_of_getElem? h
  have : ∀ c ∈ unpack t t.zero, match c with | .sl _ xs => xs = [] | _ => True := by
    cases t <;> simp [unpack, Ty.zero]
  have hh := this c hc
  cases c with
  | int k n => exact .int _ _ _
  | bool b => exact .bool _ _
  | str s => exact .str _ _
  | sl u xs => simp only at hh; subst hh; exact .nil _ _

theorem made_get {u : Ty} {n i j : Nat} {c : CV} (hi : i < n) (hc : (unpack u u.zero)[j]? = some c) : (madeCells (zeroV u).cells (n * u.size))[i * u.size + j]? = some (valOf c) := by
  have hj : j < u.size := by have := (List.getElem?_eq_some_iff.1 hc).1; rwa [unpack_len] at this
  have hlt : i * u.size + j < n * u.size := by
    have : (i + 1) * u.size ≤ n * u.size := Nat.mul_le_mul_right _ hi
    rw [Nat.add_mul, Nat.one_mul] at this
    omega
  have hzs : (zeroV u).cells.size = u.size := by rw [zeroV_cells]; simp [unpack_len]
  have hm : (i * u.size + j) % u.size = j := by rw [Nat.add_comm, Nat.add_mul_mod_self_right, Nat.mod_eq_of_lt hj]
  simp only [madeCells, Array.getElem?_map, Array.getElem?_range, if_pos hlt, Option.map_some, hzs, hm]
  congr 1
  rw [getElem!_pos _ _ (by rw [hzs]; exact hj)]
  have := congrArg (fun (a : Array Value) => a[j]?) (zeroV_cells u)
  simp only [List.getElem?_toArray, List.getElem?_map, hc, Option.map_some] at this
  exact (Array.getElem?_eq_some_iff.1 this).2

theorem op_makeSlice (r : Rel w0 wr nt X) (hG : GOK X) (hg : Holds X.a g) (hT : TabOK P T) {ti : TypeId} {n m : Operand} (ho : o.op = .makeSlice ti n m) {L : Leaf} {ps : List Prim} {v : SV}
    (h : ((Rd.ofOption (T.ty ti)).bind fun t => match t with
      | .sl u => (opdInt st g n).bind fun x => (opdInt st g m).bind fun y =>
          .ret (Leaf.chk (decide (0 ≤ x.2) && (decide (x.2 ≤ LIM) && x.2 == y.2)) [] (one (.sl u (List.replicate x.2.toNat u.zero)) (.own true st)))
      | _ => .fail).ev X.s = some L) (hL : Gives L ps v) : OpOK P w0 wr nt X st dst o ps v := by
  obtain ⟨t, ht, h⟩ := Rd.invO h
  cases t with
  | sl u =>
    obtain ⟨e, he, hte⟩ := (hT ti _ ht).sl u rfl
    obtain ⟨inf, hi, hz, hby, hz0⟩ := (hT e u hte).info
    obtain ⟨x, hx, h⟩ := Rd.inv h
    obtain ⟨y, hy, h⟩ := Rd.inv h
    cases h
    obtain ⟨hc, rfl, rfl⟩ := hL
    simp only [Bool.and_eq_true, decide_eq_true_eq, beq_iff_eq] at hc
    obtain ⟨h0, h1, h2⟩ := hc
    have hxv := opdInt_ok r hG hg hx
    have hyv := opdInt_ok r hG hg hy
    simp only [LIM] at h1
    have hrun := run_make (P := P) X.w ti e inf (zeroV u) he hi hz0 x.1 y.1 x.2 y.2 h0 (by omega) (by
      have : (inf.bytes : Int) * y.2 ≤ 256 * y.2 := Int.mul_le_mul_of_nonneg_right (by omega) (by omega)
      omega) (by omega)
    rw [← h2] at hrun
    have hrun' : (execOp X.a.eval o).run P X.w = .ok (.value (.slice (some ⟨X.w.heap.size, 0, none⟩) x.2.toNat x.2.toNat)) { X.w with heap := X.w.heap.push (.cells (madeCells (zeroV u).cells (x.2.toNat * u.size)) e (0, 0)) } := by
      unfold execOp; rw [ho]
      rw [hz] at hrun
      rw [← h2] at hyv
      simp only [hxv, hyv, Sem.run_bind, hrun, Result.andThen_ok, Sem.run_pure]
      rfl
    obtain ⟨N, hN⟩ := fresh_ex X.s
    have r2 := r.lay2 hN (b0 := X.w.heap.size) (ow := .tp dst 0) (φ := layNs N dst 0) (layNs_keeps hN dst 0) (w' := { X.w with heap := X.w.heap.push (.cells (madeCells (zeroV u).cells (x.2.toNat * u.size)) e (0, 0)) }) (by simp) (.inr (Nat.le_refl _)) (by simp)
      (fun b _ hb => heap_push_old hb) ⟨rfl, rfl, rfl⟩
    refine ⟨new_one, (fun p hp => by cases hp), fun K Q hK => ?_⟩
    unfold Oper.wp
    rw [hrun']
    refine hK _ X.β _ _ r2 (sv_own ?_)
    refine .inr ⟨X.w.heap.size, x.2.toNat, madeCells (zeroV u).cells (x.2.toNat * u.size), e, fun i j => ((unpack u u.zero)[j]?.map valOf).getD undef, by simp, by simp, by simp, size_madeCells _ _, by simp, fun i j hi' hj => ?_, ?_⟩
    · obtain ⟨c, hc⟩ : ∃ c, (unpack u u.zero)[j]? = some c := ⟨_, List.getElem?_eq_getElem (by rw [unpack_len]; exact hj)⟩
      rw [List.length_replicate] at hi'
      rw [made_get hi' hc]; simp [hc]
    · refine ⟨fun _ _ _ => False, fun i j b q => q.elim, fun i j i' j' b q => q.elim, fun i j c hi' hc => ?_⟩
      rw [List.length_replicate] at hi'
      have e0 : (List.replicate x.2.toNat u.zero).getD i u.zero = u.zero := by
        rw [List.getD_eq_getElem?_getD, List.getElem?_replicate, if_pos hi', Option.getD_some]
      rw [e0] at hc
      simp only [hc, Option.map_some, Option.getD_some]
      exact zero_deep u hc _ _
  | int k => cases h
  | bool => cases h
  | str => cases h
  | item => cases h
  | vec => cases h
  | mat => cases h

theorem bytes_fold (xs : List Int) : ∀ (r : ByteArray), xs.foldl (fun r n => r.push (UInt8.ofNat n.toNat)) r = ⟨r.data ++ (bytesOf xs).data⟩ := by
  induction xs with
  | nil => intro r; cases r; simp [bytesOf]
  | cons n xs ih =>
    intro r
    rw [List.foldl_cons, ih]
    cases r
    simp only [bytesOf, ByteArray.push, List.map_cons]
    congr 1
    apply Array.toList_inj.1
    simp

theorem op_convert (r : Rel w0 wr nt X) (hG : GOK X) (hg : Holds X.a g) (hT : TabOK P T) {si di : TypeId} {x : Operand} (ho : o.op = .convert si di x) {L : Leaf} {ps : List Prim} {v : SV}
    (h : ((Rd.ofOption (T.ty si)).bind fun sr => (Rd.ofOption (T.ty di)).bind fun dt => (opd1 st Option.none g x).bind (convR sr dt)).ev X.s = some L) (hL : Gives L ps v) : OpOK P w0 wr nt X st dst o ps v := by
  obtain ⟨sr, hs, h⟩ := Rd.invO h
  obtain ⟨dt, hdt, h⟩ := Rd.invO h
  obtain ⟨c, hc, h⟩ := Rd.inv h
  have hr := (opd1_ok r hG hg hc).1
  have hsi : ∃ d, P.underlying si = some d := by
    have hk := hT si sr hs
    cases sr with
    | int k => exact ⟨_, hk.int k rfl⟩
    | bool => exact ⟨_, hk.bool rfl⟩
    | str => exact ⟨_, hk.str rfl⟩
    | sl u => obtain ⟨e, he, _⟩ := hk.sl u rfl; exact ⟨_, he⟩
    | item => obtain ⟨e, he, _⟩ := hk.agg rfl; exact ⟨_, he⟩
    | vec => obtain ⟨e, he, _⟩ := hk.agg rfl; exact ⟨_, he⟩
    | mat => obtain ⟨e, he, _⟩ := hk.agg rfl; exact ⟨_, he⟩
  obtain ⟨sd, hsd⟩ := hsi
  unfold convR at h
  split at h
  · rename_i k n
    split at h <;> cases h
    obtain ⟨rfl, rfl⟩ := hL
    have hd := (hT di _ hdt).int _ rfl
    refine OpOK.pure r (new_plain rfl) ?_ (sv_one rfl (Rep.int _ _))
    unfold execOp; rw [ho]
    simp [convert, run_underlying hsd, run_underlying hd, hr.int, Conv.intToInt]
  · rename_i xs
    split at h <;> cases h
    obtain ⟨rfl, rfl⟩ := hL
    have hd := (hT di _ hdt).str rfl
    obtain ⟨e, he, hte⟩ := (hT si _ hs).sl _ rfl
    have heu := (hT e _ hte).int .u8 rfl
    refine OpOK.pure r (new_plain rfl) ?_ (sv_one rfl (Rep.str _))
    unfold execOp; rw [ho]
    generalize hv : X.a.eval x = xv at hr
    cases hr with
    | sl t xs A cap hle cs ha hrr =>
      have hstr : (Conv.bytesToString (.slice A xs.length cap)).run P X.w = .ok (.string (bytesOf xs)) X.w := by
        cases A with
        | none =>
          have : xs = [] := by
            cases xs with
            | nil => rfl
            | cons y ys => obtain ⟨a, e, _⟩ := ha (by simp); cases e
          subst this
          simp [Conv.bytesToString, bytesOf]
          rfl
        | some a =>
          have hl : (loadCells a xs.length).run P X.w = .ok (xs.map (Value.int .u8)).toArray X.w := by
            have := run_loadCells_list (P := P) X.w a (xs.map (Value.int .u8)) (fun j y hj => by
              rw [List.getElem?_map] at hj
              cases hx : xs[j]? with
              | none => rw [hx] at hj; cases hj
              | some n =>
                rw [hx] at hj
                cases hj
                have hlt := (List.getElem?_eq_some_iff.1 hx).1
                obtain ⟨a', e, hs0, _, hcell⟩ := ha (by omega)
                cases e
                have h1 := hcell j 0 hlt (by simp [Ty.size])
                have h2 := hrr j 0 (.int .u8 n) hlt (by simp [unpack, List.getD_eq_getElem?_getD, hx])
                have h3 : cs j 0 = .int .u8 n := Reads.int (Rep.mono (fun b _ _ => ⟨trivial, rfl⟩) h2)
                rw [addr_add _ _ hs0]
                rw [h3] at h1
                simpa [Ty.size] using h1)
            rw [List.length_map] at this
            exact this
          rw [run_bytesToString X.w a _ cap xs hl, bytes_fold]
          congr 2
          simp [bytesOf]
      simp [convert, run_underlying he, run_underlying hd, hv, run_underlying heu, hstr]
  · cases h

theorem run_bounds (w : World) (sl : Bool) {len cap : Nat} {lo hi : Option Value} {l h : Int} (hlo : (lo = none ∧ l = 0) ∨ ∃ k, lo = some (.int k l)) (hhi : (hi = none ∧ h = len) ∨ ∃ k, hi = some (.int k h))
    (h0 : 0 ≤ l) (h1 : l ≤ h) (h2 : h ≤ cap) : (Instr.sliceBounds sl len cap lo hi none).run P w = .ok (l.toNat, h.toNat, cap) w := by
  have hh : ∀ code, (match hi with | some v => Instr.sliceBound v cap code | none => pure len : Sem Nat).run P w = .ok h.toNat w := by
    intro code
    rcases hhi with ⟨rfl, e⟩ | ⟨k, rfl⟩
    · simp [e]
    · exact run_sliceBound w k h cap code (by omega) h2
  have hl : ∀ code, (match lo with | some v => Instr.sliceBound v h.toNat code | none => pure 0 : Sem Nat).run P w = .ok l.toNat w := by
    intro code
    rcases hlo with ⟨rfl, e⟩ | ⟨k, rfl⟩
    · simp [e]
    · exact run_sliceBound w k l h.toNat code h0 (by omega)
  rcases hhi with ⟨rfl, e⟩ | ⟨k, rfl⟩ <;> rcases hlo with ⟨rfl, e'⟩ | ⟨k', rfl⟩ <;> simp [Instr.sliceBounds] <;> simp_all

theorem bound_ok (r : Rel w0 wr nt X) (hG : GOK X) (hg : Holds X.a g) {d : Int} {x : Option Operand} {l : Int} (h : (boundR st g d x).ev X.s = some l) :
    (x.map X.a.eval = none ∧ l = d) ∨ ∃ k, x.map X.a.eval = some (.int k l) := by
  cases x with
  | none => cases h; exact .inl ⟨rfl, rfl⟩
  | some y =>
    obtain ⟨v, hv, h⟩ := Rd.inv h
    cases h
    exact .inr ⟨v.1, by rw [Option.map_some, opdInt_ok r hG hg hv]⟩

theorem tyIs_sl {t u : Ty} {xs : List u.den} (h : (CV.sl u xs).tyIs t = true) : t = .sl u := of_decide_eq_true h

theorem run_sliceV (hT : TabOK P T) {ti : TypeId} {u : Ty} (ht : T.ty ti = some (.sl u)) {x : Operand} {lo hi : Option Operand} (ho : o.op = .slice ti x lo hi none) {A : Option Addr} {n cap : Nat} {l h : Int} (hx : X.a.eval x = .slice A n cap)
    (hlo : (lo.map X.a.eval = none ∧ l = 0) ∨ ∃ k, lo.map X.a.eval = some (.int k l)) (hhi : (hi.map X.a.eval = none ∧ h = n) ∨ ∃ k, hi.map X.a.eval = some (.int k h)) (h0 : 0 ≤ l) (h1 : l ≤ h) (h2 : h ≤ cap) :
    (execOp X.a.eval o).run P X.w = .ok (.value (.slice (if cap = l.toNat then A else A.map (·.add (l.toNat * u.size))) (h.toNat - l.toNat) (cap - l.toNat))) X.w := by
  obtain ⟨e, he, hte⟩ := (hT ti _ ht).sl u rfl
  obtain ⟨inf, hi', hz, _⟩ := (hT e u hte).info
  have hb := run_bounds (P := P) X.w true hlo hhi h0 h1 h2
  unfold execOp; rw [ho]
  simp [Instr.sliceAt, Instr.slice, run_underlying he, hx, hb, sizeOf, typeInfo, hi', hz]

theorem drop_getD {α : Type} (xs : List α) (l h i : Nat) (d : α) (hi : i < h - l) : ((xs.take h).drop l).getD i d = xs.getD (l + i) d := by
  rw [List.getD_eq_getElem?_getD, List.getD_eq_getElem?_getD, List.getElem?_drop, List.getElem?_take, if_pos (by omega)]

theorem rep_sub {w : World} {ok : Nat → Prop} {v : Value} {u : Ty} {xs : List u.den} (hr : Rep w ok v (.sl u xs)) {l h : Int} (h0 : 0 ≤ l) (h1 : l ≤ h) (h2 : h ≤ xs.length) :
    ∃ A cap, v = .slice A xs.length cap ∧ xs.length ≤ cap ∧ Rep w ok (.slice (if cap = l.toNat then A else A.map (·.add (l.toNat * u.size))) (h.toNat - l.toNat) (cap - l.toNat)) (.sl u ((xs.take h.toNat).drop l.toNat)) := by
  cases hr with
  | sl t xs A cap hle cs ha hrr =>
    refine ⟨A, cap, rfl, hle, ?_⟩
    have hlen : ((xs.take h.toNat).drop l.toNat).length = h.toNat - l.toNat := by rw [List.length_drop, List.length_take]; omega
    rw [← hlen]
    refine .sl u _ _ _ (by omega) (fun i j => cs (l.toNat + i) j) (fun hp => ?_) (fun i j c hi hc => ?_)
    · rw [hlen] at hp
      obtain ⟨a, e, hs, hok, hcell⟩ := ha (by omega)
      subst e
      rw [if_neg (by omega)]
      refine ⟨⟨a.block, a.off + l.toNat * u.size, none⟩, by simp [addr_add _ _ hs], rfl, hok, fun i j hi hj => ?_⟩
      have := hcell (l.toNat + i) j (by omega) hj
      rw [show a.off + (l.toNat + i) * u.size + j = a.off + l.toNat * u.size + i * u.size + j by rw [Nat.add_mul]; omega] at this
      exact this
    · rw [drop_getD _ _ _ _ _ (by omega)] at hc
      exact hrr (l.toNat + i) j c (by omega) hc

theorem op_slice (r : Rel w0 wr nt X) (hG : GOK X) (hg : Holds X.a g) (hT : TabOK P T) {ti : TypeId} {x : Operand} {lo hi : Option Operand} (ho : o.op = .slice ti x lo hi none) {L : Leaf} {ps : List Prim} {v : SV}
    (h : ((Rd.ofOption (T.ty ti)).bind fun t => (opd st Option.none g x).bind fun p => sliceR st g true t p lo hi).ev X.s = some L) (hL : Gives L ps v) : OpOK P w0 wr nt X st dst o ps v := by
  obtain ⟨t, ht, h⟩ := Rd.invO h
  obtain ⟨p, hp, h⟩ := Rd.inv h
  have hop := opd_ok r hG hg hp
  obtain ⟨c, hc, h⟩ := Rd.inv h
  rw [ev_one hc] at hop
  have hlies := (hop.one r).2
  have bnd : ∀ {n : Nat} {l h' : Int}, (!true || (decide (0 ≤ h') && (decide (h' ≤ (n : Int)) && (decide (0 ≤ l) && decide (l ≤ h'))))) = true → 0 ≤ l ∧ l ≤ h' ∧ h' ≤ n := by
    intro n l h' e
    simp only [Bool.not_true, Bool.false_or, Bool.and_eq_true, decide_eq_true_eq] at e
    omega
  cases c with
  | «at» cv tg =>
    cases hty : CV.tyIs t cv with
    | false => simp only [hty, Bool.not_false, cond_true] at h; cases h
    | true =>
      simp only [hty, Bool.not_true, cond_false] at h
      cases cv with
      | int k n => cases h
      | bool b => cases h
      | str z =>
        obtain ⟨l, hl, h⟩ := Rd.inv h
        obtain ⟨h', hh, h⟩ := Rd.inv h
        cases h
        obtain ⟨hb, rfl, rfl⟩ := hL
        obtain ⟨b0, b1, b2⟩ := bnd hb
        have hv := (lies_plain hlies rfl).str
        have e : t = .str := of_decide_eq_true hty
        subst e
        have hu := (hT ti _ ht).str rfl
        refine OpOK.pure r (new_plain rfl) ?_ (sv_one rfl (Rep.str _))
        have hbd := run_bounds (P := P) X.w false (bound_ok r hG hg hl) (bound_ok r hG hg hh) b0 b1 b2
        unfold execOp; rw [ho]
        simp [Instr.sliceAt, Instr.slice, run_underlying hu, hv, hbd]
      | sl u xs =>
        have e := tyIs_sl hty
        subst e
        have ro : ∀ {ok : Nat → Prop}, Rep X.w ok (X.a.eval x) (.sl u xs) → ∀ {l h' : Int}, (boundR st g 0 lo).ev X.s = some l → (boundR st g xs.length hi).ev X.s = some h' → 0 ≤ l ∧ l ≤ h' ∧ h' ≤ xs.length →
            ∃ val, (execOp X.a.eval o).run P X.w = .ok (.value val) X.w ∧ Rep X.w ok val (.sl u ((xs.take h'.toNat).drop l.toNat)) := by
          intro ok hrep l h' hl hh hbd
          obtain ⟨A, cap, e1, e2, e3⟩ := rep_sub hrep hbd.1 hbd.2.1 hbd.2.2
          exact ⟨_, run_sliceV hT ht ho e1 (bound_ok r hG hg hl) (bound_ok r hG hg hh) hbd.1 hbd.2.1 (by omega), e3⟩
        have sv : ∀ {val : Value} {t : Tag} {ys : List u.den}, AtOK X.B0 X.γ X.w dst 0 val (.sl u ys) t → IsSl val → SVOK X dst val (one (.sl u ys) t) := by
          intro val t ys hat hs
          have hs' : single val = true := by obtain ⟨A, n, m, rfl⟩ := hs; rfl
          refine ⟨hs', ⟨by rw [single_cells hs']; rfl, fun j x hj => ?_⟩, by simp⟩
          cases j with
          | zero => simp at hj; subst hj; exact ⟨val, by rw [single_cells hs']; rfl, hat⟩
          | succ j => simp at hj
        cases tg with
        | ps =>
          obtain ⟨l, hl, h⟩ := Rd.inv h
          obtain ⟨h', hh, h⟩ := Rd.inv h
          cases h
          obtain ⟨hb, rfl, rfl⟩ := hL
          cases hk : p.1 with
          | none => rw [hk] at hlies; cases hlies.1
          | some k =>
            rw [hk] at hlies
            have hrep : Rep X.w (okPs X.B0 X.γ) (X.a.eval x) (.sl u xs) := hlies.2.2
            obtain ⟨val, e1, e2⟩ := ro hrep hl hh (bnd hb)
            exact OpOK.pure r (new_noown fun y hy cv dd st' e => by simp at hy; subst hy; cases e) e1 (sv e2 e2.isSl)
        | sh =>
          obtain ⟨l, hl, h⟩ := Rd.inv h
          obtain ⟨h', hh, h⟩ := Rd.inv h
          cases h
          obtain ⟨hb, rfl, rfl⟩ := hL
          cases hk : p.1 with
          | none => rw [hk] at hlies; cases hlies.1
          | some k =>
            rw [hk] at hlies
            have hrep : Rep X.w (okSh X.γ) (X.a.eval x) (.sl u xs) := hlies.2.2
            obtain ⟨val, e1, e2⟩ := ro hrep hl hh (bnd hb)
            exact OpOK.pure r (new_noown fun y hy cv dd st' e => by simp at hy; subst hy; cases e) e1 (sv e2 e2.isSl)
        | own d s => cases h
        | dead => cases h
  | ref k c' s1 u =>
    by_cases hty : t = .sl u
    · subst hty
      simp only [decide_true, Bool.not_true, cond_false] at h
      obtain ⟨q, hq, h⟩ := Rd.inv h
      obtain ⟨xs, hxs, h⟩ := Rd.invO h
      obtain ⟨l, hl, h⟩ := Rd.inv h
      obtain ⟨h', hh, h⟩ := Rd.inv h
      cases h
      obtain ⟨hb, rfl, rfl⟩ := hL
      obtain ⟨b0, b1, b2⟩ := bnd hb
      have hhm := ev_homeR hq
      cases hk : p.1 with
      | none => rw [hk] at hlies; exact hlies.elim
      | some k0 =>
        rw [hk] at hlies
        obtain ⟨hv, _⟩ := hlies.2.2.2 q.1 q.2 hhm
        obtain ⟨v', hv', hat⟩ := r.home hhm
        rw [hv] at hv'; cases hv'
        have e2 := asSl_eq hxs
        rw [e2] at hat
        have hown : OwnS X.w X.γ k c' q.2 (X.a.eval x) u xs := hat
        have noown : NewSV st (.sub k c' s1 u l h') := .inl fun c cv dd st' hc => by cases hc
        rcases id hown with ⟨e, rfl⟩ | ⟨gb, cap, arr, E, cs, e, _, _, _, hle, _⟩
        · have hrun := run_sliceV hT ht ho e (bound_ok r hG hg hl) (bound_ok r hG hg hh) b0 b1 (by simpa using b2)
          refine OpOK.pure r noown hrun fun cv d hd => ?_
          rw [hhm] at hd; cases hd
          refine ⟨[], e2, b0, b1, by simpa using b2, .inl ⟨hv.trans (by rw [e]), ?_⟩⟩
          simp only [List.length_nil] at b2
          have : h'.toNat = 0 := by omega
          have h3 : l.toNat = 0 := by omega
          simp [this, h3]
        · have hrun := run_sliceV hT ht ho e (bound_ok r hG hg hl) (bound_ok r hG hg hh) b0 b1 (by omega)
          refine OpOK.pure r noown hrun fun cv d hd => ?_
          rw [hhm] at hd; cases hd
          refine ⟨xs, e2, b0, b1, b2, .inr ⟨gb, xs.length, cap, hv.trans (by rw [e]), rfl, ?_⟩⟩
          have : h'.toNat - l.toNat = (h' - l).toNat := by omega
          rw [this]
          by_cases hcl : cap = l.toNat <;> simp [hcl]
    · simp only [hty, decide_false, Bool.not_false, cond_true] at h; cases h

end
end Go.AM

/- store. -/
namespace Go.AM
section
variable {P : Program} {T : Tab} {w0 : World} {wr : Gh} {nt : Nat} {X : Cx} {st dst : Nat} {o : Oper} {g : List (Nat × Bool)}

theorem takes_boxlen {ps : List Prim} : ∀ {s : St} {d : Nat} {m : List CT}, (∀ p ∈ ps, ∃ k c, p = Prim.take k c) → s.box d = some m → ∃ m', (applyAll s ps).box d = some m' ∧ m'.length = m.length := by
  induction ps with
  | nil => intro s d m _ h; exact ⟨m, h, rfl⟩
  | cons p ps ih =>
    intro s d m hp h
    obtain ⟨k, c, rfl⟩ := hp p (List.mem_cons_self ..)
    have hb : ∃ m1, (Prim.apply s (.take k c)).box d = some m1 ∧ m1.length = m.length := by
      rw [Prim.bx]
      split
      · exact ⟨_, by simp [Prim.onB, h]; rfl, by rw [List.length_modify]⟩
      · exact ⟨m, h, rfl⟩
    obtain ⟨m1, h1, h2⟩ := hb
    obtain ⟨m2, h3, h4⟩ := ih (fun q hq => hp q (List.mem_cons_of_mem _ hq)) h1
    exact ⟨m2, h3, h4.trans h2⟩

theorem one_of_single {v : Value} (h : single v = true) : v.oneCell' = true := by cases v <;> first | rfl | cases h
theorem AtOK.isSingle {B0 : Nat} {γ : Gh} {w : World} {k c : Nat} {y : Value} {cv : CV} {t : Tag} (h : AtOK B0 γ w k c y cv t) : single y = true := by
  have hs : ∀ {v : Value}, IsSl v → single v = true := by rintro v ⟨A, n, m, rfl⟩; rfl
  cases cv with
  | int n m => have e : y = .int n m := h; rw [e]; rfl
  | bool b => have e : y = .bool b := h; rw [e]; rfl
  | str s => have e : y = .string s := h; rw [e]; rfl
  | sl u xs =>
    cases t with
    | ps => exact hs (Rep.isSl h)
    | sh => exact hs (Rep.isSl h)
    | own d st => exact hs (OwnS.isSl h)
    | dead => exact hs h

theorem run_storeV (hT : TabOK P T) {ti : TypeId} {t : Ty} (ht : T.ty ti = some t) {a x : Operand} (ho : o.op = .store ti a x) {b n : Nat} {cur : Array Value} {E : TypeId} (ha : X.a.eval a = .pointer (some ⟨b, n, none⟩)) (hb : X.w.heap[b]? = some (.cells cur E (0, 0)))
    (hsz : (X.a.eval x).cells.size = t.size) (hfit : n + t.size ≤ cur.size) (h1 : ∀ v ∈ (X.a.eval x).cells.toList, single v = true) :
    (execOp X.a.eval o).run P X.w = .ok .skip (X.w.setRow b (cur.toList.take n ++ (X.a.eval x).cells.toList ++ cur.toList.drop (n + t.size)).toArray) := by
  obtain ⟨inf, hi, hz, _⟩ := (hT ti t ht).info
  have hst := run_storeCells_at P b n E (X.a.eval x).cells.toList 0 cur X.w hb (by rw [Array.length_toList, hsz]; omega) (fun v hv => one_of_single (h1 v hv))
  simp only [Nat.add_zero, Array.length_toList, hsz] at hst
  unfold execOp; rw [ho]
  simp only [Instr.storeAt, ha, Instr.sureAddr, storeVar, sizeOf, typeInfo, Sem.run_bind, Sem.run_pure, Result.andThen_ok]
  simp [hi, hz, hsz, hst]

theorem splice_get {α : Type} {cur vs : List α} {n : Nat} (h : n + vs.length ≤ cur.length) (j : Nat) : (cur.take n ++ vs ++ cur.drop (n + vs.length))[j]? = if n ≤ j ∧ j < n + vs.length then vs[j - n]? else cur[j]? := by
  have hc : (cur.take n).length = n := by rw [List.length_take]; omega
  by_cases h1 : j < n
  · rw [if_neg (by omega), List.append_assoc, List.getElem?_append_left (by omega), List.getElem?_take, if_pos h1]
  · by_cases h2 : j < n + vs.length
    · rw [if_pos ⟨by omega, h2⟩, List.append_assoc, List.getElem?_append_right (by omega), hc, List.getElem?_append_left (by omega)]
    · rw [if_neg (by omega), List.getElem?_append_right (by rw [List.length_append, hc]; omega), List.length_append, hc, List.getElem?_drop]
      congr 1; omega

theorem op_store (r : Rel w0 wr nt X) (hG : GOK X) (hg : Holds X.a g) (hst : ∀ h c, ¬ RefIn X.s h c st) (hT : TabOK P T) {ti : TypeId} {a x : Operand} (ho : o.op = .store ti a x) {L : Leaf} {ps : List Prim} {v : SV}
    (h : ((Rd.ofOption (T.ty ti)).bind fun t => (opd st Option.none g a).bind fun p => (opd st (some t) g x).bind fun v => storeR st t p.2 v).ev X.s = some L) (hL : Gives L ps v)
    (hd : nodupH (ps.flatMap Prim.home) = true) : OpOK P w0 wr nt X st dst o ps v := by
  obtain ⟨t, ht, h⟩ := Rd.invO h
  obtain ⟨p, hp, h⟩ := Rd.inv h
  obtain ⟨z, hz, h⟩ := Rd.inv h
  have hop := opd_ok r hG hg hp
  have hox := opd_ok r hG hg hz
  have hk : (∀ a l, p.2 ≠ .val a l) → ∃ k, SVOK X k (X.a.eval a) p.2 := by
    intro hne
    obtain ⟨pk, sv⟩ := p
    cases pk with
    | some k => exact ⟨k, hop.2.2⟩
    | none => obtain ⟨a', l', e, _⟩ := hop; exact absurd e (hne a' l')
  obtain ⟨zk, zv⟩ := z
  unfold storeR at h
  obtain ⟨l, hl, h⟩ := Rd.inv h
  cases zv with
  | val ag l0 =>
    cases hl
    cases hb : Nat.beq l.length t.size with
    | false => rw [hb] at h; cases h
    | true =>
      have hlen : l.length = t.size := Nat.eq_of_beq_eq_true hb
      rw [hb] at h
      simp only [Bool.not_true, cond_false] at h
      obtain ⟨q, hq, h⟩ := Rd.inv h
      obtain ⟨N, hN⟩ := fresh_ex X.s
      have fin : ∀ (hd' : nodupH (q.1.flatMap Prim.home) = true), ∃ γ', Went w0 wr nt X X [] N q.1 γ' ∧ q.2.length = l.length ∧ InTr X γ' N 0 st (X.a.eval x).cells.toList q.2 ∧ (X.a.eval x).cells.size = l.length :=
        fun hd' => hox.gwent r r (Link.refl X) hN 0 hq (fun _ _ hs => by cases hs) hd'
      have nd := grabs_nd _ _ hq
      have h1s : ∀ {γ' : Gh}, InTr X γ' N 0 st (X.a.eval x).cells.toList q.2 → q.2.length = l.length → (X.a.eval x).cells.size = l.length → ∀ v ∈ (X.a.eval x).cells.toList, single v = true := by
        intro γ' hin e1 e2 v hv
        obtain ⟨j, hj⟩ := List.mem_iff_getElem?.1 hv
        have hlt := (List.getElem?_eq_some_iff.1 hj).1
        rw [Array.length_toList, e2, ← e1] at hlt
        obtain ⟨y, cv, tg, _, _, hy, hat⟩ := hin j _ (List.getElem?_eq_getElem hlt)
        rw [hj] at hy; cases hy
        exact hat.isSingle
      cases hsv : p.2 with
      | fp h' c =>
        obtain ⟨k, hv⟩ := hk (fun a l e => by rw [hsv] at e; cases e)
        rw [hsv] at h hv
        simp only [Rd.ev] at h
        obtain ⟨m, hm, h2⟩ := Rd.invO h
        cases hb2 : Nat.ble (c + l.length) m.length with
        | false => rw [hb2] at h2; cases h2
        | true =>
          have hfit : c + l.length ≤ m.length := (ble_iff _ _).1 hb2
          rw [hb2] at h2
          cases h2
          obtain ⟨rfl, rfl⟩ := hL
          have hd' : nodupH (q.1.flatMap Prim.home) = true := by
            have e : (q.1 ++ [Prim.cells h' c q.2]).flatMap Prim.home = q.1.flatMap Prim.home ++ [] := by simp [Prim.home]
            rw [e, List.append_nil] at hd; exact hd
          obtain ⟨γ', W, e1, hin, e2⟩ := fin hd'
          have r1 := W.laid fun n => (h', 64 + c + n)
          have hA := W.ats (d := h') (c := 64 + c) hin (e2.trans e1.symm)
          obtain ⟨m', hm', hml⟩ := takes_boxlen (grabs_take _ _ hq) hm
          obtain ⟨arr, E, b1, b2, b3, b4⟩ := r1.box h' m' hm'
          have b1' : X.w.heap[X.β h']? = some (.cells arr E (0, 0)) := b1
          have hasz : arr.size = m'.length := b3.1
          have hrun := run_storeV (P := P) hT ht ho hv.1 b1' (e2.trans hlen) (by rw [hasz, hml]; omega) (h1s hin e1 e2)
          have r2 := Rel.cells (w' := X.w.setRow (X.β h') (arr.toList.take c ++ (X.a.eval x).cells.toList ++ arr.toList.drop (c + t.size)).toArray) (vs := (X.a.eval x).cells) r1 hm' (by rw [e1, hml]; exact hfit) b1 (setRow_heap X.w (X.β h') arr _ E _ b1')
            (fun b hb => setRow_other X.w _ b _ hb) (by simp [World.setRow]) (fun j => by
              rw [List.getElem?_toArray]
              have hvl : (X.a.eval x).cells.toList.length = t.size := by rw [Array.length_toList, e2, hlen]
              have := splice_get (cur := arr.toList) (vs := (X.a.eval x).cells.toList) (n := c) (by rw [hvl, Array.length_toList, hasz, hml]; omega) j
              rw [hvl] at this
              rw [this, e1, hlen, Array.getElem?_toList, Array.getElem?_toList]) (by
              simp only [List.size_toArray, List.length_append, List.length_take, List.length_drop, Array.length_toList, e2, hlen, hasz, hml]; omega) hA
            (fun j cv dd st1 hj hr => by
              obtain ⟨y, cv', tg, e, hs, _⟩ := hin j _ hj
              cases e
              have := hs dd st1 rfl
              subst this
              exact hst _ _ (refs_all W.noput hr)) ⟨rfl, rfl, rfl⟩
          refine ⟨.inl fun c cv dd st' hc => (by cases hc), fun y hy => ?_, fun K Q hK => ?_⟩
          · rcases List.mem_append.1 hy with h | h
            · exact W.noput y h
            · simp at h; subst h; rfl
          · unfold Oper.wp
            rw [hrun]
            refine hK (fun b => lay N (fun n => (h', 64 + c + n)) (γ' b)) X.β _ undef ?_ trivial
            show Rel w0 wr nt ⟨X.B0, _, X.β, applyAll X.s (q.1 ++ [.cells h' c q.2]), X.a, _⟩
            rw [applyAll_append]
            exact r2
      | ep h' c s1 u i o' =>
        obtain ⟨k, hv⟩ := hk (fun a l e => by rw [hsv] at e; cases e)
        rw [hsv] at h hv
        simp only at h
        obtain ⟨hm, hhm, h⟩ := Rd.inv h
        obtain ⟨xs, hxs, h⟩ := Rd.invO h
        obtain ⟨y, hy, h⟩ := Rd.invO h
        cases h
        obtain ⟨rfl, rfl⟩ := hL
        have hh := ev_homeR hhm
        obtain ⟨gb, zz, e, hv⟩ := hv
        obtain ⟨xs', e1, h0, h1, ez, n, cap, hhv⟩ := hv _ _ hh
        have e3 := asSl_eq hxs
        rw [e3] at e1
        cases e1
        rw [List.flatMap_append] at hd
        obtain ⟨d1, _, d3⟩ := homes_append hd
        have hni : (h', c) ∉ q.1.flatMap Prim.home := fun hm' => d3 _ hm' (by simp [Prim.home])
        obtain ⟨γ', W, f1, hin, f2⟩ := fin d1
        have hi : i.toNat < xs.length := by omega
        -- the new element
        have hyl := congrArg List.length (pack_eq hy)
        have hul := unpack_len u (xs.getD i.toNat u.zero)
        simp only [List.length_append, List.length_take, List.length_map, List.length_drop, hul, unpack_len, f1, hlen] at hyl
        have htp := t.size_pos
        have hfit : o' + t.size ≤ u.size := by omega
        have hel : ∀ j, (unpack u y)[j]? = if o' ≤ j ∧ j < o' + t.size then (q.2.map CT.cv)[j - o']? else (unpack u (xs.getD i.toNat u.zero))[j]? := by
          intro j
          rw [← pack_eq hy]
          have := splice_get (cur := unpack u (xs.getD i.toNat u.zero)) (vs := q.2.map CT.cv) (n := o') (by rw [List.length_map, f1, hlen, hul]; exact hfit) j
          rw [List.length_map, f1, hlen] at this
          rw [hlen]
          exact this
        -- the state behind the taking
        have hN' := W.fresh
        have r1 := W.rel.map (layNs_keeps W.fresh h' c)
        have hNh : h' ≠ N := fun e => by subst e; exact hN _ _ _ _ hh
        have hh1 : (applyAll X.s q.1).homeCT h' c = some (.at hm.1 (.own hm.2 s1)) := by
          have := W.link.home h' c (by rw [List.append_nil]; exact hni)
          exact this.trans hh
        have hhv1 : Cx.hv ⟨X.B0, fun b => layNs N h' c (γ' b), X.β, applyAll X.s q.1, X.a, X.w⟩ h' c = some (.slice (some ⟨gb, 0, none⟩) n cap) := hhv
        obtain ⟨v0, hv0, hat0⟩ := W.rel.home hh1
        have hv0' : X.hv h' c = some v0 := hv0
        rw [hhv] at hv0'; cases hv0'
        rw [e3] at hat0
        have hown : OwnS X.w γ' h' c hm.2 (.slice (some ⟨gb, 0, none⟩) n cap) u xs := hat0
        rcases id hown with ⟨e4, _⟩ | ⟨gb', cap', arr, E, cs, e4, hgb, hgh, hgs, hgle, hgc, hgu⟩
        · cases e4
        cases e4
        have hbnd : i.toNat * u.size + u.size ≤ arr.size := by
          have : (i.toNat + 1) * u.size ≤ cap * u.size := Nat.mul_le_mul_right _ (by omega)
          rw [Nat.add_mul, Nat.one_mul] at this
          omega
        have hvl : (X.a.eval x).cells.toList.length = t.size := by rw [Array.length_toList, f2, hlen]
        have e' : X.a.eval a = .pointer (some ⟨gb, i.toNat * u.size + o', none⟩) := by rw [e, ez]
        have hrun := run_storeV (P := P) hT ht ho e' hgh (f2.trans hlen) (by omega) (h1s hin f1 f2)
        let arr' : Array Value := (arr.toList.take (i.toNat * u.size + o') ++ (X.a.eval x).cells.toList ++ arr.toList.drop (i.toNat * u.size + o' + t.size)).toArray
        have harr : ∀ j, arr'[j]? = if i.toNat * u.size + o' ≤ j ∧ j < i.toNat * u.size + o' + t.size then (X.a.eval x).cells.toList[j - (i.toNat * u.size + o')]? else arr[j]? := by
          intro j
          rw [List.getElem?_toArray]
          have := splice_get (cur := arr.toList) (vs := (X.a.eval x).cells.toList) (n := i.toNat * u.size + o') (by rw [hvl, Array.length_toList]; omega) j
          rw [hvl] at this
          rw [this]
          simp only [Array.getElem?_toList]
        let w' := X.w.setRow gb arr'
        have hw' : w'.heap[gb]? = some (.cells arr' E (0, 0)) := setRow_heap X.w gb arr _ E _ hgh
        have hwo : ∀ b, b ≠ gb → w'.heap[b]? = X.w.heap[b]? := fun b hb => setRow_other X.w gb b _ hb
        have hsize : w'.heap.size = X.w.heap.size := by show (X.w.setRow gb arr').heap.size = _; simp [World.setRow]
        let γ2 : Gh := fun b => layNs N h' c (γ' b)
        have hg2 : γ2 gb = .tp h' c := by simp only [γ2, hgb, layNs, if_neg hNh]
        have hne_sh : ∀ b, okSh γ2 b → b ≠ gb := by
          intro b hb e
          subst e
          rcases hb with hb | ⟨k, c, hb⟩ <;> rw [hg2] at hb <;> cases hb
        have ok12 : ∀ b, okSh γ' b → okSh γ2 b := fun b q => (layNs_keeps W.fresh h' c).sh q
        have tp2 : ∀ n b, γ' b = .tp N n → γ2 b = .ns h' c := fun n b q => by simp only [γ2, q, layNs, if_true]
        have ns2 : ∀ n b, γ' b = .ns N n → γ2 b = .ns h' c := fun n b q => by simp only [γ2, q, layNs, if_true]
        have nsh : ∀ b, γ' b = .ns h' c → γ2 b = .ns h' c := fun b q => by simp only [γ2, q, layNs, if_neg hNh]
        have ns_ne : ∀ b, γ2 b = .ns h' c → b ≠ gb := fun b q e => by subst e; rw [hg2] at q; cases q
        have mul_inj : ∀ {i1 j1 i2 j2 : Nat}, j1 < u.size → j2 < u.size → i1 * u.size + j1 = i2 * u.size + j2 → i1 = i2 ∧ j1 = j2 := by
          intro i1 j1 i2 j2 h1 h2 e
          have a1 : (i1 * u.size + j1) / u.size = i1 := by rw [Nat.add_comm, Nat.add_mul_div_right _ _ u.size_pos, Nat.div_eq_of_lt h1, Nat.zero_add]
          have a2 : (i2 * u.size + j2) / u.size = i2 := by rw [Nat.add_comm, Nat.add_mul_div_right _ _ u.size_pos, Nat.div_eq_of_lt h2, Nat.zero_add]
          have : i1 = i2 := by rw [← a1, ← a2, e]
          subst this
          exact ⟨rfl, by omega⟩
        have inr : ∀ {i' j : Nat}, j < u.size → ((i.toNat * u.size + o' ≤ i' * u.size + j ∧ i' * u.size + j < i.toNat * u.size + o' + t.size) ↔ (i' = i.toNat ∧ o' ≤ j ∧ j < o' + t.size)) := by
          intro i' j hj
          constructor
          · intro ⟨q1, q2⟩
            have : i' * u.size + j = i.toNat * u.size + (i' * u.size + j - i.toNat * u.size) := by omega
            obtain ⟨rfl, e⟩ := mul_inj hj (by omega) this
            exact ⟨rfl, by omega, by omega⟩
          · rintro ⟨rfl, q1, q2⟩
            omega
        -- what lies in the row
        have elem : ∀ i' j e0, i' < (xs.set i.toNat y).length → (unpack u ((xs.set i.toNat y).getD i' u.zero))[j]? = some e0 → j < u.size ∧
            ((i' = i.toNat ∧ o' ≤ j ∧ j < o' + t.size ∧ ∃ vy tg, (X.a.eval x).cells.toList[j - o']? = some vy ∧ q.2[j - o']? = some (.at e0 tg) ∧ AtOK X.B0 γ' X.w N (j - o') vy e0 tg) ∨
              (¬ (i' = i.toNat ∧ o' ≤ j ∧ j < o' + t.size) ∧ i' < xs.length ∧ (unpack u (xs.getD i' u.zero))[j]? = some e0)) := by
          intro i' j e0 hi' he
          have hj : j < u.size := by have := (List.getElem?_eq_some_iff.1 he).1; rwa [unpack_len] at this
          rw [List.length_set] at hi'
          refine ⟨hj, ?_⟩
          rw [List.getD_eq_getElem?_getD, List.getElem?_set] at he
          by_cases hq1 : i.toNat = i'
          · subst hq1
            rw [if_pos rfl, if_pos hi, Option.getD_some, hel] at he
            by_cases hq2 : o' ≤ j ∧ j < o' + t.size
            · rw [if_pos hq2, List.getElem?_map] at he
              cases hx : q.2[j - o']? with
              | none => rw [hx] at he; cases he
              | some x0 =>
                rw [hx] at he
                obtain ⟨vy, cv, tg, rfl, _, hvy, hat⟩ := hin _ _ hx
                cases he
                rw [Nat.zero_add] at hat
                exact .inl ⟨rfl, hq2.1, hq2.2, vy, tg, hvy, rfl, hat⟩
            · rw [if_neg hq2] at he
              exact .inr ⟨fun e => hq2 e.2, hi, he⟩
          · rw [if_neg hq1, ← List.getD_eq_getElem?_getD] at he
            exact .inr ⟨fun e => hq1 e.1.symm, hi', he⟩
        let cs' : Nat → Nat → Value := fun i' j => if i' = i.toNat ∧ o' ≤ j ∧ j < o' + t.size then (X.a.eval x).cells.toList.getD (j - o') undef else cs i' j
        have hcs' : ∀ i' j, i' < (xs.set i.toNat y).length → j < u.size → arr'[i' * u.size + j]? = some (cs' i' j) := by
          intro i' j hi' hj
          rw [List.length_set] at hi'
          rw [harr]
          by_cases hq1 : i' = i.toNat ∧ o' ≤ j ∧ j < o' + t.size
          · rw [if_pos ((inr hj).2 hq1)]
            simp only [cs', if_pos hq1]
            have e5 : i' * u.size + j - (i.toNat * u.size + o') = j - o' := by rw [hq1.1]; omega
            rw [e5, List.getD_eq_getElem?_getD, List.getElem?_eq_getElem (by rw [hvl]; omega), Option.getD_some]
          · rw [if_neg (fun e => hq1 ((inr hj).1 e))]
            simp only [cs', if_neg hq1]
            exact hgc i' j hi' hj
        have hund : Under w' γ2 h' c (hm.2 && allDeep q.2) u (xs.set i.toNat y) cs' := by
          cases hdp : hm.2 && allDeep q.2 with
          | true =>
            simp only [Bool.and_eq_true] at hdp
            rw [hdp.1] at hgu
            obtain ⟨Q0, q1, q2, q3⟩ := hgu
            let Q' : Nat → Nat → Nat → Prop := fun i' j b => if i' = i.toNat ∧ o' ≤ j ∧ j < o' + t.size then γ' b = .tp N (j - o') ∨ γ' b = .ns N (j - o') else Q0 i' j b
            refine ⟨Q', fun i' j b hb => ?_, fun i1 j1 i2 j2 b hb1 hb2 => ?_, fun i' j e0 hi' he => ?_⟩
            · simp only [Q'] at hb
              split at hb
              · rcases hb with hb | hb
                · exact tp2 _ b hb
                · exact ns2 _ b hb
              · exact nsh b (q1 i' j b hb)
            · simp only [Q'] at hb1 hb2
              split at hb1 <;> split at hb2
              · rename_i c1 c2
                have : j1 - o' = j2 - o' := by
                  rcases hb1 with hb1 | hb1 <;> rcases hb2 with hb2 | hb2 <;> rw [hb1] at hb2 <;> injection hb2
                exact ⟨c1.1.trans c2.1.symm, by omega⟩
              · have := q1 _ _ b hb2
                rcases hb1 with hb1 | hb1
                · rw [hb1] at this; cases this
                · rw [hb1] at this; injection this with e5; exact absurd e5.symm hNh
              · have := q1 _ _ b hb1
                rcases hb2 with hb2 | hb2
                · rw [hb2] at this; cases this
                · rw [hb2] at this; injection this with e5; exact absurd e5.symm hNh
              · exact q2 _ _ _ _ b hb1 hb2
            · obtain ⟨hj, hcase⟩ := elem i' j e0 hi' he
              rcases hcase with ⟨c1, c2, c3, vy, tg, k1, k2, k3⟩ | ⟨c1, c2, c3⟩
              · have hc : i' = i.toNat ∧ o' ≤ j ∧ j < o' + t.size := ⟨c1, c2, c3⟩
                obtain ⟨v5, t5, e5, e6⟩ := allDeep_get hdp.2 k2
                cases e5
                simp only [cs', if_pos hc, List.getD_eq_getElem?_getD, k1, Option.getD_some]
                refine tr_deep k3 e6 (fun b hb => hwo b (ns_ne b (by rcases hb with hb | hb; exact tp2 _ b hb; exact ns2 _ b hb))) (fun b hb => ?_)
                simp only [Q', if_pos hc]; exact hb
              · simp only [cs', if_neg c1]
                refine (q3 i' j e0 c2 c3).mono fun b hb => ⟨?_, hwo b (ns_ne b (nsh b (q1 i' j b hb)))⟩
                simp only [Q', if_neg c1]; exact hb
          | false =>
            intro i' j e0 hi' he
            obtain ⟨hj, hcase⟩ := elem i' j e0 hi' he
            rcases hcase with ⟨c1, c2, c3, vy, tg, k1, k2, k3⟩ | ⟨c1, c2, c3⟩
            · have hc : i' = i.toNat ∧ o' ≤ j ∧ j < o' + t.size := ⟨c1, c2, c3⟩
              simp only [cs', if_pos hc, List.getD_eq_getElem?_getD, k1, Option.getD_some]
              refine tr_rep k3 (fun _ e5 => ?_) (fun b _ hb => ok12 b hb) (fun b hb => .inr ⟨h', c, tp2 _ b hb⟩) (fun b _ hb => hwo b (hne_sh b (by rcases hb with hb | hb; exact ok12 b hb; exact .inr ⟨h', c, tp2 _ b hb⟩)))
              subst e5
              exact nd _ (List.mem_of_getElem? k2) e0 rfl
            · simp only [cs', if_neg c1]
              have hrep : Rep X.w (okSh γ') (cs i' j) e0 := by
                cases hm2 : hm.2 with
                | false => rw [hm2] at hgu; exact hgu i' j e0 c2 c3
                | true => rw [hm2] at hgu; obtain ⟨Q0, q1, _, q3⟩ := hgu; exact (q3 i' j e0 c2 c3).rep.mono fun b _ hb => ⟨.inr ⟨h', c, q1 i' j b hb⟩, rfl⟩
              exact hrep.mono fun b _ hb => ⟨ok12 b hb, hwo b (hne_sh b (ok12 b hb))⟩
        have hx1 : St.homeCT (applyAll X.s q.1) h' c = some (.at (.sl u xs) (.own hm.2 s1)) := by rw [hh1, e3]
        have r2 := Rel.upd (X := ⟨X.B0, γ2, X.β, applyAll X.s q.1, X.a, X.w⟩) (f := setCT (.sl u (xs.set i.toNat y)) (hm.2 && allDeep q.2)) (γ' := γ2) (w' := w') (cv' := .sl u (xs.set i.toNat y)) (t' := .own (hm.2 && allDeep q.2) s1) r1 hx1
          (by simp [setCT]) (fun v hv5 hat5 => by
            rw [hhv1] at hv5; cases hv5
            refine .inr ⟨gb, cap, arr', E, cs', by simp, hg2, hw', ?_, by simpa using hgle, hcs', hund⟩
            simp only [arr', List.size_toArray, List.length_append, List.length_take, List.length_drop, Array.length_toList, f2, hlen]; omega)
          ⟨fun b hb q => ⟨q, hwo b (hne_sh b q)⟩⟩ (by rw [hsize]; exact Nat.le_refl _)
          (fun k' c' cv'' d'' st'' hne hh5 => ⟨fun b q => ⟨q, hwo b (fun e5 => by have q2 : γ2 b = .tp k' c' := q; rw [e5, hg2] at q2; cases q2; exact hne ⟨rfl, rfl⟩)⟩, fun b q => ⟨q, hwo b (hne_sh b (.inr ⟨_, _, q⟩))⟩⟩)
          (fun d' st' e5 => by cases e5; exact ⟨rfl, fun t' zs e6 => by cases e6; exact ⟨_, rfl, by simp⟩⟩)
          (fun k5 l5 hb5 => by
            obtain ⟨_, _, _, h2, _⟩ := r1.box k5 l5 hb5
            exact ⟨h2, hwo _ (fun e5 => by have h3 : γ2 (X.β k5) = .bx k5 := h2; rw [e5, hg2] at h3; cases h3)⟩)
          (fun b hb => r1.lim b (by show X.w.heap.size ≤ b; rw [← hsize]; exact hb)) (fun b hb hn => by
            obtain ⟨g1, g2⟩ := r1.old b hb hn
            exact ⟨(hwo b (fun e5 => g2.notp h' c (by rw [e5]; exact hg2))).trans g1, g2⟩) ⟨rfl, rfl, rfl⟩
        refine ⟨.inl fun c cv dd st' hc => (by cases hc), fun y5 hy5 => ?_, fun K Q hK => ?_⟩
        · rcases List.mem_append.1 hy5 with h | h
          · exact W.noput y5 h
          · simp at h; subst h; rfl
        · unfold Oper.wp
          rw [hrun]
          refine hK γ2 X.β w' undef ?_ trivial
          show Rel w0 wr nt ⟨X.B0, γ2, X.β, applyAll X.s (q.1 ++ [.set h' c (.sl u (xs.set i.toNat y)) (hm.2 && allDeep q.2)]), X.a, w'⟩
          rw [applyAll_append]
          exact r2
      | un => rw [hsv] at h; cases h
      | val => rw [hsv] at h; cases h
      | es => rw [hsv] at h; cases h
      | tup => rw [hsv] at h; cases h
      | sub => rw [hsv] at h; cases h
      | clo => rw [hsv] at h; cases h
  | un => cases hl
  | fp => cases hl
  | ep => cases hl
  | es => cases hl
  | tup => cases hl
  | sub => cases hl
  | clo => cases hl

end
end Go.AM

/- append. -/
namespace Go.AM
section
variable {P : Program} {T : Tab} {w0 : World} {wr : Gh} {nt : Nat} {X : Cx} {st dst : Nat} {o : Oper} {g : List (Nat × Bool)}

/-- What append makes of a row. -/
def Appended (w w' : World) (size n m : Nat) (g : Option Nat) (v' : Value) (all : List Value) : Prop :=
  (v' = .slice none 0 0 ∧ n = 0 ∧ m = 0 ∧ w' = w) ∨ ∃ b0 cap' arr' E, v' = .slice (some ⟨b0, 0, none⟩) (n + m) cap' ∧ w'.heap[b0]? = some (.cells arr' E (0, 0)) ∧ arr'.size = cap' * size ∧ n + m ≤ cap' ∧
    (∀ k, k < (n + m) * size → arr'[k]? = all[k]?) ∧ (g = some b0 ∨ b0 = w.heap.size) ∧ (∀ b, b ≠ b0 → b < w.heap.size → w'.heap[b]? = w.heap[b]?) ∧ w.heap.size ≤ w'.heap.size ∧ b0 < w'.heap.size ∧
    (w'.os = w.os ∧ w'.tape = w.tape ∧ w'.output = w.output)

theorem run_append_roomE {w : World} (t ty e E : TypeId) (i : TypeInfo) (ht : P.underlying t = some (.slice e)) (hi : P.info? e = some i)
    (g sLen sCap : Nat) (cur : Array Value) (hg : w.heap[g]? = some (.cells cur E (0, 0)))
    (a : Addr) (m c : Nat) (news : List Value) (hl : news.length = m * i.size) (hnews : ∀ j u, news[j]? = some u → w.cell? (a.add j) = some u) (h1 : ∀ u ∈ news, u.oneCell' = true)
    (hroom : sLen + m ≤ sCap) (hfit : sLen * i.size + news.length ≤ cur.size) :
    (Builtin.append_ #[t, t] ty #[.slice (some ⟨g, 0, none⟩) sLen sCap, .slice (some a) m c]).run P w =
      .ok (.slice (some ⟨g, 0, none⟩) (sLen + m) sCap) (w.setRow g (cur.toList.take (sLen * i.size) ++ news ++ cur.toList.drop (sLen * i.size + news.length)).toArray) := by
  have hf := run_firstCells_some (P := P) w i.size m a m c news hl hnews
  have hst := run_storeCells_at P g (sLen * i.size) E news 0 cur w hg (by simpa using hfit) h1
  simp only [Nat.add_zero] at hst
  simp [Builtin.append_, run_underlying ht, sizeOf, typeInfo, hi, Builtin.lenOf, hroom, hf, Addr.add_lit, hst]

theorem run_append_any (hT : TabOK P T) {ti ty : TypeId} {u : Ty} (ht : T.ty ti = some (.sl u)) {w : World} {v1 : Value} {n : Nat} {olds : List Value} {g : Option Nat}
    (h1 : (v1 = .slice none 0 0 ∧ n = 0 ∧ olds = [] ∧ g = none) ∨ ∃ b cap cur E, v1 = .slice (some ⟨b, 0, none⟩) n cap ∧ w.heap[b]? = some (.cells cur E (0, 0)) ∧ cur.size = cap * u.size ∧ n ≤ cap ∧ olds = cur.toList.take (n * u.size) ∧ g = some b)
    {A : Option Addr} {m c2 : Nat} {news : List Value} (hm : news.length = m * u.size) (hA : A = none → m = 0) (hnews : ∀ a, A = some a → ∀ j y, news[j]? = some y → w.cell? (a.add j) = some y) (h1n : ∀ y ∈ news, y.oneCell' = true) (hlim : n + m ≤ LIM) :
    ∃ v' w', (Builtin.append_ #[ti, ti] ty #[v1, .slice A m c2]).run P w = .ok v' w' ∧ Appended w w' u.size n m g v' (olds ++ news) := by
  obtain ⟨e, he, hte⟩ := (hT ti _ ht).sl u rfl
  obtain ⟨inf, hi, hz, hby, hz0⟩ := (hT e u hte).info
  simp only [LIM] at hlim
  have hzs : (zeroV u).cells.size = u.size := by rw [zeroV_cells]; simp [unpack_len]
  have hbytes : (n + m) * inf.bytes ≤ 140737488355328 := by
    have : (n + m) * inf.bytes ≤ (n + m) * 256 := Nat.mul_le_mul_left _ hby
    omega
  cases A with
  | none =>
    have hm0 := hA rfl
    subst hm0
    have hn0 : news = [] := List.eq_nil_of_length_eq_zero (by simpa using hm)
    subst hn0
    rcases h1 with ⟨rfl, rfl, rfl, rfl⟩ | ⟨b, cap, cur, E, rfl, hb, hs, hc, rfl, rfl⟩
    · refine ⟨.slice none 0 0, w, ?_, .inl ⟨rfl, rfl, rfl, rfl⟩⟩
      simp [Builtin.append_, run_underlying he, sizeOf, typeInfo, hi, Builtin.lenOf, Builtin.firstCells]
    · refine ⟨.slice (some ⟨b, 0, none⟩) n cap, w, ?_, .inr ⟨b, cap, cur, E, by simp, hb, hs, by simpa using hc, fun k hk => ?_, .inl rfl, fun _ _ _ => rfl, Nat.le_refl _, ?_, rfl, rfl, rfl⟩⟩
      · simp [Builtin.append_, run_underlying he, sizeOf, typeInfo, hi, Builtin.lenOf, Builtin.firstCells, hc, storeCells]
      · rw [Nat.add_zero] at hk
        rw [List.append_nil, List.getElem?_take, if_pos hk, Array.getElem?_toList]
      · exact (Array.getElem?_eq_some_iff.1 hb).1
  | some a =>
    have hnw := hnews a rfl
    rcases h1 with ⟨rfl, rfl, rfl, rfl⟩ | ⟨b, cap, cur, E, rfl, hb, hs, hc, rfl, rfl⟩
    · by_cases hm0 : m = 0
      · subst hm0
        refine ⟨.slice none 0 0, w, ?_, .inl ⟨rfl, rfl, rfl, rfl⟩⟩
        simp [Builtin.append_, run_underlying he, sizeOf, typeInfo, hi, Builtin.lenOf, Builtin.firstCells, loadCells, loadCellsFrom]
      · have hr := run_append_nil (P := P) w ti ty e inf (zeroV u) he hi hz0 a m c2 news (by rw [hm, hz]) hnw (by omega) (by omega) (by simp only [Nat.zero_add] at hbytes; omega)
        have hge := grownCap_ge w m 0 e
        refine ⟨_, _, hr, .inr ⟨w.heap.size, grownCap w m 0 e, _, e, by simp, heap_alloc_new w.drew _, ?_, by simpa using hge, fun k hk => ?_, .inr rfl, fun b _ hb => heap_alloc_old w.drew _ b hb, by simp, by simp, rfl, rfl, rfl⟩⟩
        · simp only [Array.size_append, List.size_toArray, size_zeroCells, hzs, hm, ← Nat.add_mul]
          congr 1; omega
        · rw [Nat.zero_add] at hk
          rw [Array.getElem?_append_left (by simpa [hm] using hk)]
          simp
    · have hcur : cur.toList.length = cap * u.size := by rw [Array.length_toList, hs]
      have hol : (cur.toList.take (n * u.size)).length = n * u.size := by rw [List.length_take, hcur]; exact Nat.min_eq_left (Nat.mul_le_mul_right _ hc)
      by_cases hroom : n + m ≤ cap
      · have hfit : n * inf.size + news.length ≤ cur.size := by rw [hm, hs, hz, ← Nat.add_mul]; exact Nat.mul_le_mul_right _ hroom
        have hr := run_append_roomE (P := P) (w := w) ti ty e E inf he hi b n cap cur hb a m c2 news (by rw [hm, hz]) hnw h1n hroom hfit
        refine ⟨_, _, hr, .inr ⟨b, cap, _, E, rfl, setRow_heap w b cur _ E _ hb, ?_, hroom, fun k hk => ?_, .inl rfl, fun k hk _ => setRow_other w b k _ hk, by simp [World.setRow], by simp [World.setRow]; exact (Array.getElem?_eq_some_iff.1 hb).1, rfl, rfl, rfl⟩⟩
        · simp only [List.size_toArray, List.length_append, List.length_take, List.length_drop, Array.length_toList]
          omega
        · rw [hz, List.getElem?_toArray, List.getElem?_append_left (by rw [List.length_append, hol, hm, ← Nat.add_mul]; exact hk)]
      · have holds : ∀ j y, (cur.toList.take (n * u.size))[j]? = some y → w.cell? ((⟨b, 0, none⟩ : Addr).add j) = some y := by
          intro j y hj
          rw [List.getElem?_take] at hj
          split at hj
          · rw [Addr.add_lit, Nat.zero_add, cell_of_cells hb, ← Array.getElem?_toList]; exact hj
          · cases hj
        have hr := run_append_grow (P := P) w ti ty e inf (zeroV u) he hi hz0 ⟨b, 0, none⟩ n cap _ (by rw [hol, hz]) holds a m c2 news (by rw [hm, hz]) hnw (by omega) (by omega) (growslice_fits (by omega) hbytes)
        have hge := grownCap_ge w (n + m) cap e
        refine ⟨_, _, hr, .inr ⟨w.heap.size, grownCap w (n + m) cap e, _, e, rfl, heap_alloc_new w.drew _, ?_, hge, fun k hk => ?_, .inr rfl, fun b _ hb => heap_alloc_old w.drew _ b hb, by simp, by simp, rfl, rfl, rfl⟩⟩
        · simp only [Array.size_append, List.size_toArray, size_zeroCells, hzs, hol, hm, ← Nat.add_mul]
          congr 1; omega
        · rw [Array.getElem?_append_left (by simp only [Array.size_append, List.size_toArray, hol, hm, ← Nat.add_mul]; exact hk)]
          rw [← Array.getElem?_toList]
          simp

theorem flat_plain {u : Ty} (h : u.flat = true) (y : u.den) {j : Nat} {c : CV} (hc : (unpack u y)[j]? = some c) : c.isSl = false := by
  have hm := List.mem_of_getElem? hc
  cases u <;> simp only [Ty.flat] at h <;> first | cases h | skip
  all_goals (simp only [unpack, List.mem_cons, List.not_mem_nil, or_false] at hm; first | (subst hm; rfl) | (rcases hm with rfl | rfl | rfl <;> rfl))

def tagDeep : Tag → Bool
  | .own d _ => d
  | _ => false
/-- The elements of a slice: an owned one, or one that is only read. -/
theorem rows_of {B0 N n : Nat} {γ : Gh} {w : World} {v : Value} {u : Ty} {ys : List u.den} {t : Tag} (h : AtOK B0 γ w N n v (.sl u ys) t) (ht : t ≠ .dead) :
    ∃ A cap cs, v = .slice A ys.length cap ∧ (A = none → ys.length = 0) ∧ (∀ a, A = some a → ∀ i j, i < ys.length → j < u.size → a.spot = none ∧ w.cell? ⟨a.block, a.off + i * u.size + j, none⟩ = some (cs i j)) ∧
      Under w γ N n (tagDeep t) u ys cs := by
  have rd : ∀ {ok : Nat → Prop}, Rep w ok v (.sl u ys) → (∀ b, ok b → okSh γ b) → ∃ A cap cs, v = .slice A ys.length cap ∧ (A = none → ys.length = 0) ∧ (∀ a, A = some a → ∀ i j, i < ys.length → j < u.size → a.spot = none ∧ w.cell? ⟨a.block, a.off + i * u.size + j, none⟩ = some (cs i j)) ∧
      Under w γ N n false u ys cs := by
    intro ok hr hok
    cases hr with
    | sl t xs A cap hle cs ha hrr =>
      refine ⟨A, cap, cs, rfl, fun e => ?_, fun a e i j hi hj => ?_, fun i j e hi he => (hrr i j e hi he).mono fun b _ q => ⟨hok b q, rfl⟩⟩
      · rcases Nat.eq_zero_or_pos ys.length with h0 | h0
        · exact h0
        · obtain ⟨a, e', _⟩ := ha h0; rw [e] at e'; cases e'
      · obtain ⟨a', e', hs, _, hcell⟩ := ha (by omega)
        rw [e] at e'; cases e'
        exact ⟨hs, hcell i j hi hj⟩
  cases t with
  | ps => exact rd h fun b q => q.2
  | sh => exact rd h fun b q => q
  | dead => exact absurd rfl ht
  | own d st =>
    rcases h with ⟨rfl, rfl⟩ | ⟨g, cap, arr, E, cs, rfl, hg, hh, hsz, hle, hc, hu⟩
    · refine ⟨none, 0, fun _ _ => undef, rfl, fun _ => rfl, (fun a e => by cases e), ?_⟩
      cases d with
      | true => exact ⟨fun _ _ _ => False, fun _ _ _ q => q.elim, fun _ _ _ _ _ q => q.elim, fun i j e hi => by simp at hi⟩
      | false => exact fun i j e hi => by simp at hi
    · refine ⟨_, cap, cs, rfl, (fun e => by cases e), fun a e i j hi hj => ?_, hu⟩
      cases e
      refine ⟨rfl, ?_⟩
      rw [cell_of_cells hh, Nat.zero_add]
      exact hc i j hi hj
theorem Under.rep {w : World} {γ : Gh} {k c : Nat} {d : Bool} {t : Ty} {xs : List t.den} {cs : Nat → Nat → Value} (h : Under w γ k c d t xs cs) {i j : Nat} {e : CV} (hi : i < xs.length) (he : (unpack t (xs.getD i t.zero))[j]? = some e) : Rep w (okSh γ) (cs i j) e := by
  cases d with
  | false => exact h i j e hi he
  | true => obtain ⟨Q, q1, _, q3⟩ := h; exact (q3 i j e hi he).rep.mono fun b _ q => ⟨.inr ⟨k, c, q1 i j b q⟩, rfl⟩
theorem Rep.isSingle {w : World} {ok : Nat → Prop} {v : Value} {c : CV} (h : Rep w ok v c) : single v = true := by cases h <;> rfl
theorem Rep.weaken {w : World} {ok : Nat → Prop} {v : Value} {c : CV} (h : Rep w ok v c) : Reads w v c := h.mono fun _ _ _ => ⟨trivial, rfl⟩
/-- The cells of elements, in a row. -/
theorem news_of {w : World} {A : Option Addr} {m size : Nat} {cs : Nat → Nat → Value} (hs : 0 < size) (hA : ∀ a, A = some a → ∀ i j, i < m → j < size → a.spot = none ∧ w.cell? ⟨a.block, a.off + i * size + j, none⟩ = some (cs i j)) :
    ∃ news : List Value, news.length = m * size ∧ (∀ i j, i < m → j < size → news[i * size + j]? = some (cs i j)) ∧ (∀ a, A = some a → ∀ j y, news[j]? = some y → w.cell? (a.add j) = some y) ∧ ∀ y ∈ news, ∃ i j, i < m ∧ j < size ∧ y = cs i j := by
  have split : ∀ k, k < m * size → k / size < m ∧ k % size < size ∧ k = k / size * size + k % size := fun k hk =>
    ⟨Nat.div_lt_of_lt_mul (by rw [Nat.mul_comm]; exact hk), Nat.mod_lt _ hs, by rw [Nat.mul_comm]; exact (Nat.div_add_mod k size).symm⟩
  refine ⟨(List.range (m * size)).map fun k => cs (k / size) (k % size), by simp, fun i j hi hj => ?_, fun a e k y hk => ?_, fun y hy => ?_⟩
  · have hlt : i * size + j < m * size := by
      have : (i + 1) * size ≤ m * size := Nat.mul_le_mul_right _ hi
      rw [Nat.add_mul, Nat.one_mul] at this; omega
    have e1 : (i * size + j) / size = i := by rw [Nat.add_comm, Nat.add_mul_div_right _ _ hs, Nat.div_eq_of_lt hj, Nat.zero_add]
    have e2 : (i * size + j) % size = j := by rw [Nat.add_comm, Nat.add_mul_mod_self_right, Nat.mod_eq_of_lt hj]
    rw [List.getElem?_map, List.getElem?_range hlt, Option.map_some, e1, e2]
  · rw [List.getElem?_map] at hk
    by_cases hlt : k < m * size
    · rw [List.getElem?_range hlt, Option.map_some] at hk
      cases hk
      obtain ⟨h1, h2, h3⟩ := split k hlt
      obtain ⟨g1, g2⟩ := hA a e _ _ h1 h2
      rw [addr_add _ _ g1]
      rw [show a.off + k = a.off + k / size * size + k % size by omega]
      exact g2
    · rw [List.getElem?_eq_none (by simpa using hlt)] at hk; cases hk
  · obtain ⟨k, hk, rfl⟩ := List.mem_map.1 hy
    obtain ⟨h1, h2, _⟩ := split k (List.mem_range.1 hk)
    exact ⟨_, _, h1, h2, rfl⟩

theorem own_row {w : World} {γ : Gh} {N : Nat} {d : Bool} {v : Value} {u : Ty} {xs : List u.den} (h : OwnS w γ N 0 d v u xs) :
    ∃ (olds : List Value) (g : Option Nat) (cs : Nat → Nat → Value),
      ((v = .slice none 0 0 ∧ xs.length = 0 ∧ olds = [] ∧ g = none) ∨ ∃ b cap cur E, v = .slice (some ⟨b, 0, none⟩) xs.length cap ∧ w.heap[b]? = some (.cells cur E (0, 0)) ∧ cur.size = cap * u.size ∧ xs.length ≤ cap ∧ olds = cur.toList.take (xs.length * u.size) ∧ g = some b) ∧
      olds.length = xs.length * u.size ∧ (∀ i j, i < xs.length → j < u.size → olds[i * u.size + j]? = some (cs i j)) ∧ (∀ b, g = some b → γ b = .tp N 0) ∧ Under w γ N 0 d u xs cs := by
  rcases h with ⟨rfl, rfl⟩ | ⟨g, cap, arr, E, cs, rfl, hg, hh, hsz, hle, hc, hu⟩
  · refine ⟨[], none, fun _ _ => undef, .inl ⟨rfl, rfl, rfl, rfl⟩, by simp, fun i j hi => by simp at hi, (fun b e => by cases e), ?_⟩
    cases d with
    | true => exact ⟨fun _ _ _ => False, fun _ _ _ q => q.elim, fun _ _ _ _ _ q => q.elim, fun i j e hi => by simp at hi⟩
    | false => exact fun i j e hi => by simp at hi
  · have hol : xs.length * u.size ≤ arr.size := by rw [hsz]; exact Nat.mul_le_mul_right _ hle
    refine ⟨arr.toList.take (xs.length * u.size), some g, cs, .inr ⟨g, cap, arr, E, rfl, hh, hsz, hle, rfl, rfl⟩, by rw [List.length_take]; exact Nat.min_eq_left (by rw [Array.length_toList]; exact hol), fun i j hi hj => ?_, (fun b e => by cases e; exact hg), hu⟩
    have hlt : i * u.size + j < xs.length * u.size := by
      have : (i + 1) * u.size ≤ xs.length * u.size := Nat.mul_le_mul_right _ hi
      rw [Nat.add_mul, Nat.one_mul] at this; omega
    rw [List.getElem?_take, if_pos hlt, Array.getElem?_toList]
    exact hc i j hi hj

theorem getD_append {α : Type} (xs ys : List α) (i : Nat) (d : α) : (xs ++ ys).getD i d = if i < xs.length then xs.getD i d else ys.getD (i - xs.length) d := by
  simp only [List.getD_eq_getElem?_getD, List.getElem?_append]
  split <;> rfl

theorem op_append (r : Rel w0 wr nt X) (hG : GOK X) (hg : Holds X.a g) (hT : TabOK P T) {c : Call} {ti : TypeId} {u : Ty} {x y : Operand} (ho : o.op = .call c) (hcal : c.callee = .builtin .append) (hargs : c.args.toList = [x, y]) (htys : c.argTypes.toList = [ti, ti])
    (ht : T.ty ti = some (.sl u)) {L : Leaf} {ps : List Prim} {v : SV} (h : (appendR st g u x y).ev X.s = some L) (hL : Gives L ps v) (hd : nodupH (ps.flatMap Prim.home) = true) : OpOK P w0 wr nt X st dst o ps v := by
  have hargs' : c.args = #[x, y] := by rw [← Array.toList_inj, hargs]
  have htys' : c.argTypes = #[ti, ti] := by rw [← Array.toList_inj, htys]
  have hexec : ∀ {v' : Value} {w' : World}, (Builtin.append_ #[ti, ti] o.type #[X.a.eval x, X.a.eval y]).run P X.w = .ok v' w' → (execOp X.a.eval o).run P X.w = .ok (.value v') w' := by
    intro v' w' hr
    unfold execOp; rw [ho]
    simp [resolve, hcal, invoke, builtin, hargs', htys', hr]
  unfold appendR at h
  obtain ⟨p, hp, h⟩ := Rd.inv h
  obtain ⟨c1, hc1, h⟩ := Rd.inv h
  obtain ⟨q, hq, h⟩ := Rd.inv h
  have hop := opd_ok r hG hg hp
  rw [ev_one hc1] at hop
  have hlies := (hop.one r).2
  obtain ⟨N, hN⟩ := fresh_ex X.s
  split at h
  · rename_i cx d s0 hq2
    obtain ⟨xs, hxs, h⟩ := Rd.invO h
    obtain ⟨p', hp', h⟩ := Rd.inv h
    obtain ⟨c2, hc2, hz⟩ := Rd.inv h
    have hop' := opd_ok r hG hg hp'
    rw [ev_one hc2] at hop'
    have hlies' := (hop'.one r).2
    have ecx := asSl_eq hxs
    subst ecx
    -- the end: the row is made, its elements are known
    have fin : ∀ {ps : List Prim} {γ' : Gh} (W : Went w0 wr nt X X [] N ps γ') (d1 dd : Bool) (hown : OwnS X.w γ' N 0 d1 (X.a.eval x) u xs) (ys : List u.den) {A : Option Addr} {c2 : Nat} {cs2 : Nat → Nat → Value} (_ : X.a.eval y = .slice A ys.length c2) (_ : A = none → ys.length = 0)
        (_ : ∀ a, A = some a → ∀ i j, i < ys.length → j < u.size → a.spot = none ∧ X.w.cell? ⟨a.block, a.off + i * u.size + j, none⟩ = some (cs2 i j)) (_ : ∀ i j e, i < ys.length → (unpack u (ys.getD i u.zero))[j]? = some e → Rep X.w (fun b => okSh γ' b ∨ u.flat = true) (cs2 i j) e)
        (_ : dd = true → u.flat = true ∨ (d1 = true ∧ ∃ n, n ≠ 0 ∧ Under X.w γ' N n true u ys cs2)) (_ : xs.length + ys.length ≤ LIM),
        ∃ γ'' v' w', (execOp X.a.eval o).run P X.w = .ok (.value v') w' ∧ Rel w0 wr nt (After X γ'' X.β ps w') ∧ OwnS w' γ'' dst 0 dd v' u (xs ++ ys) := by
      intro ps γ' W d1 dd hown ys A c2 cs2 hy hA hcell hrep hdeep hlim
      obtain ⟨olds, gb, cs1, k1, k2, k3, k4, k5⟩ := own_row hown
      obtain ⟨news, n1, n2, n3, n4⟩ := news_of u.size_pos hcell
      have hsing : ∀ z ∈ news, z.oneCell' = true := by
        intro z hz
        obtain ⟨i, j, hi, hj, rfl⟩ := n4 z hz
        obtain ⟨e, he⟩ : ∃ e, (unpack u (ys.getD i u.zero))[j]? = some e := ⟨_, List.getElem?_eq_getElem (by rw [unpack_len]; exact hj)⟩
        exact one_of_single (hrep i j e hi he).isSingle
      obtain ⟨v', w', hrun, happ⟩ := run_append_any (P := P) hT ht (ty := o.type) k1 n1 hA n3 hsing hlim
      rw [← hy] at hrun
      rcases happ with ⟨rfl, h1, h2, rfl⟩ | ⟨b0, cap', arr', E, rfl, a1, a2, a3, a4, a5, a6, a7, a8, a9⟩
      · have ex : xs = [] := List.eq_nil_of_length_eq_zero h1
        have ey : ys = [] := List.eq_nil_of_length_eq_zero h2
        subst ex; subst ey
        exact ⟨fun b => layNs N dst 0 (γ' b), _, _, hexec hrun, W.rel.map (layNs_keeps W.fresh dst 0), .inl ⟨rfl, rfl⟩⟩
      have hb0 : (∃ n, γ' b0 = .tp N n) ∨ X.w.heap.size ≤ b0 := by
        rcases a5 with h | h
        · exact .inl ⟨0, k4 b0 h⟩
        · exact .inr (by omega)
      let γ'' : Gh := fun b => if b = b0 then .tp dst 0 else layNs N dst 0 (γ' b)
      have r2 := W.rel.lay2 W.fresh (b0 := b0) (ow := .tp dst 0) (φ := layNs N dst 0) (layNs_keeps W.fresh dst 0) (w' := w') a7 hb0 a8 a6 a9
      have hlt : ∀ b, γ' b ≠ .none → b < X.w.heap.size := fun b hb => by
        rcases Nat.lt_or_ge b X.w.heap.size with h | h
        · exact h
        · exact absurd (W.rel.lim b h) hb
      have sh_ne : ∀ b, b < X.w.heap.size → okSh γ' b → b ≠ b0 := by
        intro b hb q e
        subst e
        rcases hb0 with ⟨n, hn⟩ | hn
        · rcases q with q | ⟨k, c, q⟩ <;> rw [hn] at q <;> cases q
        · omega
      have ok2 : ∀ b, b < X.w.heap.size → okSh γ' b → okSh γ'' b ∧ w'.heap[b]? = X.w.heap[b]? := fun b hb q => by
        have hne := sh_ne b hb q
        refine ⟨?_, a6 b hne hb⟩
        have := (layNs_keeps W.fresh dst 0).sh q
        unfold okSh at this ⊢
        simpa [γ'', hne] using this
      have ns2 : ∀ n b, γ' b = .ns N n → γ'' b = .ns dst 0 ∧ w'.heap[b]? = X.w.heap[b]? := fun n b q => by
        have hb := hlt b (by rw [q]; simp)
        have hne := sh_ne b hb (.inr ⟨_, _, q⟩)
        exact ⟨by simp only [γ'', if_neg hne, q, layNs, if_true], a6 b hne hb⟩
      let cs : Nat → Nat → Value := fun i j => if i < xs.length then cs1 i j else cs2 (i - xs.length) j
      refine ⟨γ'', _, w', hexec hrun, r2, .inr ⟨b0, cap', arr', E, cs, by rw [List.length_append], by simp only [γ'', if_true], a1, a2, by rw [List.length_append]; exact a3, fun i j hi hj => ?_, ?_⟩⟩
      · rw [List.length_append] at hi
        have hlt' : i * u.size + j < (xs.length + ys.length) * u.size := by
          have : (i + 1) * u.size ≤ (xs.length + ys.length) * u.size := Nat.mul_le_mul_right _ hi
          rw [Nat.add_mul, Nat.one_mul] at this; omega
        rw [a4 _ hlt']
        by_cases hix : i < xs.length
        · have h1 : i * u.size + j < olds.length := by
            rw [k2]
            have : (i + 1) * u.size ≤ xs.length * u.size := Nat.mul_le_mul_right _ hix
            rw [Nat.add_mul, Nat.one_mul] at this; omega
          rw [List.getElem?_append_left h1, k3 i j hix hj]
          simp only [cs, if_pos hix]
        · have h1 : olds.length ≤ i * u.size + j := by
            rw [k2]
            have : xs.length * u.size ≤ i * u.size := Nat.mul_le_mul_right _ (by omega)
            omega
          rw [List.getElem?_append_right h1, k2]
          have e5 : i * u.size + j - xs.length * u.size = (i - xs.length) * u.size + j := by
            have : i * u.size = xs.length * u.size + (i - xs.length) * u.size := by rw [← Nat.add_mul]; congr 1; omega
            omega
          rw [e5, n2 _ j (by omega) hj]
          simp only [cs, if_neg hix]
      · have hget : ∀ i, (xs ++ ys).getD i u.zero = if i < xs.length then xs.getD i u.zero else ys.getD (i - xs.length) u.zero := fun i => getD_append xs ys i _
        cases dd with
        | false =>
          intro i j e hi he
          rw [List.length_append] at hi
          rw [hget] at he
          by_cases hix : i < xs.length
          · simp only [cs, if_pos hix]
            rw [if_pos hix] at he
            exact (k5.rep hix he).mono fun b hb q => ok2 b hb q
          · simp only [cs, if_neg hix]
            rw [if_neg hix] at he
            have h5 := hrep _ j e (by omega) he
            cases hfl : u.flat with
            | false => exact h5.mono fun b hb q => ok2 b hb (by rcases q with q | q; exact q; rw [hfl] at q; cases q)
            | true =>
              have hp := flat_plain hfl _ he
              cases e with
              | int k n => rw [h5.weaken.int]; exact .int _ _
              | bool b => rw [h5.weaken.bool]; exact .bool _
              | str s => rw [h5.weaken.str]; exact .str _
              | sl t zs => cases hp
        | true =>
          rcases hdeep rfl with hfl | ⟨rfl, n0, hn0, Q2, q21, q22, q23⟩
          · refine ⟨fun _ _ _ => False, fun _ _ _ q => q.elim, fun _ _ _ _ _ q => q.elim, fun i j e hi he => ?_⟩
            rw [List.length_append] at hi
            have hp := flat_plain hfl _ he
            rw [hget] at he
            have hval : Reads X.w (cs i j) e := by
              by_cases hix : i < xs.length
              · simp only [cs, if_pos hix]
                rw [if_pos hix] at he
                exact (k5.rep hix he).weaken
              · simp only [cs, if_neg hix]
                rw [if_neg hix] at he
                exact (hrep _ j e (by omega) he).weaken
            cases e with
            | int k n => rw [hval.int]; exact .int _ _ _
            | bool b => rw [hval.bool]; exact .bool _ _
            | str s => rw [hval.str]; exact .str _ _
            | sl t zs => cases hp
          · obtain ⟨Q1, q11, q12, q13⟩ := k5
            refine ⟨fun i j b => if i < xs.length then Q1 i j b else Q2 (i - xs.length) j b, fun i j b q => ?_, fun i j i' j' b q q' => ?_, fun i j e hi he => ?_⟩
            · dsimp only at q
              split at q
              · exact (ns2 _ b (q11 i j b q)).1
              · exact (ns2 _ b (q21 _ j b q)).1
            · dsimp only at q q'
              split at q <;> split at q'
              · exact q12 _ _ _ _ b q q'
              · have e1 := q11 _ _ b q
                rw [q21 _ _ b q'] at e1
                injection e1 with _ e1
                exact absurd e1 hn0
              · have e1 := q11 _ _ b q'
                rw [q21 _ _ b q] at e1
                injection e1 with _ e1
                exact absurd e1 hn0
              · obtain ⟨e1, e2⟩ := q22 _ _ _ _ b q q'
                exact ⟨by omega, e2⟩
            · rw [List.length_append] at hi
              rw [hget] at he
              by_cases hix : i < xs.length
              · simp only [cs, if_pos hix]
                rw [if_pos hix] at he
                exact (q13 i j e hix he).mono fun b q => ⟨q, (ns2 _ b (q11 i j b q)).2⟩
              · simp only [cs, if_neg hix]
                rw [if_neg hix] at he
                exact (q23 _ j e (by omega) he).mono fun b q => ⟨q, (ns2 _ b (q21 _ j b q)).2⟩
    -- the first operand in transit
    have first : ∀ (hd' : nodupH (q.1.flatMap Prim.home) = true), ∃ γ', Went w0 wr nt X X [] N q.1 γ' ∧ OwnS X.w γ' N 0 d (X.a.eval x) u xs := by
      intro hd'
      obtain ⟨γ', W, cv, t, e1, _, e3⟩ := grab_went r (Link.refl X) hN 0 hlies (x' := q.2) (ps := q.1) hq (fun _ _ hs => by cases hs)
      rw [hq2] at e1
      cases e1
      exact ⟨γ', W, e3⟩
    cases hfl : u.flat with
    | true =>
      rw [hfl] at hz
      simp only [cond_true] at hz
      obtain ⟨cy, hcy, hz2⟩ := Rd.inv hz
      obtain ⟨ys, hys, hz3⟩ := Rd.invO hz2
      cases hz3
      obtain ⟨hck, rfl, rfl⟩ := hL
      have hlim : xs.length + ys.length ≤ LIM := of_decide_eq_true hck
      obtain ⟨γ', W, hown⟩ := first hd
      have hry := lend_ok r hlies' hcy
      rw [asSl_eq hys] at hry
      generalize hyv : X.a.eval y = yv at hry
      cases hry with
      | sl t ys A cap hle cs ha hrr =>
        obtain ⟨γ'', v', w', f1, f2, f3⟩ := fin W d true hown ys (A := A) (c2 := cap) (cs2 := cs) hyv (fun e => by
            rcases Nat.eq_zero_or_pos ys.length with h0 | h0
            · exact h0
            · obtain ⟨a, e', _⟩ := ha h0; rw [e] at e'; cases e')
          (fun a e i j hi hj => by
            obtain ⟨a', e', hs, _, hcell⟩ := ha (by omega)
            rw [e] at e'; cases e'
            exact ⟨hs, hcell i j hi hj⟩)
          (fun i j e hi he => (hrr i j e hi he).mono fun b _ _ => ⟨.inr hfl, rfl⟩) (fun _ => .inl hfl) hlim
        refine ⟨new_one, W.noput, fun K Q hK => ?_⟩
        unfold Oper.wp
        rw [f1]
        exact hK γ'' X.β w' v' f2 (sv_own f3)
    | false =>
      rw [hfl] at hz
      simp only [cond_false] at hz
      obtain ⟨q', hq', hz2⟩ := Rd.inv hz
      split at hz2
      · rename_i cy t hq2'
        obtain ⟨ys, hys, hz3⟩ := Rd.invO hz2
        cases hz3
        obtain ⟨hck, rfl, rfl⟩ := hL
        have hlim : xs.length + ys.length ≤ LIM := of_decide_eq_true hck
        rw [List.flatMap_append] at hd
        obtain ⟨d1, d2, d3⟩ := homes_append hd
        obtain ⟨γ1, W, hown⟩ := first d1
        obtain ⟨γ2, W2, cv, t', e1, _, e3⟩ := grab_went W.rel W.link W.fresh 1 hlies' (x' := q'.2) (ps := q'.1) hq' (fun s hs hm => by
          rw [List.append_nil] at hm
          exact d3 s hm hs)
        rw [hq2'] at e1
        cases e1
        have ecy := asSl_eq hys
        subst ecy
        have hnd : t ≠ .dead := fun e => grab_nd hq' (.sl u ys) (by rw [hq2', e])
        obtain ⟨A, cap, cs2, m1, m2, m3, m4⟩ := rows_of e3 hnd
        have hown2 : OwnS X.w γ2 N 0 d (X.a.eval x) u xs := W2.at (t := .own d st) (m := 0) (cv := .sl u xs) hown
        obtain ⟨γ'', v', w', f1, f2, f3⟩ := fin (W.trans W2) d (d && tagDeep t) hown2 ys m1 m2 m3 (fun i j e hi he => (m4.rep hi he).mono fun b _ q => ⟨.inl q, rfl⟩) (fun hdd => by
          simp only [Bool.and_eq_true] at hdd
          rw [hdd.2] at m4
          exact .inr ⟨hdd.1, 1, by omega, m4⟩) hlim
        refine ⟨new_one, (W.trans W2).noput, fun K Q hK => ?_⟩
        unfold Oper.wp
        rw [f1]
        exact hK γ'' X.β w' v' f2 (sv_own f3)
      · cases hz2
  · cases h

end
end Go.AM

/- What a function's callers may rely on. -/
namespace Go.AM

/-- Results: each with its cells. -/
def resTup (ts : List Ty) (tags : List (List Tag)) (x : Dens ts) : List (Bool × List CT) := (ts.zip ((splitRes ts x).zip tags)).map fun p => (p.1.isAgg, tagZip p.2.1 p.2.2)
def resTagsC : List CV → List Tag → Bool
  | [], _ => true
  | c :: l, tags => (!c.isSl || (match tags with | .own _ _ :: _ => true | .sh :: _ => true | _ => false)) && resTagsC l tags.tail
def resTagsOk : List Ty → List (List Tag) → Bool
  | [], _ => true
  | t :: ts, tags => resTagsC (unpack t t.zero) (tags.headD []) && resTagsOk ts tags.tail

def shapeOK (v : Value) (a : Bool) : Prop := if a then ∃ cs, v = .agg cs else single v = true
/-- The arguments, as the callee finds them: what is handed over bears the parameter's home, all else is read. -/
structure ArgsOK (w : World) (γ : Gh) (args : Array Value) (F : Fun) (xs : Dens (F.ptys ++ F.ctys)) : Prop where
  size : args.size = F.ptys.length + F.ctys.length
  par : ∀ (i : Nat) t l, F.ptys[i]? = some t → (splitRes (F.ptys ++ F.ctys) xs)[i]? = some l → ∃ v, args[i]? = some v ∧ shapeOK v t.isAgg ∧ AtsOK w.heap.size γ w i 0 v.cells (tagZip l (parTags (F.pmv.getD i []) l.length))
  cap : ∀ (i : Nat) l, i < F.ctys.length → (splitRes (F.ptys ++ F.ctys) xs)[F.ptys.length + i]? = some l → ∃ b, args[F.ptys.length + i]? = some (.pointer (some ⟨b, 0, none⟩)) ∧ okPs w.heap.size γ b ∧ b < w.heap.size ∧
    ∀ j x, (tagAll .ps l)[j]? = some x → ∃ y cv t, x = .at cv t ∧ w.cell? ⟨b, j, none⟩ = some y ∧ AtOK w.heap.size γ w 0 0 y cv t

def ResVal (w' : World) (γ' : Gh) (v : Value) (l : List (Bool × List CT)) : Prop :=
  match l with
  | [p] => shapeOK v p.1 ∧ AtsOK 0 γ' w' 0 0 v.cells p.2
  | l => ∃ vs, v = .tuple vs ∧ vs.size = l.length ∧ ∀ i p, l[i]? = some p → ∃ u, vs[i]? = some u ∧ shapeOK u p.1 ∧ AtsOK 0 γ' w' 0 (16 * i) u.cells p.2

structure ResOK (w w' : World) (γ γ' : Gh) (v : Value) (l : List (Bool × List CT)) : Prop where
  size : w.heap.size ≤ w'.heap.size
  lim : ∀ b, w'.heap.size ≤ b → γ' b = .none
  old : ∀ b, b < w.heap.size → oldH γ b → w'.heap[b]? = w.heap[b]? ∧ oldL γ γ' b
  rest : w'.os = w.os ∧ w'.tape = w.tape ∧ w'.output = w.output
  val : ResVal w' γ' v l

structure FOK (P : Program) (f : FuncId) (F : Fun) : Prop where
  tags : resTagsOk F.rtys F.rtags = true
  len : F.rtags.length = F.rtys.length
  entry : ∃ fn, P.funcs[f]? = some fn ∧ fn.body.isNone = false ∧ (fn.name == "runtime.NumGoroutine") = false
  run : ∀ (w : World) (γ : Gh) (args : Array Value) (xs : Dens (F.ptys ++ F.ctys)) (r : Dens F.rtys), (∀ b, w.heap.size ≤ b → γ b = .none) → ArgsOK w γ args F xs → F.f xs = some r →
    Calls P f args w fun e w' => ∃ v γ', e = .returned v ∧ ResOK w w' γ γ' v (resTup F.rtys F.rtags r)

theorem mkArgs_split : ∀ {ts : List Ty} {l : List (List CV)} {x : Dens ts}, mkArgs ts l = some x → splitRes ts x = l := by
  intro ts
  induction ts with
  | nil => intro l x h; cases l <;> cases h; rfl
  | cons t ts ih =>
    intro l x h
    cases ts with
    | nil =>
      match l, h with
      | [c], h =>
        have : pack t c = some x := h
        simp only [splitRes, pack_eq this]
    | cons u r =>
      match l, h with
      | c :: cs, h =>
        simp only [mkArgs] at h
        obtain ⟨a, ha, h⟩ := Option.bind_eq_some_iff.1 h
        obtain ⟨b, hb, h⟩ := Option.bind_eq_some_iff.1 h
        cases h
        simp only [splitRes]
        rw [ih hb, pack_eq ha]
theorem splitRes_length : ∀ {ts : List Ty} (x : Dens ts), (splitRes ts x).length = ts.length := by
  intro ts
  induction ts with
  | nil => intro x; rfl
  | cons t ts ih =>
    intro x
    cases ts with
    | nil => rfl
    | cons u r => obtain ⟨a, b⟩ := x; simp only [splitRes, List.length_cons, ih]
theorem splitRes_get : ∀ {ts : List Ty} (x : Dens ts) (i : Nat) {t : Ty} {l : List CV}, ts[i]? = some t → (splitRes ts x)[i]? = some l → ∃ y : t.den, l = unpack t y := by
  intro ts
  induction ts with
  | nil => intro x i t l h; simp at h
  | cons t ts ih =>
    intro x i t' l h hl
    cases ts with
    | nil =>
      cases i with
      | zero => simp at h; subst h; simp [splitRes] at hl; exact ⟨x, hl.symm⟩
      | succ i => simp at h
    | cons u r =>
      obtain ⟨a, b⟩ := x
      cases i with
      | zero => simp at h; subst h; simp [splitRes] at hl; exact ⟨a, hl.symm⟩
      | succ i => exact ih b i (by simpa using h) (by simpa [splitRes] using hl)

theorem tagZip_get : ∀ (l : List CV) (ts : List Tag) (j : Nat), (tagZip l ts)[j]? = (l[j]?).map fun c => .at c (match ts[j]? with | some t => bif c.isSl then t else .ps | none => .ps) := by
  intro l
  induction l with
  | nil => intro ts j; cases ts <;> simp [tagZip]
  | cons c l ih =>
    intro ts j
    cases ts with
    | nil => cases j with
      | zero => rfl
      | succ j => simp only [tagZip, List.getElem?_cons_succ, ih]; simp
    | cons t ts => cases j with
      | zero => rfl
      | succ j => simp only [tagZip, List.getElem?_cons_succ, ih]
theorem tagZip_len (l : List CV) : ∀ (ts : List Tag), (tagZip l ts).length = l.length := by
  induction l with
  | nil => intro ts; cases ts <;> rfl
  | cons c l ih => intro ts; cases ts <;> simp [tagZip, ih]
theorem resTup_get {ts : List Ty} {tags : List (List Tag)} (_hlen : tags.length = ts.length) {x : Dens ts} {i : Nat} {p : Bool × List CT} (h : (resTup ts tags x)[i]? = some p) :
    ∃ t l tg, ts[i]? = some t ∧ (splitRes ts x)[i]? = some l ∧ tags[i]? = some tg ∧ p = (t.isAgg, tagZip l tg) := by
  unfold resTup at h
  rw [List.getElem?_map] at h
  cases hz : (ts.zip ((splitRes ts x).zip tags))[i]? with
  | none => rw [hz] at h; cases h
  | some q =>
    rw [hz] at h
    cases h
    obtain ⟨t, l, tg⟩ := q
    have := List.getElem?_zip_eq_some.1 hz
    have h2 := List.getElem?_zip_eq_some.1 this.2
    exact ⟨t, l, tg, this.1, h2.1, h2.2, rfl⟩
theorem resTup_len {ts : List Ty} {tags : List (List Tag)} (hlen : tags.length = ts.length) (x : Dens ts) : (resTup ts tags x).length = ts.length := by
  simp only [resTup, List.length_map, List.length_zip, splitRes_length, hlen, Nat.min_self]

theorem resTagsC_get : ∀ {l : List CV} {tags : List Tag}, resTagsC l tags = true → ∀ (j : Nat) (c : CV), l[j]? = some c → c.isSl = true → ∃ t : Tag, tags[j]? = some t ∧ ((∃ d st, t = .own d st) ∨ t = .sh) := by
  intro l
  induction l with
  | nil => intro tags _ j c h; simp at h
  | cons c l ih =>
    intro tags h j c' hj hs
    simp only [resTagsC, Bool.and_eq_true, Bool.or_eq_true, Bool.not_eq_true'] at h
    cases j with
    | zero =>
      simp at hj; subst hj
      rcases h.1 with h1 | h1
      · rw [hs] at h1; cases h1
      · cases tags with
        | nil => cases h1
        | cons t ts => cases t <;> first | exact ⟨_, rfl, .inl ⟨_, _, rfl⟩⟩ | exact ⟨_, rfl, .inr rfl⟩ | cases h1
    | succ j =>
      obtain ⟨t, ht, h2⟩ := ih h.2 j c' (by simpa using hj) hs
      exact ⟨t, by cases tags with | nil => simp at ht | cons _ _ => simpa using ht, h2⟩
theorem unpack_kind (t : Ty) (x y : t.den) {j : Nat} {c : CV} (h : (unpack t x)[j]? = some c) : ∃ c', (unpack t y)[j]? = some c' ∧ c'.isSl = c.isSl := by
  cases t with
  | int k => match j, h with | 0, h => cases h; exact ⟨_, rfl, rfl⟩
  | bool => match j, h with | 0, h => cases h; exact ⟨_, rfl, rfl⟩
  | str => match j, h with | 0, h => cases h; exact ⟨_, rfl, rfl⟩
  | sl u => match j, h with | 0, h => cases h; exact ⟨_, rfl, rfl⟩
  | item => match j, h with | 0, h => cases h; exact ⟨_, rfl, rfl⟩ | 1, h => cases h; exact ⟨_, rfl, rfl⟩ | 2, h => cases h; exact ⟨_, rfl, rfl⟩
  | mat => match j, h with | 0, h => cases h; exact ⟨_, rfl, rfl⟩ | 1, h => cases h; exact ⟨_, rfl, rfl⟩ | 2, h => cases h; exact ⟨_, rfl, rfl⟩
  | vec =>
    match j, h with
    | 0, h => cases h; exact ⟨_, rfl, rfl⟩ | 1, h => cases h; exact ⟨_, rfl, rfl⟩ | 2, h => cases h; exact ⟨_, rfl, rfl⟩ | 3, h => cases h; exact ⟨_, rfl, rfl⟩
    | 4, h => cases h; exact ⟨_, rfl, rfl⟩ | 5, h => cases h; exact ⟨_, rfl, rfl⟩ | 6, h => cases h; exact ⟨_, rfl, rfl⟩ | 7, h => cases h; exact ⟨_, rfl, rfl⟩
theorem resTags_get : ∀ {ts : List Ty} {tags : List (List Tag)}, resTagsOk ts tags = true → ∀ (i : Nat) t tg, ts[i]? = some t → tags[i]? = some tg → resTagsC (unpack t t.zero) tg = true := by
  intro ts
  induction ts with
  | nil => intro tags _ i t tg h; simp at h
  | cons t ts ih =>
    intro tags h i t' tg h1 h2
    simp only [resTagsOk, Bool.and_eq_true] at h
    cases tags with
    | nil => simp at h2
    | cons g gs =>
      cases i with
      | zero => simp at h1 h2; subst h1; subst h2; exact h.1
      | succ i => exact ih h.2 i t' tg (by simpa using h1) (by simpa using h2)
/-- The tag of a result's cell. -/
theorem resTup_tag {ts : List Ty} {tags : List (List Tag)} (hok : resTagsOk ts tags = true) (hlen : tags.length = ts.length) {x : Dens ts} {i : Nat} {p : Bool × List CT} (h : (resTup ts tags x)[i]? = some p) {j : Nat} {cv : CV} {t : Tag} (hj : p.2[j]? = some (.at cv t)) (hs : cv.isSl = true) :
    (∃ d st, t = .own d st) ∨ t = .sh := by
  obtain ⟨ty, l, tg, h1, h2, h3, rfl⟩ := resTup_get hlen h
  obtain ⟨y, rfl⟩ := splitRes_get x i h1 h2
  simp only [tagZip_get] at hj
  cases hc : (unpack ty y)[j]? with
  | none => rw [hc] at hj; cases hj
  | some c =>
    rw [hc, Option.map_some] at hj
    obtain ⟨c', hc', hk⟩ := unpack_kind ty y ty.zero hc
    have e : c = cv := by injection hj with hj; injection hj
    subst e
    obtain ⟨t', ht', h5⟩ := resTagsC_get (resTags_get hok i ty tg h1 h3) j c' hc' (hk.trans hs)
    rw [ht'] at hj
    simp only [hs, cond_true] at hj
    injection hj with hj
    injection hj with _ hj
    subst hj
    exact h5
/-- Nothing is shared: every slice is owned all the way down. -/
theorem shares_get : ∀ {ts : List Ty} {tags : List (List Tag)}, shares ts tags = false → ∀ (i : Nat) t tg, ts[i]? = some t → tags[i]? = some tg → ∀ (j : Nat) (c : CV), (unpack t t.zero)[j]? = some c → c.isSl = true → ∃ st, tg[j]? = some (.own true st) := by
  intro ts
  induction ts with
  | nil => intro tags _ i t tg h; simp at h
  | cons t ts ih =>
    intro tags h i t' tg h1 h2 j c hj hs
    simp only [shares, Bool.or_eq_false_iff] at h
    cases tags with
    | nil => simp at h2
    | cons g gs =>
      cases i with
      | zero =>
        simp at h1 h2; subst h1; subst h2
        have : ∀ (l : List CV) (g : List Tag) (j : Nat), shares.sharesC l g = false → l[j]? = some c → ∃ st, g[j]? = some (.own true st) := by
          intro l
          induction l with
          | nil => intro g j _ h; simp at h
          | cons d l ihl =>
            intro g j h hj
            simp only [shares.sharesC, Bool.or_eq_false_iff, Bool.and_eq_false_iff] at h
            cases j with
            | zero =>
              simp at hj; subst hj
              rcases h.1 with h1 | h1
              · rw [hs] at h1; cases h1
              · cases g with
                | nil => cases h1
                | cons t g =>
                  cases t with
                  | own d st => cases d with
                    | true => exact ⟨st, rfl⟩
                    | false => cases h1
                  | _ => cases h1
            | succ j =>
              obtain ⟨st, h3⟩ := ihl g.tail j h.2 (by simpa using hj)
              exact ⟨st, by cases g with | nil => simp at h3 | cons _ _ => simpa using h3⟩
        exact this _ _ _ h.1 hj
      | succ i => exact ih h.2 i t' tg (by simpa using h1) (by simpa using h2) j c hj hs
theorem resTup_deep {ts : List Ty} {tags : List (List Tag)} (hsh : shares ts tags = false) (hlen : tags.length = ts.length) {x : Dens ts} {i : Nat} {p : Bool × List CT} (h : (resTup ts tags x)[i]? = some p) {j : Nat} {cv : CV} {t : Tag} (hj : p.2[j]? = some (.at cv t)) (hs : cv.isSl = true) :
    ∃ st, t = .own true st := by
  obtain ⟨ty, l, tg, h1, h2, h3, rfl⟩ := resTup_get hlen h
  obtain ⟨y, rfl⟩ := splitRes_get x i h1 h2
  simp only [tagZip_get] at hj
  cases hc : (unpack ty y)[j]? with
  | none => rw [hc] at hj; cases hj
  | some c =>
    rw [hc, Option.map_some] at hj
    obtain ⟨c', hc', hk⟩ := unpack_kind ty y ty.zero hc
    have e : c = cv := by injection hj with hj; injection hj
    subst e
    obtain ⟨st, ht'⟩ := shares_get hsh i ty tg h1 h3 j c' hc' (hk.trans hs)
    rw [ht'] at hj
    simp only [hs, cond_true] at hj
    injection hj with hj
    injection hj with _ hj
    exact ⟨st, hj.symm⟩

end Go.AM

/- call: arguments handed over and lent. -/
namespace Go.AM
section
variable {P : Program} {T : Tab} {w0 : World} {wr : Gh} {nt : Nat} {X : Cx} {st dst : Nat} {o : Oper} {g : List (Nat × Bool)}

/-- A lent cell: what it reads as, and through which homes. -/
def LentC (X : Cx) (lent : List (Nat × Nat)) (y : Value) (cv : CV) : Prop :=
  (cv.isSl = false ∧ Reads X.w y cv) ∨ Rep X.w (okSh X.γ) y cv ∨ ∃ q ∈ lent, ∃ d st', X.s.homeCT q.1 q.2 = some (.at cv (.own d st')) ∧ X.hv q.1 q.2 = some y
def LentH (X : Cx) (lent : List (Nat × Nat)) : Prop := ∀ q ∈ lent, ∃ cv d st', X.s.homeCT q.1 q.2 = some (.at cv (.own d st'))
theorem LentC.mono {lent lent' : List (Nat × Nat)} {y : Value} {cv : CV} (h : LentC X lent y cv) (hm : ∀ q ∈ lent, q ∈ lent') : LentC X lent' y cv := by
  rcases h with h | h | ⟨q, hq, h⟩
  · exact .inl h
  · exact .inr (.inl h)
  · exact .inr (.inr ⟨q, hm q hq, h⟩)

theorem lendC {k : Option Nat} {c : Nat} {y : Value} {x : CT} {cv : CV} (hl : Lies X k c y x) (h : (lendR x).ev X.s = some cv) : LentC X (lentAt k c x) y cv ∧ LentH X (lentAt k c x) := by
  have hnil : LentH X [] := fun q hq => by cases hq
  cases x with
  | «at» v t =>
    cases hs : v.isSl with
    | false =>
      simp only [lendR, hs, cond_false, Rd.ev] at h
      cases h
      have e : lentAt k c (.at cv t) = [] := by cases t <;> simp [lentAt, hs]
      rw [e]
      exact ⟨.inl ⟨hs, lies_plain hl hs⟩, hnil⟩
    | true =>
      simp only [lendR, hs, cond_true] at h
      cases v with
      | sl u xs =>
        cases k with
        | none =>
          obtain ⟨e, e2, e3⟩ := hl
          rw [e] at h ⊢
          cases h
          subst e2; subst e3
          exact ⟨.inr (.inl (.sl u [] none 0 (Nat.le_refl _) (fun _ _ => .tuple #[]) (fun h => absurd h (by simp)) (fun i j c hi => absurd hi (by simp)))), hnil⟩
        | some k =>
          obtain ⟨h1, h2, h3⟩ := hl
          cases t with
          | ps => cases h; exact ⟨.inr (.inl (Rep.mono (fun b _ q => ⟨q.2, rfl⟩) h3)), hnil⟩
          | sh => cases h; exact ⟨.inr (.inl h3), hnil⟩
          | own d s0 =>
            cases h
            refine ⟨.inr (.inr ⟨(k, c), by simp [lentAt, CV.isSl], d, s0, h1, h2⟩), fun q hq => ?_⟩
            simp only [lentAt, CV.isSl, cond_true, List.mem_singleton] at hq
            subst hq
            exact ⟨_, _, _, h1⟩
          | dead => cases h
      | int _ _ => cases hs
      | bool _ => cases hs
      | str _ => cases hs
  | ref h' c' s1 t =>
    obtain ⟨p, hp, h2⟩ := Rd.inv h
    cases h2
    have hh := ev_homeR hp
    cases k with
    | none => exact hl.elim
    | some k =>
      obtain ⟨h1, _⟩ := hl.2.2.2 p.1 p.2 hh
      refine ⟨.inr (.inr ⟨(h', c'), by simp [lentAt], p.2, s1, hh, h1⟩), fun q hq => ?_⟩
      simp only [lentAt, List.mem_singleton] at hq
      subst hq
      exact ⟨_, _, _, hh⟩

/-- A cell of an argument, once all is handed over. -/
def ArgC (X : Cx) (γ : Gh) (N n : Nat) (m : Option Bool) (lent : List (Nat × Nat)) (y : Value) (cv : CV) : Prop :=
  match m with
  | some d => ∃ e s, (d = true → e = true) ∧ AtOK X.B0 γ X.w N n y cv (.own e s)
  | none => LentC X lent y cv

theorem argCells_went {N : Nat} {k : Option Nat} {ys : List Value} (n : Nat) : ∀ (l : List CT) {X1 : Cx} {H : List (Nat × Nat)} (c : Nat) (mv : List (Option Bool)) {a : Args CV}, X1.B0 = X.B0 → X1.w = X.w → Rel w0 wr nt X1 → Link X X1 H → Fresh N X1.s →
    (argCells st k c l mv).ev X.s = some a → (∀ q ∈ a.ps.flatMap Prim.home, q ∉ H) → nodupH (a.ps.flatMap Prim.home) = true → (∀ j x, l[j]? = some x → ∃ y, ys[c + j]? = some y ∧ Lies X k (c + j) y x) →
    ∃ γ', Went w0 wr nt X X1 H N a.ps γ' ∧ a.val.length = l.length ∧ LentH X a.lent ∧ ∀ j cv, a.val[j]? = some cv → ∃ y, ys[c + j]? = some y ∧ ArgC X γ' N (n + (c + j)) (mv.getD j none) a.lent y cv := by
  intro l
  induction l with
  | nil =>
    intro X1 H c mv a _ _ r1 L hN h hH hd hl
    cases h
    exact ⟨X1.γ, Went.nil r1 L hN, rfl, (fun q hq => by cases hq), fun j cv hj => by simp at hj⟩
  | cons x l ih =>
    intro X1 H c mv a eB ew r1 L hN h hH hd hl
    obtain ⟨y, hy, hly⟩ := hl 0 x rfl
    rw [Nat.add_zero] at hy hly
    have hl' : ∀ j x', l[j]? = some x' → ∃ y, ys[c + 1 + j]? = some y ∧ Lies X k (c + 1 + j) y x' := fun j x' hj => by
      have := hl (j + 1) x' (by simpa using hj)
      rwa [show c + (j + 1) = c + 1 + j by omega] at this
    have hmv : ∀ j, mv.getD (j + 1) none = mv.tail.getD j none := fun j => by cases mv <;> simp
    have hm0 : mv.headD none = mv.getD 0 none := by cases mv <;> rfl
    simp only [argCells, hm0] at h
    cases hm : mv.getD 0 none with
    | some d =>
      rw [hm] at h
      obtain ⟨q, hq, h2⟩ := Rd.inv h
      split at h2
      · rename_i v e s hq2
        cases hde : (!d || e) with
        | false => rw [hde] at h2; cases h2
        | true =>
          rw [hde] at h2
          obtain ⟨ar, har, h3⟩ := Rd.inv h2
          cases h3
          rw [List.flatMap_append] at hH hd
          obtain ⟨d1, d2, d3⟩ := homes_append hd
          obtain ⟨γ1, g1, cv, t, e1, e2, e3⟩ := grab_went r1 L hN (n + c) hly (x' := q.2) (ps := q.1) hq (fun z hz => hH z (List.mem_append_left _ hz))
          rw [hq2] at e1
          cases e1
          obtain ⟨γ2, g2, k1, k2, k3⟩ := ih (X1 := { X1 with s := applyAll X1.s q.1, γ := γ1 }) (c + 1) mv.tail eB ew g1.rel g1.link g1.fresh har (fun z hz hm' => by
            rcases List.mem_append.1 hm' with h | h
            · exact d3 z h hz
            · exact hH z (List.mem_append_right _ hz) h) d2 hl'
          refine ⟨γ2, g1.trans g2, by simp [k1], k2, fun j cv hj => ?_⟩
          cases j with
          | zero =>
            simp only [List.getElem?_cons_zero, Option.some.injEq] at hj
            subst hj
            refine ⟨y, hy, ?_⟩
            rw [hm]
            have h5 : AtOK X1.B0 γ2 X1.w N (n + c) y v (.own e s) := g2.at e3
            rw [eB, ew] at h5
            exact ⟨e, s, fun ed => by rw [ed] at hde; simpa using hde, h5⟩
          | succ j =>
            rw [List.getElem?_cons_succ] at hj
            obtain ⟨y', hy', h5⟩ := k3 j cv hj
            rw [show c + 1 + j = c + (j + 1) by omega] at hy' h5
            exact ⟨y', hy', by rw [hmv]; exact h5⟩
      · cases h2
    | none =>
      rw [hm] at h
      obtain ⟨v, hv, h2⟩ := Rd.inv h
      obtain ⟨ar, har, h3⟩ := Rd.inv h2
      cases h3
      obtain ⟨lc, lh⟩ := lendC hly hv
      obtain ⟨γ2, g2, k1, k2, k3⟩ := ih (c + 1) mv.tail eB ew r1 L hN har hH hd hl'
      refine ⟨γ2, g2, by simp [k1], fun q hq => ?_, fun j cv hj => ?_⟩
      · rcases List.mem_append.1 hq with h | h
        · exact lh q h
        · exact k2 q h
      · cases j with
        | zero =>
          simp only [List.getElem?_cons_zero, Option.some.injEq] at hj
          subst hj
          refine ⟨y, hy, ?_⟩
          rw [hm]
          exact lc.mono fun q hq => List.mem_append_left _ hq
        | succ j =>
          rw [List.getElem?_cons_succ] at hj
          obtain ⟨y', hy', h5⟩ := k3 j cv hj
          rw [show c + 1 + j = c + (j + 1) by omega] at hy' h5
          refine ⟨y', hy', ?_⟩
          rw [hmv]
          cases hm2 : mv.tail.getD j none with
          | some d => rw [hm2] at h5; exact h5
          | none => rw [hm2] at h5; exact LentC.mono h5 fun q hq => List.mem_append_right _ hq

theorem ArgC.later {X1 : Cx} {H : List (Nat × Nat)} {N n : Nat} {ps : List Prim} {γ γ' : Gh} (hB : X1.B0 = X.B0) (hw : X1.w = X.w) (hγ : X1.γ = γ) (W : Went w0 wr nt X X1 H N ps γ') {m : Option Bool} {lent lent' : List (Nat × Nat)} {y : Value} {cv : CV} (h : ArgC X γ N n m lent y cv)
    (hm : ∀ q ∈ lent, q ∈ lent') : ArgC X γ' N n m lent' y cv := by
  cases m with
  | none => exact LentC.mono h hm
  | some d =>
    obtain ⟨e, s, h1, h2⟩ := h
    refine ⟨e, s, h1, ?_⟩
    subst hγ
    rw [← hB, ← hw] at h2 ⊢
    exact W.at h2

theorem args_went (r : Rel w0 wr nt X) (hG : GOK X) (hg : Holds X.a g) {N : Nat} : ∀ (args : List Operand) (ts : List Ty) (mv : List (List (Option Bool))) (n : Nat) {X1 : Cx} {H : List (Nat × Nat)} {a : Args (List CV)}, X1.B0 = X.B0 → X1.w = X.w → Rel w0 wr nt X1 → Link X X1 H → Fresh N X1.s →
    (argsR st g args ts mv).ev X.s = some a → (∀ q ∈ a.ps.flatMap Prim.home, q ∉ H) → nodupH (a.ps.flatMap Prim.home) = true →
    ∃ γ', Went w0 wr nt X X1 H N a.ps γ' ∧ args.length = ts.length ∧ a.val.length = ts.length ∧ LentH X a.lent ∧ ∀ (i : Nat) t lv, ts[i]? = some t → a.val[i]? = some lv → ∃ x, args[i]? = some x ∧ shapeOK (X.a.eval x) t.isAgg ∧ (X.a.eval x).cells.size = lv.length ∧ lv.length ≤ 16 ∧
      ∀ j cv, lv[j]? = some cv → ∃ y, (X.a.eval x).cells[j]? = some y ∧ ArgC X γ' N (16 * (n + i) + j) ((mv.getD i []).getD j none) a.lent y cv := by
  intro args
  induction args with
  | nil =>
    intro ts mv n X1 H a _ _ r1 L hN h hH hd
    cases ts with
    | cons t ts => cases h
    | nil => cases h; exact ⟨X1.γ, Went.nil r1 L hN, rfl, rfl, (fun q hq => by cases hq), fun i t lv hi => by simp at hi⟩
  | cons x args ih =>
    intro ts mv n X1 H a eB ew r1 L hN h hH hd
    cases ts with
    | nil => cases h
    | cons t ts =>
      obtain ⟨p, hp, h⟩ := Rd.inv h
      obtain ⟨l, hl, h⟩ := Rd.inv h
      obtain ⟨q, hq, h⟩ := Rd.inv h
      obtain ⟨z, hz, h⟩ := Rd.inv h
      cases h
      have hop := opd_ok r hG hg hp
      obtain ⟨pk, sv⟩ := p
      cases sv with
      | val ag m =>
        simp only [cellsTy] at hl
        cases hag : ag == t.isAgg with
        | false => rw [hag] at hl; cases hl
        | true =>
          rw [hag] at hl
          cases hl
          have e := eq_of_beq hag
          subst e
          obtain ⟨s1, s2, s3, s4⟩ := hop.lies r
          rw [List.flatMap_append] at hH hd
          obtain ⟨d1, d2, d3⟩ := homes_append hd
          obtain ⟨γ1, g1, k1, k2, k3⟩ := argCells_went (ys := (X.a.eval x).cells.toList) (16 * n) l 0 (mv.headD []) eB ew r1 L hN hq (fun s hs => hH s (List.mem_append_left _ hs)) d1 (fun j x' hj => by
            obtain ⟨y, hy, hly⟩ := s4 j x' hj
            exact ⟨y, by rw [Nat.zero_add, Array.getElem?_toList]; exact hy, by rw [Nat.zero_add]; exact hly⟩)
          obtain ⟨γ2, g2, l1, l2, l3, l4⟩ := ih ts mv.tail (n + 1) (X1 := { X1 with s := applyAll X1.s q.ps, γ := γ1 }) eB ew g1.rel g1.link g1.fresh hz (fun s hs hm => by
            rcases List.mem_append.1 hm with h | h
            · exact d3 s h hs
            · exact hH s (List.mem_append_right _ hs) h) d2
          refine ⟨γ2, g1.trans g2, by simp [l1], by simp [l2], fun q' hq' => ?_, fun i t' lv hi hlv => ?_⟩
          · rcases List.mem_append.1 hq' with h | h
            · exact k2 q' h
            · exact l3 q' h
          · cases i with
            | zero =>
              simp only [List.getElem?_cons_zero, Option.some.injEq] at hi hlv
              subst hi; subst hlv
              refine ⟨x, rfl, s1, by rw [s2, k1], by rw [k1]; exact s3, fun j cv hj => ?_⟩
              obtain ⟨y, hy, h5⟩ := k3 j cv hj
              rw [Nat.zero_add] at hy h5
              refine ⟨y, by rw [← Array.getElem?_toList]; exact hy, ?_⟩
              have e0 : mv.headD [] = mv.getD 0 [] := by cases mv <;> rfl
              rw [e0] at h5
              rw [Nat.add_zero]
              exact ArgC.later (X1 := { X1 with s := applyAll X1.s q.ps, γ := γ1 }) eB ew rfl g2 h5 fun q' hq' => List.mem_append_left _ hq'
            | succ i =>
              obtain ⟨x', hx', f1, f2, f3, f4⟩ := l4 i t' lv (by simpa using hi) (by simpa using hlv)
              refine ⟨x', by simpa using hx', f1, f2, f3, fun j cv hj => ?_⟩
              obtain ⟨y, hy, h5⟩ := f4 j cv hj
              refine ⟨y, hy, ?_⟩
              have e0 : mv.tail.getD i [] = mv.getD (i + 1) [] := by cases mv <;> simp
              rw [e0] at h5
              rw [show n + (i + 1) = n + 1 + i by omega]
              cases hm : (mv.getD (i + 1) []).getD j none with
              | some d => rw [hm] at h5; exact h5
              | none => rw [hm] at h5; exact LentC.mono h5 fun q' hq' => List.mem_append_right _ hq'
      | un => cases hl
      | fp => cases hl
      | ep => cases hl
      | es => cases hl
      | tup => cases hl
      | sub => cases hl
      | clo => cases hl

end
end Go.AM

/- call: the state behind it. -/
namespace Go.AM
section
variable {P : Program} {T : Tab} {w0 : World} {wr : Gh} {nt : Nat} {X : Cx} {st dst : Nat} {o : Oper} {g : List (Nat × Bool)}

/-- The caller's owners, as the callee sees them (sh: results may lead to what it is lent). -/
def ownIn (N : Nat) (sh : Bool) : Ow → Ow
  | .none => .none
  | .tp k c => if k = N then .tp (c / 16) (c % 16) else bif sh then .fo else .none
  | .ns k c => if k = N then .ns (c / 16) (c % 16) else .none
  | .bx _ => bif sh then .fo else .none
  | .fo => .fo
/-- .. and behind the call. -/
def dropN (N : Nat) : Ow → Ow
  | .tp k c => if k = N then .none else .tp k c
  | .ns k c => if k = N then .none else .ns k c
  | o => o
def ownOut (N dst : Nat) (o : Ow) : Ow → Ow
  | .tp k c => if k = 0 then .tp dst c else dropN N o
  | .ns k c => if k = 0 then .ns dst c else dropN N o
  | _ => dropN N o

theorem ownIn_sh {N : Nat} {sh : Bool} {γ : Gh} {b : Nat} (h : okSh γ b) : okSh (fun b => ownIn N sh (γ b)) b := by
  rcases h with h | ⟨k, c, h⟩
  · left; simp only [h, ownIn]
  · unfold okSh
    simp only [h, ownIn]
    split
    · exact .inr ⟨_, _, rfl⟩
    · exact .inl rfl

structure Called (X : Cx) (N : Nat) (sh : Bool) (w' : World) (γ' : Gh) : Prop where
  size : X.w.heap.size ≤ w'.heap.size
  lim : ∀ b, w'.heap.size ≤ b → γ' b = .none
  old : ∀ b, b < X.w.heap.size → oldH (fun b => ownIn N sh (X.γ b)) b → w'.heap[b]? = X.w.heap[b]? ∧ oldL (fun b => ownIn N sh (X.γ b)) γ' b
  rest : w'.os = X.w.os ∧ w'.tape = X.w.tape ∧ w'.output = X.w.output

/-- Of blocks that nobody handed over. -/
theorem Called.keep {N : Nat} {sh : Bool} {w' : World} {γ' : Gh} (C : Called X N sh w' γ') {b : Nat} (hb : b < X.w.heap.size) (h1 : ∀ c, X.γ b ≠ .tp N c) (h2 : ∀ c, X.γ b ≠ .ns N c) : w'.heap[b]? = X.w.heap[b]? ∧ ownOut N dst (X.γ b) (γ' b) = X.γ b := by
  have hin : ownIn N sh (X.γ b) = .none ∨ ownIn N sh (X.γ b) = .fo := by
    cases hg : X.γ b with
    | none => exact .inl rfl
    | bx k => cases sh with
      | true => exact .inr rfl
      | false => exact .inl rfl
    | tp k c =>
      have hk : k ≠ N := fun e => h1 c (by rw [hg, e])
      cases sh <;> simp [ownIn, hk]
    | ns k c =>
      have hk : k ≠ N := fun e => h2 c (by rw [hg, e])
      simp [ownIn, hk]
    | fo => exact .inr rfl
  have hd : dropN N (X.γ b) = X.γ b := by
    cases hg : X.γ b with
    | tp k c => simp only [dropN]; rw [if_neg (fun e => h1 c (by rw [hg, e]))]
    | ns k c => simp only [dropN]; rw [if_neg (fun e => h2 c (by rw [hg, e]))]
    | _ => rfl
  obtain ⟨e1, e2⟩ := C.old b hb (by rcases hin with h | h; exact .inr (.inl h); exact .inl h)
  refine ⟨e1, ?_⟩
  have : γ' b = .none ∨ γ' b = .fo := by
    rcases e2 with ⟨_, h⟩ | ⟨h, _, h3⟩
    · exact .inr h
    · rcases hin with h5 | h5
      · exact .inl (h3 h5)
      · rcases h with h | ⟨_, _, h⟩ <;> (dsimp only at h; rw [h5] at h; cases h)
  rcases this with h | h <;> rw [h] <;> exact hd
theorem Called.ns {N : Nat} {sh : Bool} {w' : World} {γ' : Gh} (C : Called X N sh w' γ') {b c : Nat} (hb : b < X.w.heap.size) (h : X.γ b = .ns N c) : w'.heap[b]? = X.w.heap[b]? ∧ okSh (fun b => ownOut N dst (X.γ b) (γ' b)) b := by
  have hin : ownIn N sh (X.γ b) = .ns (c / 16) (c % 16) := by simp only [h, ownIn, if_true]
  obtain ⟨e1, e2⟩ := C.old b hb (.inr (.inr ⟨_, _, hin⟩))
  refine ⟨e1, ?_⟩
  unfold okSh
  rcases e2 with ⟨h5, _⟩ | ⟨_, h6, _⟩
  · dsimp only at h5; rw [hin] at h5; cases h5
  · rcases h6 with h6 | ⟨k, c', h6⟩
    · left; simp only [h6, h, ownOut, dropN, if_true]
    · simp only [h6, h, ownOut, dropN]
      by_cases hk : k = 0
      · right; exact ⟨dst, c', by rw [if_pos hk]⟩
      · left; rw [if_neg hk]; simp
theorem Called.sh {N : Nat} {sh : Bool} {w' : World} {γ' : Gh} (C : Called X N sh w' γ') {b : Nat} (hb : b < X.w.heap.size) (h : okSh X.γ b) : okSh (fun b => ownOut N dst (X.γ b) (γ' b)) b ∧ w'.heap[b]? = X.w.heap[b]? := by
  by_cases hn : ∃ c, X.γ b = .ns N c
  · obtain ⟨c, hn⟩ := hn
    obtain ⟨h1, h2⟩ := C.ns (dst := dst) hb hn
    exact ⟨h2, h1⟩
  · obtain ⟨h1, h2⟩ := C.keep (dst := dst) hb (fun c e => by rcases h with h | ⟨_, _, h⟩ <;> rw [e] at h <;> cases h) (fun c e => hn ⟨c, e⟩)
    refine ⟨?_, h1⟩
    unfold okSh at h ⊢
    simpa only [h2] using h

theorem Called.rel (r : Rel w0 wr nt X) {N : Nat} (hN : Fresh N X.s) {sh : Bool} {w' : World} {γ' : Gh} (C : Called X N sh w' γ') (dst : Nat) : Rel w0 wr nt { X with γ := fun b => ownOut N dst (X.γ b) (γ' b), w := w' } := by
  have hlt : ∀ b, X.γ b ≠ .none → b < X.w.heap.size := fun b hb => by
    rcases Nat.lt_or_ge b X.w.heap.size with h | h
    · exact h
    · exact absurd (r.lim b h) hb
  refine r.frame ⟨fun b hb q => C.sh hb q⟩ C.size (fun k c cv d st' hh => ⟨fun b q => ?_, fun b q => ?_⟩) (fun q l hb => ?_) (fun b hb => ?_) (fun b hb hn => ?_) C.rest
  · have hk : k ≠ N := fun e => hN _ _ _ _ (e ▸ hh)
    obtain ⟨h1, h2⟩ := C.keep (dst := dst) (hlt b (by rw [q]; simp)) (fun c' e => by rw [q] at e; cases e; exact hk rfl) (fun c' e => by rw [q] at e; cases e)
    exact ⟨h2.trans q, h1⟩
  · have hk : k ≠ N := fun e => hN _ _ _ _ (e ▸ hh)
    obtain ⟨h1, h2⟩ := C.keep (dst := dst) (hlt b (by rw [q]; simp)) (fun c' e => by rw [q] at e; cases e) (fun c' e => by rw [q] at e; cases e; exact hk rfl)
    exact ⟨h2.trans q, h1⟩
  · obtain ⟨_, _, _, h2, _⟩ := r.box q l hb
    obtain ⟨e1, e2⟩ := C.keep (dst := dst) (hlt (X.β q) (by rw [h2]; simp)) (fun c' e => by rw [h2] at e; cases e) (fun c' e => by rw [h2] at e; cases e)
    exact ⟨e2.trans h2, e1⟩
  · have h1 : X.γ b = .none := r.lim b (Nat.le_trans C.size hb)
    simp only [C.lim b hb, h1, ownOut, dropN]
  · have hb' : b < X.w.heap.size := Nat.lt_of_lt_of_le hb r.le
    obtain ⟨h1, h2⟩ := r.old b hb hn
    rcases h2 with ⟨h3, h4⟩ | ⟨h3, h4, h5⟩
    · obtain ⟨e1, e2⟩ := C.keep (dst := dst) hb' (fun c' e => by rw [h4] at e; cases e) (fun c' e => by rw [h4] at e; cases e)
      exact ⟨e1.trans h1, .inl ⟨h3, e2.trans h4⟩⟩
    · obtain ⟨e1, e2⟩ := C.sh (dst := dst) hb' h4
      refine ⟨e2.trans h1, .inr ⟨h3, e1, fun e => ?_⟩⟩
      have h6 := h5 e
      obtain ⟨_, e3⟩ := C.keep (dst := dst) hb' (fun c' e => by rw [h6] at e; cases e) (fun c' e => by rw [h6] at e; cases e)
      exact e3.trans h6

theorem OwnS.moveT {w : World} {γ γ' : Gh} {k c k' c' : Nat} {v : Value} {t : Ty} {xs : List t.den} (h : OwnS w γ k c true v t xs)
    (htp : ∀ b, γ b = .tp k c → γ' b = .tp k' c') (hns : ∀ b, γ b = .ns k c → γ' b = .ns k' c') : OwnS w γ' k' c' true v t xs := by
  rcases h with h | ⟨g, cap, arr, E, cs, hv, hg, hh, hsz, hle, hc, Q, h1, h2, h3⟩
  · exact .inl h
  · exact .inr ⟨g, cap, arr, E, cs, hv, htp g hg, hh, hsz, hle, hc, Q, fun i j b q => hns b (h1 i j b q), h2, h3⟩

/-- A result's cell, in the caller's hands. -/
theorem Called.cell (r : Rel w0 wr nt X) {N : Nat} {sh : Bool} {w' : World} {γ' : Gh} (C : Called X N sh w' γ') {n : Nat} {y : Value} {cv : CV} {t : Tag} (h : AtOK 0 γ' w' 0 n y cv t) (ht : cv.isSl = true → (∃ s, t = .own true s) ∨ (sh = true ∧ ((∃ d s, t = .own d s) ∨ t = .sh)))
    {t' : Tag} (htt : (∃ d s s', t = .own d s ∧ t' = .own d s') ∨ t' = t) : AtOK X.B0 (fun b => ownOut N dst (X.γ b) (γ' b)) w' dst n y cv t' := by
  cases cv with
  | int k m => exact h
  | bool b => exact h
  | str s => exact h
  | sl u xs =>
    have tp : ∀ b, γ' b = .tp 0 n → ownOut N dst (X.γ b) (γ' b) = .tp dst n := fun b q => by simp only [q, ownOut, if_true]
    have ns : ∀ b, γ' b = .ns 0 n → ownOut N dst (X.γ b) (γ' b) = .ns dst n := fun b q => by simp only [q, ownOut, if_true]
    have ok : sh = true → ∀ b, b < w'.heap.size → okSh γ' b → okSh (fun b => ownOut N dst (X.γ b) (γ' b)) b := by
      intro hsh b _ q
      subst hsh
      have nofo : γ' b ≠ .fo := by rcases q with q | ⟨_, _, q⟩ <;> rw [q] <;> simp
      have hcaller : okSh (fun b => dropN N (X.γ b)) b := by
        by_cases hb : b < X.w.heap.size
        · by_cases hfo : ownIn N true (X.γ b) = .fo
          · obtain ⟨_, e2⟩ := C.old b hb (.inl hfo)
            rcases e2 with ⟨_, e3⟩ | ⟨e3, _⟩
            · exact absurd e3 nofo
            · rcases e3 with e3 | ⟨_, _, e3⟩ <;> (dsimp only at e3; rw [hfo] at e3; cases e3)
          · unfold okSh
            dsimp only
            cases hg : X.γ b with
            | none => exact .inl rfl
            | bx k => rw [hg] at hfo; exact absurd rfl hfo
            | tp k c =>
              by_cases hk : k = N
              · left; simp only [dropN, if_pos hk]
              · rw [hg] at hfo; exact absurd (by simp [ownIn, hk]) hfo
            | ns k c =>
              by_cases hk : k = N
              · left; simp only [dropN, if_pos hk]
              · right; exact ⟨k, c, by simp only [dropN, if_neg hk]⟩
            | fo => rw [hg] at hfo; exact absurd rfl hfo
        · left; simp only [r.lim b (by omega), dropN]
      unfold okSh at hcaller ⊢
      rcases q with q | ⟨k, c, q⟩
      · simpa only [q, ownOut] using hcaller
      · by_cases hk : k = 0
        · right; exact ⟨dst, c, by simp only [q, ownOut, if_pos hk]⟩
        · simpa only [q, ownOut, if_neg hk] using hcaller
    have own : ∀ d s', t = .own d s' → OwnS w' (fun b => ownOut N dst (X.γ b) (γ' b)) dst n d y u xs := by
      intro d s' e
      subst e
      rcases ht rfl with ⟨s, e⟩ | ⟨hsh, _⟩
      · cases e; exact OwnS.moveT h tp ns
      · exact OwnS.move h (ok hsh) tp ns
    rcases htt with ⟨d, s, s', e1, e2⟩ | e
    · subst e2; exact own d s e1
    · subst e
      rcases ht rfl with ⟨s, e⟩ | ⟨hsh, ⟨d, s, e⟩ | e⟩
      · subst e; exact own true s rfl
      · subst e; exact own d s rfl
      · subst e; exact Rep.mono (fun b hb q => ⟨ok hsh b hb q, rfl⟩) h

/-! ### Lent homes, frozen -/
def lentH : List (Nat × Nat) → List (Nat × Nat)
  | [] => []
  | x :: l => bif l.any fun y => Nat.beq x.1 y.1 && Nat.beq x.2 y.2 then lentH l else x :: lentH l
theorem lentFrz_map (l : List (Nat × Nat)) : lentFrz l = (lentH l).map fun q => .frz q.1 q.2 := by
  induction l with
  | nil => rfl
  | cons x l ih =>
    simp only [lentFrz, lentH]
    cases l.any fun y => Nat.beq x.1 y.1 && Nat.beq x.2 y.2 <;> simp [ih]
theorem any_beq {x : Nat × Nat} {l : List (Nat × Nat)} : (l.any fun y => Nat.beq x.1 y.1 && Nat.beq x.2 y.2) = true ↔ x ∈ l := by
  rw [List.any_eq_true]
  constructor
  · rintro ⟨y, hy, h⟩
    simp only [Bool.and_eq_true] at h
    have : x = y := Prod.ext (Nat.eq_of_beq_eq_true h.1) (Nat.eq_of_beq_eq_true h.2)
    exact this ▸ hy
  · intro h
    exact ⟨x, h, by simp⟩
theorem lentH_mem (l : List (Nat × Nat)) (q : Nat × Nat) : q ∈ lentH l ↔ q ∈ l := by
  induction l with
  | nil => rfl
  | cons x l ih =>
    simp only [lentH]
    cases h : l.any fun y => Nat.beq x.1 y.1 && Nat.beq x.2 y.2 with
    | true =>
      simp only [cond_true, ih, List.mem_cons]
      constructor
      · exact .inr
      · rintro (rfl | h')
        · exact any_beq.1 h
        · exact h'
    | false => simp only [cond_false, List.mem_cons, ih]
theorem lentH_nodup (l : List (Nat × Nat)) : nodupH (lentH l) = true := by
  induction l with
  | nil => rfl
  | cons x l ih =>
    simp only [lentH]
    cases h : l.any fun y => Nat.beq x.1 y.1 && Nat.beq x.2 y.2 with
    | true => exact ih
    | false =>
      simp only [cond_false, nodupH, ih, Bool.and_true, Bool.not_eq_true']
      cases h2 : (lentH l).any fun y => Nat.beq x.1 y.1 && Nat.beq x.2 y.2 with
      | false => rfl
      | true =>
        have := (lentH_mem l x).1 (any_beq.1 h2)
        rw [any_beq.2 this] at h; cases h
theorem lentOk_mem {lent : List (Nat × Nat)} {ps : List Prim} (h : lentOk lent ps = true) {q : Nat × Nat} (hq : q ∈ lent) : q ∉ ps.flatMap Prim.home := by
  intro hm
  have := List.all_eq_true.1 h q hq
  rw [any_beq.2 hm] at this
  cases this

theorem parTags_get : ∀ (mv : List (Option Bool)) (n j : Nat), (parTags mv n)[j]? = if j < n then some (match mv.getD j none with | some d => .own d 0 | none => .ps) else none := by
  intro mv n
  induction n generalizing mv with
  | zero => intro j; cases mv <;> simp [parTags]
  | succ n ih =>
    intro j
    cases mv with
    | nil => cases j with
      | zero => simp [parTags]
      | succ j => simp only [parTags, List.getElem?_cons_succ, ih]; simp
    | cons m mv => cases j with
      | zero => cases m <;> simp [parTags]
      | succ j => simp only [parTags, List.getElem?_cons_succ, ih]; simp

end
end Go.AM

/- call. -/
namespace Go.AM
section
variable {P : Program} {T : Tab} {w0 : World} {wr : Gh} {nt : Nat} {X : Cx} {st dst : Nat} {o : Oper} {g : List (Nat × Bool)}

def restamp (st : Nat) : CT → CT
  | .at c t => .at c (stampT st t)
  | x => x
theorem tagZip_stamp (st : Nat) : ∀ (l : List CV) (ts : List Tag), tagZip l (ts.map (stampT st)) = (tagZip l ts).map (restamp st) := by
  intro l
  induction l with
  | nil => intro ts; cases ts <;> rfl
  | cons c l ih =>
    intro ts
    cases ts with
    | nil => simp only [List.map_nil, tagZip, List.map_cons, restamp, stampT]; congr 1; exact ih []
    | cons t ts => simp only [List.map_cons, tagZip, ih]; cases c.isSl <;> rfl
theorem resVals_tup (st : Nat) (ts : List Ty) (tags : List (List Tag)) (x : Dens ts) : resVals st ts tags x = (resTup ts tags x).map fun p => (p.1, p.2.map (restamp st)) := by
  simp only [resVals, resTup, List.map_map]
  apply List.map_congr_left
  intro p _
  simp only [Function.comp, tagZip_stamp]
theorem resLeaf_fst (ps : List Prim) (l : List (Bool × List CT)) : (resLeaf ps l).1 = ps := by
  unfold resLeaf
  split <;> rfl
theorem resTup_cells {ts : List Ty} {tags : List (List Tag)} (hlen : tags.length = ts.length) {x : Dens ts} {i : Nat} {p : Bool × List CT} (h : (resTup ts tags x)[i]? = some p) : p.2.length ≤ 16 ∧ ∀ y ∈ p.2, ∃ cv t, y = .at cv t := by
  obtain ⟨ty, l, tg, h1, h2, h3, rfl⟩ := resTup_get hlen h
  obtain ⟨y, rfl⟩ := splitRes_get x i h1 h2
  refine ⟨by rw [tagZip_len, unpack_len]; exact size_le ty, fun z hz => ?_⟩
  obtain ⟨j, hj⟩ := List.mem_iff_getElem?.1 hz
  simp only [tagZip_get] at hj
  cases hc : (unpack ty y)[j]? with
  | none => rw [hc] at hj; cases hj
  | some c => rw [hc] at hj; cases hj; exact ⟨_, _, rfl⟩

/-- What closures have captured. -/
theorem lends_ok : ∀ (l : List CT) {lv : List CV}, (lendsR l).ev X.s = some lv → lv.length = l.length ∧ ∀ (j : Nat) cv, lv[j]? = some cv → ∃ x, l[j]? = some x ∧ (lendR x).ev X.s = some cv := by
  intro l
  induction l with
  | nil => intro lv h; cases h; exact ⟨rfl, fun j cv hj => by simp at hj⟩
  | cons x l ih =>
    intro lv h
    obtain ⟨y, hy, h2⟩ := Rd.inv h
    obtain ⟨r, hr, h3⟩ := Rd.inv h2
    cases h3
    obtain ⟨e, f⟩ := ih hr
    refine ⟨by simp [e], fun j cv hj => ?_⟩
    cases j with
    | zero => simp at hj; subst hj; exact ⟨x, rfl, hy⟩
    | succ j => simpa using f j cv (by simpa using hj)
theorem lentCells_mem {k : Option Nat} : ∀ (l : List CT) (c : Nat), (∀ (j : Nat) x, l[j]? = some x → ∀ q ∈ lentAt k (c + j) x, q ∈ lentCells k c l) ∧ ∀ q ∈ lentCells k c l, ∃ j x, l[j]? = some x ∧ q ∈ lentAt k (c + j) x := by
  intro l
  induction l with
  | nil => intro c; exact ⟨fun j x h => by simp at h, fun q hq => by cases hq⟩
  | cons x l ih =>
    intro c
    obtain ⟨i1, i2⟩ := ih (c + 1)
    refine ⟨fun j x' hj q hq => ?_, fun q hq => ?_⟩
    · cases j with
      | zero => simp at hj; subst hj; exact List.mem_append_left _ hq
      | succ j => exact List.mem_append_right _ (i1 j x' (by simpa using hj) q (by rw [show c + 1 + j = c + (j + 1) by omega]; exact hq))
    · rcases List.mem_append.1 hq with h | h
      · exact ⟨0, x, rfl, h⟩
      · obtain ⟨j, x', h1, h2⟩ := i2 q h
        exact ⟨j + 1, x', by simpa using h1, by rw [show c + (j + 1) = c + 1 + j by omega]; exact h2⟩
theorem caps_ok (r : Rel w0 wr nt X) : ∀ (caps : List Nat) {a : Args (List CV)}, (capsR caps).ev X.s = some a → a.val.length = caps.length ∧ LentH X a.lent ∧ ∀ (i : Nat) k lv, caps[i]? = some k → a.val[i]? = some lv → (X.s.box k).isSome ∧
    ∀ j cv, lv[j]? = some cv → ∃ y, X.w.cell? ⟨X.β k, j, none⟩ = some y ∧ LentC X a.lent y cv := by
  intro caps
  induction caps with
  | nil => intro a h; cases h; exact ⟨rfl, (fun q hq => by cases hq), fun i k lv hi => by simp at hi⟩
  | cons k caps ih =>
    intro a h
    simp only [capsR, Rd.ev] at h
    obtain ⟨l, hl, h⟩ := Rd.invO h
    obtain ⟨lv, hlv, h⟩ := Rd.inv h
    obtain ⟨z, hz, h⟩ := Rd.inv h
    cases h
    obtain ⟨k1, k2, k3⟩ := ih hz
    obtain ⟨e1, e2⟩ := lends_ok l hlv
    obtain ⟨m1, m2⟩ := lentCells_mem (k := some k) l 64
    obtain ⟨arr, E, b1, b2, b3, b4⟩ := r.box k l hl
    have lies : ∀ (j : Nat) x, l[j]? = some x → ∃ y, X.w.cell? ⟨X.β k, j, none⟩ = some y ∧ Lies X (some k) (64 + j) y x := by
      intro j x hj
      obtain ⟨y, hy, ho⟩ := b3.2 j x hj
      have hc : X.w.cell? ⟨X.β k, j, none⟩ = some y := (cell_of_cells b1 j).trans hy
      refine ⟨y, hc, by rw [homeCT_box hl]; exact hj, ?_, ho⟩
      unfold Cx.hv
      rw [if_pos (by omega), show 64 + j - 64 = j by omega]
      exact hc
    refine ⟨by simp [k1], fun q hq => ?_, fun i k' lv' hi hlv' => ?_⟩
    · rcases List.mem_append.1 hq with h | h
      · obtain ⟨j, x, h1, h2⟩ := m2 q h
        obtain ⟨y, hy, hly⟩ := lies j x h1
        have hjl := (List.getElem?_eq_some_iff.1 h1).1
        obtain ⟨x', hx', hle⟩ := e2 j _ (List.getElem?_eq_getElem (by omega))
        rw [h1] at hx'; cases hx'
        exact (lendC hly hle).2 q h2
      · exact k2 q h
    · cases i with
      | zero =>
        simp only [List.getElem?_cons_zero, Option.some.injEq] at hi hlv'
        subst hi; subst hlv'
        refine ⟨by rw [hl]; rfl, fun j cv hj => ?_⟩
        obtain ⟨x, hx, hle⟩ := e2 j cv hj
        obtain ⟨y, hy, hly⟩ := lies j x hx
        exact ⟨y, hy, (lendC hly hle).1.mono fun q hq => List.mem_append_left _ (m1 j x hx q hq)⟩
      | succ i =>
        obtain ⟨h1, h2⟩ := k3 i k' lv' (by simpa using hi) (by simpa using hlv')
        refine ⟨h1, fun j cv hj => ?_⟩
        obtain ⟨y, hy, hly⟩ := h2 j cv hj
        exact ⟨y, hy, hly.mono fun q hq => List.mem_append_right _ hq⟩

theorem box_some (ps : List Prim) : ∀ {s : St} {k : Nat}, (s.box k).isSome → ((applyAll s ps).box k).isSome := by
  induction ps with
  | nil => intro s k h; exact h
  | cons p ps ih =>
    intro s k h
    refine ih (s := Prim.apply s p) ?_
    rw [Prim.bx]
    split
    · obtain ⟨l, hl⟩ := Option.isSome_iff_exists.1 h
      rw [hl]
      cases p <;> rfl
    · exact h

theorem run_callee {f : FuncId} {c : Call} {caps : List Nat} (hfn : ∃ fn, P.funcs[f]? = some fn ∧ fn.body.isNone = false ∧ (fn.name == "runtime.NumGoroutine") = false) (ho : o.op = .call c)
    (hcal : (c.callee = .value (.func f) ∧ caps = []) ∨ ∃ t, c.callee = .value (.tmp t) ∧ tmpAt X.a t = .func (.func f) #[] (caps.map fun k => Value.pointer (some ⟨X.β k, 0, none⟩)).toArray) :
    (execOp X.a.eval o).run P X.w = .ok (.enter f (c.args.map X.a.eval ++ (caps.map fun k => Value.pointer (some ⟨X.β k, 0, none⟩)).toArray)) X.w := by
  obtain ⟨fn, h1, h2, h3⟩ := hfn
  have hcf : ∀ args, (callFunc f args).run P X.w = .ok (.enter f args) X.w := by
    intro args
    have hne : fn.name ≠ "runtime.NumGoroutine" := by simpa using h3
    cases hb : fn.body with
    | none => rw [hb] at h2; cases h2
    | some b => simp [callFunc, h1, hb, hne]
  unfold execOp; rw [ho]
  rcases hcal with ⟨hc, rfl⟩ | ⟨t, hc, hv⟩
  · simp [resolve, hc, Act.eval, Deferred.ofValue, invoke, hcf]
  · have hv' : X.a.eval (.tmp t) = .func (.func f) #[] (caps.map fun k => Value.pointer (some ⟨X.β k, 0, none⟩)).toArray := hv
    simp [resolve, hc, hv', Deferred.ofValue, invoke, hcf]

theorem op_call (r : Rel w0 wr nt X) (hG : GOK X) (hg : Holds X.a g) {ρ : Nat → Option Fun} (hρ : ∀ f F, ρ f = some F → FOK P f F) {c : Call} {f : FuncId} {caps : List Nat} (ho : o.op = .call c)
    (hcal : (c.callee = .value (.func f) ∧ caps = []) ∨ ∃ t, c.callee = .value (.tmp t) ∧ tmpAt X.a t = .func (.func f) #[] (caps.map fun k => Value.pointer (some ⟨X.β k, 0, none⟩)).toArray)
    {L : Leaf} {ps : List Prim} {v : SV} (h : (callR ρ st g true f c.args.toList caps).ev X.s = some L) (hL : Gives L ps v) (hd : nodupH (ps.flatMap Prim.home) = true) : OpOK P w0 wr nt X st dst o ps v := by
  obtain ⟨F, hF, h⟩ := Rd.invO h
  obtain ⟨q, hq, h⟩ := Rd.inv h
  obtain ⟨cs, hcs, h⟩ := Rd.inv h
  have K := hρ f F hF
  cases hck : (((callPs F q.ps (q.lent ++ cs.lent)).isEmpty || true) && (Nat.ble F.rtys.length 4 && (lentOk (q.lent ++ cs.lent) q.ps && (caps.isEmpty || !(shares F.rtys F.rtags))))) with
  | false => rw [hck] at h; cases h
  | true =>
  rw [hck] at h
  simp only [cond_true] at h
  simp only [Bool.or_true, Bool.true_and, Bool.and_eq_true, Bool.or_eq_true, Bool.not_eq_true'] at hck
  obtain ⟨hle4, hlok, hcsh⟩ := hck
  obtain ⟨xs, hxs, h⟩ := Rd.invO h
  cases h
  obtain ⟨rv, hrv, rfl, rfl⟩ := hL
  have hrv : F.f xs = some rv := hrv
  rw [resLeaf_fst] at hd ⊢
  have hsplit := mkArgs_split hxs
  generalize hlent : q.lent ++ cs.lent = lent at hd hlok
  generalize hsh : shares F.rtys F.rtags = sh at hcsh
  -- handed over
  have hdq : nodupH (q.ps.flatMap Prim.home) = true := by
    unfold callPs at hd
    rw [hsh] at hd
    cases sh with
    | false => exact hd
    | true => simp only [cond_true, List.flatMap_append] at hd; exact (homes_append hd).1
  obtain ⟨N, hN⟩ := fresh_ex X.s
  obtain ⟨γW, W, n1, n2, n3, n4⟩ := args_went r hG hg c.args.toList F.ptys F.pmv 0 rfl rfl r (Link.refl X) hN hq (fun s _ hs => by cases hs) hdq
  obtain ⟨m1, m2, m3⟩ := caps_ok r caps hcs
  have hLH : LentH X lent := by
    intro z hz
    rw [← hlent] at hz
    rcases List.mem_append.1 hz with h | h
    · exact n3 z h
    · exact m2 z h
  have homeW : ∀ z ∈ lent, St.homeCT (applyAll X.s q.ps) z.1 z.2 = X.s.homeCT z.1 z.2 := fun z hz => W.link.home z.1 z.2 (by rw [List.append_nil]; exact lentOk_mem hlok hz)
  have lentN : ∀ z ∈ lent, z.1 ≠ N := fun z hz e => by obtain ⟨cv, d, s, hh⟩ := hLH z hz; rw [e] at hh; exact hN _ _ _ _ hh
  -- frozen, where results may lead to it
  obtain ⟨γF, relF, freshF, okFW, trF, lentF, noputF⟩ : ∃ γF, Rel w0 wr nt (After X γF X.β (callPs F q.ps lent) X.w) ∧ Fresh N (applyAll X.s (callPs F q.ps lent)) ∧ (∀ b, b < X.w.heap.size → okSh γW b → okSh γF b) ∧ (∀ m, StaysAt γW γF X.w X.w N m) ∧
      (∀ y u zs, LentC X lent y (.sl u zs) → Rep X.w (fun b => okSh γF b ∨ (sh = false ∧ ∃ k c, k ≠ N ∧ γF b = .tp k c)) y (.sl u zs)) ∧ ∀ p ∈ callPs F q.ps lent, noPut p = true := by
    cases sh with
    | false =>
      have e : callPs F q.ps lent = q.ps := by unfold callPs; rw [hsh]; rfl
      rw [e]
      refine ⟨γW, W.rel, W.fresh, (fun b _ q => q), fun m => ⟨fun b q => ⟨q, rfl⟩, fun b q => ⟨q, rfl⟩⟩, fun y u zs hl => ?_, W.noput⟩
      rcases hl with ⟨h1, _⟩ | h1 | ⟨z, hz, d, s, h1, h2⟩
      · cases h1
      · exact h1.mono fun b hb q => ⟨.inl (W.sh b hb q), rfl⟩
      · have hz1 := homeW z hz
        rw [h1] at hz1
        obtain ⟨y', hy', hat⟩ := W.rel.home hz1
        have e2 : Cx.hv ⟨X.B0, γW, X.β, applyAll X.s q.ps, X.a, X.w⟩ z.1 z.2 = X.hv z.1 z.2 := rfl
        have hy2 : X.hv z.1 z.2 = some y' := e2 ▸ hy'
        rw [h2] at hy2; cases hy2
        refine (OwnS.rep hat).mono fun b _ q => ⟨?_, rfl⟩
        rcases q with q | q
        · exact .inr ⟨rfl, z.1, z.2, lentN z hz, q⟩
        · exact .inl q
    | true =>
      have e : callPs F q.ps lent = q.ps ++ (lentH lent).map fun q => .frz q.1 q.2 := by unfold callPs; rw [hsh, lentFrz_map]; rfl
      rw [e, applyAll_append]
      obtain ⟨γ', f1, f2, f3, f4, f5, f6⟩ := Rel.frzs (lentH lent) W.rel (lentH_nodup lent) (fun z hz => by
        have hz' := (lentH_mem lent z).1 hz
        obtain ⟨cv, d, s, hh⟩ := hLH z hz'
        exact ⟨cv, d, s, (homeW z hz').trans hh⟩)
      have hNn : ∀ m, (N, m) ∉ lentH lent := fun m hm => lentN _ ((lentH_mem lent _).1 hm) rfl
      refine ⟨γ', ?_, fun c cv d s hh => ?_, fun b hb q => f2 b hb q, fun m => f6 N m (hNn m), fun y u zs hl => ?_, fun p hp => ?_⟩
      · show Rel w0 wr nt ⟨X.B0, γ', X.β, applyAll X.s (q.ps ++ _), X.a, X.w⟩
        rw [applyAll_append]; exact f1
      · rw [f4 N c (hNn c)] at hh; exact W.fresh _ _ _ _ hh
      · rcases hl with ⟨h1, _⟩ | h1 | ⟨z, hz, d, s, h1, h2⟩
        · cases h1
        · exact h1.mono fun b hb q => ⟨.inl (f2 b hb (W.sh b hb q)), rfl⟩
        · have hz1 := homeW z hz
          rw [h1] at hz1
          have := f3 z ((lentH_mem lent z).2 hz) _ _ _ y hz1 h2
          exact Rep.mono (fun b _ q => ⟨.inl q, rfl⟩) this
      · rcases List.mem_append.1 hp with h | h
        · exact W.noput p h
        · obtain ⟨z, _, rfl⟩ := List.mem_map.1 h; rfl
  -- what the callee finds
  let γ0 : Gh := fun b => ownIn N sh (γF b)
  have hltF : ∀ b, γF b ≠ .none → b < X.w.heap.size := fun b hb => by
    rcases Nat.lt_or_ge b X.w.heap.size with h | h
    · exact h
    · exact absurd (relF.lim b h) hb
  have rdPs : ∀ y u zs, LentC X lent y (.sl u zs) → Rep X.w (okPs X.w.heap.size γ0) y (.sl u zs) := by
    intro y u zs hl
    refine (lentF y u zs hl).mono fun b hb q => ⟨⟨hb, ?_⟩, rfl⟩
    rcases q with q | ⟨hs, k, c, hk, q⟩
    · exact ownIn_sh q
    · left; simp only [γ0, q, ownIn, if_neg hk, hs, cond_false]
  have lentAtOK : ∀ y cv k n, LentC X lent y cv → AtOK X.w.heap.size γ0 X.w k n y cv .ps := by
    intro y cv k n hl
    cases cv with
    | sl u zs => exact rdPs y u zs hl
    | int a b => rcases hl with ⟨_, h⟩ | h | ⟨z, hz, d, s, h1, h2⟩
                 · exact h.int
                 · exact h.weaken.int
                 · obtain ⟨y', hy', hat⟩ := r.home h1; rw [h2] at hy'; cases hy'; exact hat
    | bool b => rcases hl with ⟨_, h⟩ | h | ⟨z, hz, d, s, h1, h2⟩
                · exact h.bool
                · exact h.weaken.bool
                · obtain ⟨y', hy', hat⟩ := r.home h1; rw [h2] at hy'; cases hy'; exact hat
    | str s => rcases hl with ⟨_, h⟩ | h | ⟨z, hz, d, s, h1, h2⟩
               · exact h.str
               · exact h.weaken.str
               · obtain ⟨y', hy', hat⟩ := r.home h1; rw [h2] at hy'; cases hy'; exact hat
  have hptl : F.ptys.length = c.args.toList.length := n1.symm
  have hctl : F.ctys.length = caps.length := by
    have h1 := splitRes_length (ts := F.ptys ++ F.ctys) xs
    rw [hsplit, List.length_append, List.length_append, n2, m1] at h1
    omega
  have hA : ArgsOK X.w γ0 (c.args.map X.a.eval ++ (caps.map fun k => Value.pointer (some ⟨X.β k, 0, none⟩)).toArray) F xs := by
    refine ⟨by simp [hptl, hctl], fun i t l hi hl => ?_, fun i l hi hl => ?_⟩
    · have hil : i < F.ptys.length := (List.getElem?_eq_some_iff.1 hi).1
      rw [hsplit, List.getElem?_append_left (by rw [n2]; exact hil)] at hl
      obtain ⟨x, hx, s1, s2, s3, s4⟩ := n4 i t l hi hl
      refine ⟨X.a.eval x, ?_, s1, by rw [tagZip_len]; exact s2, fun j z hj => ?_⟩
      · have hsz : i < (c.args.map X.a.eval).size := by rw [Array.size_map, ← Array.length_toList, ← hptl]; exact hil
        rw [Array.getElem?_append_left hsz, Array.getElem?_map, ← Array.getElem?_toList, hx]; rfl
      · rw [tagZip_get, parTags_get] at hj
        cases hc : l[j]? with
        | none => rw [hc] at hj; cases hj
        | some cv =>
          rw [hc, Option.map_some] at hj
          have hjl := (List.getElem?_eq_some_iff.1 hc).1
          rw [if_pos hjl] at hj
          obtain ⟨y, hy, hac⟩ := s4 j cv hc
          rw [Nat.zero_add] at hac
          refine ⟨y, cv, _, by injection hj with hj; exact hj.symm, hy, ?_⟩
          cases hm : (F.pmv.getD i []).getD j none with
          | none =>
            rw [hm] at hac
            have hl2 : LentC X lent y cv := LentC.mono hac fun z hz => by rw [← hlent]; exact List.mem_append_left _ hz
            have := lentAtOK y cv i (0 + j) hl2
            cases hs : cv.isSl <;> exact this
          | some d =>
            rw [hm] at hac
            obtain ⟨e, s, he, hat⟩ := hac
            cases cv with
            | int a b => exact hat
            | bool b => exact hat
            | str b => exact hat
            | sl u zs =>
              have hd1 : (16 * i + j) / 16 = i := by omega
              have hd2 : (16 * i + j) % 16 = j := by omega
              have hown : OwnS X.w γ0 i (0 + j) e y u zs := by
                rw [Nat.zero_add]
                have hF : OwnS X.w γF N (16 * i + j) e y u zs := OwnS.mono hat ⟨fun b hb q => ?_⟩ (trF _)
                · refine OwnS.move hF (fun b _ q => ownIn_sh q) (fun b q => ?_) (fun b q => ?_)
                  · simp only [γ0, q, ownIn, if_true, hd1, hd2]
                  · simp only [γ0, q, ownIn, if_true, hd1, hd2]
                · exact ⟨okFW b hb q, rfl⟩
              cases d with
              | true => rw [he rfl] at hown; exact hown
              | false => exact hown.weaken
    · rw [hsplit, List.getElem?_append_right (by rw [n2]; omega), n2, show F.ptys.length + i - F.ptys.length = i by omega] at hl
      obtain ⟨k, hk⟩ : ∃ k, caps[i]? = some k := ⟨_, List.getElem?_eq_getElem (by omega)⟩
      obtain ⟨e1, e2⟩ := m3 i k l hk hl
      obtain ⟨bl, hbl⟩ := Option.isSome_iff_exists.1 e1
      have hshf : sh = false := by
        rcases hcsh with h | h
        · rw [List.isEmpty_iff] at h; subst h; simp at hk
        · exact h
      obtain ⟨arr, E, b1, b2, b3, b4⟩ := r.box k bl hbl
      have hb5 : X.β k < X.w.heap.size := (Array.getElem?_eq_some_iff.1 b1).1
      refine ⟨X.β k, ?_, ⟨hb5, ?_⟩, hb5, fun j x hj => ?_⟩
      · rw [Array.getElem?_append_right (by simp [hptl]), Array.size_map, ← Array.length_toList, ← hptl, show F.ptys.length + i - F.ptys.length = i by omega]
        simp [hk]
      · obtain ⟨bl2, hbl2⟩ := Option.isSome_iff_exists.1 (box_some (callPs F q.ps lent) e1)
        obtain ⟨_, _, _, b6, _⟩ := relF.box k bl2 hbl2
        have b6' : γF (X.β k) = .bx k := b6
        left; simp only [γ0, b6', ownIn, hshf, cond_false]
      · rw [tagAll_get] at hj
        cases hc : l[j]? with
        | none => rw [hc] at hj; cases hj
        | some cv =>
          rw [hc] at hj
          cases hj
          obtain ⟨y, hy, hly⟩ := e2 j cv hc
          have hl2 : LentC X lent y cv := hly.mono fun z hz => by rw [← hlent]; exact List.mem_append_right _ hz
          have := lentAtOK y cv 0 0 hl2
          exact ⟨y, cv, _, rfl, hy, by cases hs : cv.isSl <;> exact this⟩
  -- the call
  have hrun := run_callee (X := X) K.entry ho hcal
  have hlen := K.len
  refine ⟨?_, noputF, fun KK Q hK => ?_⟩
  · -- the value is new
    dsimp only
    refine .inr ⟨fun h' c' s1 hr => ?_, fun c1 cv dd s1 hc => ?_⟩
    · rw [resVals_tup] at hr
      have hcell : ∀ p ∈ (resTup F.rtys F.rtags rv).map fun p => (p.1, p.2.map (restamp st)), ∀ t, CT.ref h' c' s1 t ∉ p.2 := by
        intro p hp t hm
        obtain ⟨p0, hp0, rfl⟩ := List.mem_map.1 hp
        obtain ⟨i, hi⟩ := List.mem_iff_getElem?.1 hp0
        obtain ⟨z, hz, e⟩ := List.mem_map.1 hm
        obtain ⟨cv, t', rfl⟩ := (resTup_cells hlen hi).2 z hz
        cases e
      unfold resLeaf at hr
      split at hr
      · rename_i p hp
        rcases hr with ⟨a', l', t, e, hin⟩ | ⟨t, i, o, e⟩ | ⟨t, lo, hi, e⟩ | ⟨l', p', t, e, _, _⟩
        · cases e; exact hcell p (by rw [hp]; exact List.mem_singleton.2 rfl) t hin
        · cases e
        · cases e
        · cases e
      · rcases hr with ⟨a', l', t, e, hin⟩ | ⟨t, i, o, e⟩ | ⟨t, lo, hi, e⟩ | ⟨l', p', t, e, h1, h2⟩
        · cases e
        · cases e
        · cases e
        · cases e; exact hcell p' h1 t h2
    · rw [resVals_tup] at hc
      have hcell : ∀ p ∈ (resTup F.rtys F.rtags rv).map fun p => (p.1, p.2.map (restamp st)), CT.at cv (.own dd s1) ∈ p.2 → s1 = st := by
        intro p hp hm
        obtain ⟨p0, hp0, rfl⟩ := List.mem_map.1 hp
        obtain ⟨i, hi⟩ := List.mem_iff_getElem?.1 hp0
        obtain ⟨z, hz, e⟩ := List.mem_map.1 hm
        obtain ⟨cv', t', rfl⟩ := (resTup_cells hlen hi).2 z hz
        simp only [restamp, CT.at.injEq] at e
        cases t' <;> simp only [stampT, Tag.own.injEq, reduceCtorEq, and_false] at e
        exact e.2.2.symm
      unfold resLeaf at hc
      split at hc
      · rename_i p hp
        exact hcell p (by rw [hp]; exact List.mem_singleton.2 rfl) (List.mem_of_getElem? hc)
      · simp only [cellSV] at hc
        rename_i l hl
        cases hp : ((resTup F.rtys F.rtags rv).map fun p => (p.1, p.2.map (restamp st)))[c1 / 16]? with
        | none => rw [hp] at hc; cases hc
        | some p => rw [hp] at hc; exact hcell p (List.mem_of_getElem? hp) (List.mem_of_getElem? hc)
  · unfold Oper.wp
    rw [hrun]
    refine Calls.mono (K.run X.w γ0 _ xs rv (fun b hb => by have h5 : γF b = .none := relF.lim b hb; simp only [γ0, h5, ownIn]) hA hrv) fun e w' hR => ?_
    obtain ⟨val, γ', rfl, R⟩ := hR
    have C : Called (After X γF X.β (callPs F q.ps lent) X.w) N sh w' γ' := ⟨R.size, R.lim, R.old, R.rest⟩
    refine hK (fun b => ownOut N dst (γF b) (γ' b)) X.β w' val (C.rel relF freshF dst) ?_
    -- the value
    have comp : ∀ (i : Nat) (p : Bool × List CT), (resTup F.rtys F.rtags rv)[i]? = some p → ∀ u c', AtsOK 0 γ' w' 0 c' u.cells p.2 → shapeOK u p.1 →
        ValOK (After X (fun b => ownOut N dst (γF b) (γ' b)) X.β (callPs F q.ps lent) w') dst c' u p.1 (p.2.map (restamp st)) := by
      intro i p hp u c' hat hs
      refine ⟨hs, ⟨by rw [List.length_map]; exact hat.1, fun j x hj => ?_⟩, by rw [List.length_map]; exact (resTup_cells hlen hp).1⟩
      rw [List.getElem?_map] at hj
      cases hx : p.2[j]? with
      | none => rw [hx] at hj; cases hj
      | some x0 =>
        rw [hx] at hj
        cases hj
        obtain ⟨y, cv, t, rfl, hy, ho'⟩ := hat.2 j x0 hx
        refine ⟨y, hy, ?_⟩
        show AtOK X.B0 (fun b => ownOut N dst (γF b) (γ' b)) w' dst (c' + j) y cv (stampT st t)
        refine C.cell relF ho' (fun hsl => ?_) ?_
        · cases hshh : sh with
          | true => exact .inr ⟨rfl, resTup_tag K.tags hlen hp hx hsl⟩
          | false =>
            rw [hshh] at hsh
            exact .inl (resTup_deep hsh hlen hp hx hsl)
        · cases t with
          | own d s => exact .inl ⟨d, s, st, rfl, rfl⟩
          | _ => exact .inr rfl
    have hval := R.val
    dsimp only
    rw [resVals_tup]
    have hl4 : (resTup F.rtys F.rtags rv).length ≤ 4 := by rw [resTup_len hlen]; exact Nat.le_of_ble_eq_true hle4
    unfold ResVal at hval
    split at hval
    · rename_i p hp
      rw [hp]
      exact comp 0 p (by rw [hp]; rfl) val 0 hval.2 hval.1
    · rename_i hne
      obtain ⟨vs, e, hsz, hvs⟩ := hval
      have : ∀ l : List (Bool × List CT), (∀ p, l ≠ [p]) → (resLeaf (callPs F q.ps lent) (l.map fun p => (p.1, p.2.map (restamp st)))).2 = .tup (l.map fun p => (p.1, p.2.map (restamp st))) := by
        intro l hl
        match l, hl with
        | [], _ => rfl
        | [p], hl => exact absurd rfl (hl p)
        | p :: q :: l, _ => rfl
      rw [this _ (fun p hp => hne p hp)]
      refine ⟨vs, e, by rw [List.length_map]; exact hsz, by rw [List.length_map]; exact hl4, fun i p hp => ?_⟩
      rw [List.getElem?_map] at hp
      cases hp0 : (resTup F.rtys F.rtags rv)[i]? with
      | none => rw [hp0] at hp; cases hp
      | some p0 =>
        rw [hp0] at hp
        cases hp
        obtain ⟨u, hu, hs, hat⟩ := hvs i p0 hp0
        exact ⟨u, hu, comp i p0 hp0 u (16 * i) hat hs⟩

end
end Go.AM

/- copy, makeFunc. -/
namespace Go.AM
section
variable {P : Program} {T : Tab} {w0 : World} {wr : Gh} {nt : Nat} {X : Cx} {st dst : Nat} {o : Oper} {g : List (Nat × Bool)}

theorem capOp_ok (r : Rel w0 wr nt X) (hG : GOK X) (hg : Holds X.a g) : ∀ (xs : List Operand) {l : List Nat}, (capOpR g xs).ev X.s = some l → xs.map X.a.eval = l.map (fun k => Value.pointer (some ⟨X.β k, 0, none⟩)) ∧ ∀ k ∈ l, (X.s.box k).isSome := by
  intro xs
  induction xs with
  | nil => intro l h; cases h; exact ⟨rfl, fun k hk => by cases hk⟩
  | cons x xs ih =>
    intro l h
    cases x with
    | tmp t =>
      simp only [capOpR, Rd.ev] at h
      split at h
      · rename_i h' c hv
        cases hc : (X.s.ent t).g.all (fun p => g.elem p) && (Nat.beq h' t && Nat.beq c 0) with
        | false => rw [hc] at h; cases h
        | true =>
          rw [hc] at h
          simp only [Bool.and_eq_true] at hc
          obtain ⟨h1, h2, h3⟩ := hc
          have e2 := Nat.eq_of_beq_eq_true h2
          have e3 := Nat.eq_of_beq_eq_true h3
          subst e2; subst e3
          obtain ⟨r', hr', h⟩ := Rd.inv h
          cases h
          obtain ⟨i1, i2⟩ := ih hr'
          have hs := (r.ent h').1 (all_holds hG hg h1)
          rw [hv] at hs
          refine ⟨by rw [List.map_cons, List.map_cons, i1, ← hs.1]; rfl, fun k hk => ?_⟩
          rcases List.mem_cons.1 hk with rfl | hk
          · exact hs.2
          · exact i2 k hk
      · cases h
    | const v => cases h
    | global q => cases h
    | func f => cases h

theorem op_makeFunc (r : Rel w0 wr nt X) (hG : GOK X) (hg : Holds X.a g) {f : FuncId} {first caps : Array Operand} (ho : o.op = .makeFunc (.func f) first caps) {L : Leaf} {ps : List Prim} {v : SV}
    (h : (bif first.isEmpty then (capOpR g caps.toList).bind fun l => .ret (Leaf.pure [] (.clo f l)) else Rd.fail).ev X.s = some L) (hL : Gives L ps v) : OpOK P w0 wr nt X st dst o ps v := by
  cases hf : first.isEmpty with
  | false => rw [hf] at h; cases h
  | true =>
    rw [hf] at h
    obtain ⟨l, hl, h⟩ := Rd.inv h
    cases h
    obtain ⟨rfl, rfl⟩ := hL
    obtain ⟨h1, h2⟩ := capOp_ok r hG hg _ hl
    have hfe : first = #[] := by simpa using hf
    refine OpOK.pure r (.inl fun c cv dd st' hc => by cases hc) ?_ ⟨rfl, h2⟩
    unfold execOp; rw [ho]
    have : caps.map X.a.eval = (l.map fun k => Value.pointer (some ⟨X.β k, 0, none⟩)).toArray := by
      apply Array.toList_inj.1
      rw [Array.toList_map, h1]
    simp [Instr.makeFunc, hfe, this]

theorem copyInto_len {α : Type} {xs ys : List α} {lo : Nat} (h : lo + ys.length ≤ xs.length) : (copyInto xs ys lo).length = xs.length := by
  simp only [copyInto, List.length_append, List.length_take, List.length_drop]; omega
theorem copyInto_getD {α : Type} {xs ys : List α} {lo : Nat} (h : lo + ys.length ≤ xs.length) (i : Nat) (d : α) : (copyInto xs ys lo).getD i d = if lo ≤ i ∧ i < lo + ys.length then ys.getD (i - lo) d else xs.getD i d := by
  simp only [List.getD_eq_getElem?_getD, copyInto]
  rw [splice_get h]
  split <;> rfl

/-- A part of an owned slice of plain elements. -/
theorem sub_cells (r : Rel w0 wr nt X) {k : Nat} {v : Value} {h c s1 : Nat} {u : Ty} {lo hi : Int} {cv : CV} {d : Bool} {xs : List u.den} (hs : SVOK X k v (.sub h c s1 u lo hi)) (hh : X.s.homeCT h c = some (.at cv (.own d s1))) (hx : cv.asSl u = some xs) :
    0 ≤ lo ∧ lo ≤ hi ∧ hi ≤ xs.length ∧ ((v = .slice none 0 0 ∧ xs = [] ∧ X.hv h c = some (.slice none 0 0)) ∨ ∃ gb cap arr E cs, X.hv h c = some (.slice (some ⟨gb, 0, none⟩) xs.length cap) ∧ v = .slice (some (if cap = lo.toNat then ⟨gb, 0, none⟩ else ⟨gb, lo.toNat * u.size, none⟩)) (hi - lo).toNat (cap - lo.toNat) ∧
      X.γ gb = .tp h c ∧ X.w.heap[gb]? = some (.cells arr E (0, 0)) ∧ arr.size = cap * u.size ∧ xs.length ≤ cap ∧ (∀ i j, i < xs.length → j < u.size → arr[i * u.size + j]? = some (cs i j)) ∧ Under X.w X.γ h c d u xs cs) := by
  obtain ⟨xs', e1, h0, h1, h2, h3⟩ := hs cv d hh
  have e2 := asSl_eq hx
  rw [e2] at e1
  cases e1
  refine ⟨h0, h1, h2, ?_⟩
  obtain ⟨v0, hv0, hat⟩ := r.home hh
  rw [e2] at hat
  rcases h3 with ⟨h3, h4⟩ | ⟨gb, n, cap, h3, rfl, h4⟩
  · rw [h3] at hv0; cases hv0
    rcases hat with ⟨_, e⟩ | ⟨gb, cap, arr, E, cs, e, _⟩
    · exact .inl ⟨h4, e, h3⟩
    · cases e
  · rw [h3] at hv0; cases hv0
    rcases hat with ⟨e, _⟩ | ⟨gb', cap', arr, E, cs, e, a1, a2, a3, a4, a5, a6⟩
    · cases e
    · cases e
      exact .inr ⟨gb, cap, arr, E, cs, h3, by rw [h4]; split <;> simp [Addr.add_lit], a1, a2, a3, a4, a5, a6⟩

theorem run_copyV (hT : TabOK P T) {ti ti2 ty : TypeId} {u : Ty} (ht : T.ty ti = some (.sl u)) {w : World} {A : Option Addr} {n cap : Nat} {B : Option Addr} {m cap2 : Nat} {news : List Value} (hl : news.length = (Nat.min m n) * u.size)
    (hB : B = none → m = 0) (hnews : ∀ b, B = some b → ∀ j y, news[j]? = some y → w.cell? (b.add j) = some y) (h1 : ∀ y ∈ news, y.oneCell' = true)
    (hA : A = none ∧ n = 0 ∨ ∃ gb off cur E, A = some ⟨gb, off, none⟩ ∧ w.heap[gb]? = some (.cells cur E (0, 0)) ∧ off + news.length ≤ cur.size) :
    ∃ w', (Builtin.copy_ #[ti, ti2] ty #[.slice A n cap, .slice B m cap2]).run P w = .ok (.int .i64 (Nat.min m n)) w' ∧ ((A = none ∧ w' = w) ∨ ∃ gb off cur E, A = some ⟨gb, off, none⟩ ∧ w.heap[gb]? = some (.cells cur E (0, 0)) ∧ w' = w.setRow gb (cur.toList.take off ++ news ++ cur.toList.drop (off + news.length)).toArray) := by
  obtain ⟨e, he, hte⟩ := (hT ti _ ht).sl u rfl
  obtain ⟨inf, hi, hz, _⟩ := (hT e u hte).info
  have hf : (Builtin.firstCells u.size (Nat.min m n) (.slice B m cap2)).run P w = .ok news.toArray w := by
    cases B with
    | none =>
      have := hB rfl
      subst this
      have : news = [] := List.eq_nil_of_length_eq_zero (by rw [hl]; simp)
      subst this
      exact run_firstCells_none w _ _ _ _
    | some b => exact run_firstCells_some w u.size _ b m cap2 news hl (hnews b rfl)
  have hf' : (Builtin.firstCells inf.size (Nat.min m n) (.slice B m cap2)).run P w = .ok news.toArray w := by rw [hz]; exact hf
  have hf2 : (Builtin.firstCells inf.size (min m n) (.slice B m cap2)).run P w = .ok news.toArray w := hf'
  rcases hA with ⟨rfl, rfl⟩ | ⟨gb, off, cur, E, rfl, hg, hfit⟩
  · refine ⟨w, ?_, .inl ⟨rfl, rfl⟩⟩
    have hf3 : (Builtin.firstCells inf.size 0 (.slice B m cap2)).run P w = .ok news.toArray w := by rw [Nat.min_zero] at hf2; exact hf2
    simp [Builtin.copy_, run_underlying he, Builtin.lenOf, sizeOf, typeInfo, hi, hf3, goInt]
  · have hst := run_storeCells_at P gb off E news 0 cur w hg (by simpa using hfit) h1
    simp only [Nat.add_zero] at hst
    refine ⟨_, ?_, .inr ⟨gb, off, cur, E, rfl, hg, rfl⟩⟩
    simp [Builtin.copy_, run_underlying he, Builtin.lenOf, sizeOf, typeInfo, hi, hf2, hst, goInt]

theorem op_copy (r : Rel w0 wr nt X) (hG : GOK X) (hg : Holds X.a g) (hT : TabOK P T) {c : Call} {x y : Operand} (ho : o.op = .call c) (hcal : c.callee = .builtin .copy) (hargs : c.args.toList = [x, y]) {ti ti2 : TypeId} (htys : c.argTypes.toList = [ti, ti2]) {u : Ty} (ht : T.ty ti = some (.sl u))
    {L : Leaf} {ps : List Prim} {v : SV} (h : ((opd st Option.none g x).bind fun p => (opd st Option.none g y).bind fun q => copyR u p.2 q.2).ev X.s = some L) (hL : Gives L ps v) : OpOK P w0 wr nt X st dst o ps v := by
  have hargs' : c.args = #[x, y] := by rw [← Array.toList_inj, hargs]
  have htys' : c.argTypes = #[ti, ti2] := by rw [← Array.toList_inj, htys]
  obtain ⟨p, hp, h⟩ := Rd.inv h
  obtain ⟨q, hq, hm⟩ := Rd.inv h
  have hop := opd_ok r hG hg hp
  have hoq := opd_ok r hG hg hq
  obtain ⟨pk, pv⟩ := p
  obtain ⟨qk, qv⟩ := q
  unfold copyR at hm
  split at hm
  · rename_i h1 c1 s1 u1 l1 e1 h2 c2 s2 u2 l2 e2 ep eq
    simp only at ep eq
    subst ep; subst eq
    split at hm
    · rename_i hu1
      split at hm
      · rename_i hu2
        obtain ⟨z1, hz1, hA⟩ := Rd.inv hm
        obtain ⟨z2, hz2, hB⟩ := Rd.inv hA
        obtain ⟨xs, hxs, hC⟩ := Rd.invO hB
        obtain ⟨ys, hys, hD⟩ := Rd.invO hC
        cases hfl : u.flat with
        | false => rw [hfl] at hD; cases hD
        | true =>
          rw [hfl] at hD
          cases hD
          obtain ⟨rfl, rfl⟩ := hL
          have hh1 := ev_homeR hz1
          have hh2 := ev_homeR hz2
          have ps1 : SVOK X (pk.getD 0) (X.a.eval x) (.sub h1 c1 s1 u l1 e1) := by
            cases pk with
            | none => obtain ⟨_, _, e, _⟩ := hop; cases e
            | some k => rw [← hu1]; exact hop.2.2
          have ps2 : SVOK X (qk.getD 0) (X.a.eval y) (.sub h2 c2 s2 u l2 e2) := by
            cases qk with
            | none => obtain ⟨_, _, e, _⟩ := hoq; cases e
            | some k => rw [← hu2]; exact hoq.2.2
          obtain ⟨a1, a2, a3, a4⟩ := sub_cells r ps1 hh1 hxs
          obtain ⟨b1, b2, b3, b4⟩ := sub_cells r ps2 hh2 hys
          -- what is copied
          generalize hzs : (((ys.take e2.toNat).drop l2.toNat).take (e1 - l1).toNat) = zs
          have hzl : zs.length = min (e2 - l2).toNat (e1 - l1).toNat := by
            rw [← hzs, List.length_take, List.length_drop, List.length_take]; omega
          have hzg : ∀ i, i < zs.length → zs.getD i u.zero = ys.getD (l2.toNat + i) u.zero := by
            intro i hi
            rw [← hzs, List.getD_eq_getElem?_getD, List.getD_eq_getElem?_getD, List.getElem?_take, if_pos (by omega), List.getElem?_drop, List.getElem?_take, if_pos (by omega)]
          have hfit : l1.toNat + zs.length ≤ xs.length := by omega
          obtain ⟨B, cap2, news, eB, n1, n2, n3, n4⟩ : ∃ (B : Option Addr) (cap2 : Nat) (news : List Value), X.a.eval y = .slice B (e2 - l2).toNat cap2 ∧ (B = none → (e2 - l2).toNat = 0) ∧ news.length = zs.length * u.size ∧ (∀ b, B = some b → ∀ j z, news[j]? = some z → X.w.cell? (b.add j) = some z) ∧
              ∀ i j c, i < zs.length → (unpack u (zs.getD i u.zero))[j]? = some c → ∃ z, news[i * u.size + j]? = some z ∧ Reads X.w z c := by
            rcases b4 with ⟨e, e', _⟩ | ⟨gb, cap, arr, E, cs, _, ev, g1, g2, g3, g4, g5, g6⟩
            · subst e'
              have : (e2 - l2).toNat = 0 := by simp at b3; omega
              have hz0 : zs = [] := List.eq_nil_of_length_eq_zero (by rw [hzl, this]; simp)
              subst hz0
              exact ⟨none, 0, [], by rw [e, this], fun _ => this, by simp, (fun b e => by cases e), fun i j c hi => by simp at hi⟩
            · refine ⟨_, _, (arr.toList.drop (l2.toNat * u.size)).take (zs.length * u.size), ev, (fun e => by cases e), ?_, fun b e j z hj => ?_, fun i j c hi hc => ?_⟩
              · have hal : arr.toList.length = cap * u.size := by rw [Array.length_toList]; exact g3
                rw [List.length_take, List.length_drop, hal, ← Nat.sub_mul]
                exact Nat.min_eq_left (Nat.mul_le_mul_right _ (by omega))
              · rw [slice_get] at hj
                split at hj
                · rename_i hlt
                  have hne : cap ≠ l2.toNat := by
                    intro e3
                    have : zs.length = 0 := by omega
                    rw [this] at hlt; omega
                  rw [if_neg hne] at e
                  cases e
                  rw [Addr.add_lit, cell_of_cells g2, ← Array.getElem?_toList]
                  exact hj
                · cases hj
              · have hj : j < u.size := by have := (List.getElem?_eq_some_iff.1 hc).1; rwa [unpack_len] at this
                rw [hzg i hi] at hc
                have hcell := g5 (l2.toNat + i) j (by omega) hj
                refine ⟨cs (l2.toNat + i) j, ?_, (g6.rep (by omega) hc).weaken⟩
                have hlt : i * u.size + j < zs.length * u.size := by
                  have : (i + 1) * u.size ≤ zs.length * u.size := Nat.mul_le_mul_right _ hi
                  rw [Nat.add_mul, Nat.one_mul] at this; omega
                rw [slice_get, if_pos hlt, Array.getElem?_toList, ← hcell, Nat.add_mul, Nat.add_assoc]
          have hsing : ∀ z ∈ news, z.oneCell' = true := by
            intro z hz
            obtain ⟨k, hk⟩ := List.mem_iff_getElem?.1 hz
            have hkl := (List.getElem?_eq_some_iff.1 hk).1
            rw [n2] at hkl
            have k1 : k / u.size < zs.length := Nat.div_lt_of_lt_mul (by rw [Nat.mul_comm]; exact hkl)
            have k2 : k % u.size < u.size := Nat.mod_lt _ u.size_pos
            obtain ⟨c, hc⟩ : ∃ c, (unpack u (zs.getD (k / u.size) u.zero))[k % u.size]? = some c := ⟨_, List.getElem?_eq_getElem (by rw [unpack_len]; exact k2)⟩
            obtain ⟨z', hz', hr⟩ := n4 _ _ c k1 hc
            have : k / u.size * u.size + k % u.size = k := by rw [Nat.mul_comm]; exact Nat.div_add_mod k u.size
            rw [this, hk] at hz'
            cases hz'
            exact one_of_single hr.isSingle
          have hmin : Nat.min (e2 - l2).toNat (e1 - l1).toNat = zs.length := hzl.symm
          have hval : (.int .i64 ((Nat.min (e2 - l2).toNat (e1 - l1).toNat : Nat) : Int) : Value) = .int .i64 (min (e2 - l2) (e1 - l1)) := by
            congr 1
            show ((min (e2 - l2).toNat (e1 - l1).toNat : Nat) : Int) = _
            omega
          have hexec : ∀ {v' : Value} {w' : World}, (Builtin.copy_ #[ti, ti2] o.type #[X.a.eval x, X.a.eval y]).run P X.w = .ok v' w' → (execOp X.a.eval o).run P X.w = .ok (.value v') w' := by
            intro v' w' hr
            unfold execOp; rw [ho]
            simp [resolve, hcal, invoke, builtin, hargs', htys', hr]
          have e3 := asSl_eq hxs
          have hx1 : X.s.homeCT h1 c1 = some (.at (.sl u xs) (.own z1.2 s1)) := by rw [hh1, e3]
          rcases a4 with ⟨e, e', ehv⟩ | ⟨gb, cap, arr, E, cs, ehv, ev, g1, g2, g3, g4, g5, g6⟩
          · -- nothing to write to
            subst e'
            have hn0 : (e1 - l1).toNat = 0 := by simp at a3; omega
            have hz0 : zs = [] := List.eq_nil_of_length_eq_zero (by rw [hzl, hn0]; simp)
            subst hz0
            obtain ⟨w', hr, hw⟩ := run_copyV (P := P) hT ht (ti2 := ti2) (ty := o.type) (w := X.w) (A := none) (n := (e1 - l1).toNat) (cap := 0) (m := (e2 - l2).toNat) (cap2 := cap2) (news := news) (by rw [hmin, n2]) n1 n3 hsing (.inl ⟨rfl, hn0⟩)
            rcases hw with ⟨_, rfl⟩ | ⟨_, _, _, _, e, _⟩
            · refine ⟨.inl fun j cv dd st' hc => ?_, fun p hp => by simp at hp; subst hp; rfl, fun K Q hK => ?_⟩
              · cases j with
                | zero => cases hc
                | succ j => simp [one, cellSV] at hc
              · unfold Oper.wp
                rw [hexec (by rw [e, eB, ← hn0]; rw [hval] at hr; rw [hn0]; rw [hn0] at hr; exact hr)]
                refine hK X.γ X.β X.w _ ?_ (sv_one rfl (Rep.int _ _))
                have := r.upd (f := setCT (.sl u (copyInto [] [] l1.toNat)) z1.2) (γ' := X.γ) (w' := X.w) (cv' := .sl u (copyInto [] [] l1.toNat)) (t' := .own z1.2 s1) hx1 (by simp [setCT]) (fun v hv hat => by
                    have e5 : copyInto ([] : List u.den) [] l1.toNat = [] := by simp [copyInto]
                    rw [e5]; exact hat)
                  ⟨fun b _ q => ⟨q, rfl⟩⟩ (Nat.le_refl _) (fun _ _ _ _ _ _ _ => ⟨fun b q => ⟨q, rfl⟩, fun b q => ⟨q, rfl⟩⟩) (fun d' st' e5 => by cases e5; exact ⟨rfl, fun t' zs e6 => by cases e6; exact ⟨_, rfl, by simp [copyInto]⟩⟩)
                  (fun q l hb => ⟨(r.box q l hb).choose_spec.choose_spec.2.1, rfl⟩) r.lim r.old ⟨rfl, rfl, rfl⟩
                exact this
            · cases e
          · have hbnd : (l1.toNat + zs.length) * u.size ≤ arr.size := by rw [g3]; exact Nat.mul_le_mul_right _ (by omega)
            rw [Nat.add_mul] at hbnd
            obtain ⟨w', hr, hw⟩ := run_copyV (P := P) hT ht (ti2 := ti2) (ty := o.type) (w := X.w) (A := some (if cap = l1.toNat then ⟨gb, 0, none⟩ else ⟨gb, l1.toNat * u.size, none⟩)) (n := (e1 - l1).toNat) (cap := cap - l1.toNat) (m := (e2 - l2).toNat) (cap2 := cap2) (news := news)
              (by rw [hmin, n2]) n1 n3 hsing (.inr (by
                by_cases hc : cap = l1.toNat
                · rw [if_pos hc]
                  have : zs.length = 0 := by omega
                  exact ⟨gb, 0, arr, E, rfl, g2, by rw [n2, this]; simp⟩
                · rw [if_neg hc]
                  exact ⟨gb, _, arr, E, rfl, g2, by rw [n2]; exact hbnd⟩))
            rcases hw with ⟨e, _⟩ | ⟨gb', off, cur, E', eA, hg', rfl⟩
            · cases e
            have hoff : gb' = gb ∧ (off = l1.toNat * u.size ∨ zs.length = 0) := by
              by_cases hc : cap = l1.toNat
              · rw [if_pos hc] at eA; cases eA; exact ⟨rfl, .inr (by omega)⟩
              · rw [if_neg hc] at eA; cases eA; exact ⟨rfl, .inl rfl⟩
            obtain ⟨rfl, hoff⟩ := hoff
            rw [g2] at hg'
            cases hg'
            let arr' : Array Value := (arr.toList.take off ++ news ++ arr.toList.drop (off + news.length)).toArray
            have harr : ∀ k, arr'[k]? = if l1.toNat * u.size ≤ k ∧ k < l1.toNat * u.size + zs.length * u.size then news[k - l1.toNat * u.size]? else arr[k]? := by
              intro k
              rw [List.getElem?_toArray]
              rcases hoff with rfl | h0
              · have := splice_get (cur := arr.toList) (vs := news) (n := l1.toNat * u.size) (by rw [n2, Array.length_toList]; exact hbnd) k
                rw [this, n2]; simp only [Array.getElem?_toList]
              · have hn : news = [] := List.eq_nil_of_length_eq_zero (by rw [n2, h0]; simp)
                rw [h0, Nat.zero_mul, if_neg (by omega)]
                subst hn
                simp only [List.append_nil, List.length_nil, Nat.add_zero, List.take_append_drop, Array.getElem?_toList]
            have hasz : arr'.size = arr.size := by
              simp only [arr', List.size_toArray, List.length_append, List.length_take, List.length_drop, Array.length_toList]
              rcases hoff with rfl | h0
              · rw [n2]; omega
              · have : news.length = 0 := by rw [n2, h0]; simp
                omega
            let w' := X.w.setRow gb' arr'
            have hw' : w'.heap[gb']? = some (.cells arr' E (0, 0)) := setRow_heap X.w gb' arr _ E _ g2
            have hwo : ∀ b, b ≠ gb' → w'.heap[b]? = X.w.heap[b]? := fun b hb => setRow_other X.w gb' b _ hb
            have hsize : w'.heap.size = X.w.heap.size := by show (X.w.setRow gb' arr').heap.size = _; simp [World.setRow]
            have ne_sh : ∀ b, okSh X.γ b → b ≠ gb' := by
              intro b q e; subst e
              rcases q with q | ⟨_, _, q⟩ <;> rw [g1] at q <;> cases q
            have hcl := copyInto_len (xs := xs) (ys := zs) (lo := l1.toNat) hfit
            let cs' : Nat → Nat → Value := fun i j => if l1.toNat ≤ i ∧ i < l1.toNat + zs.length then news.getD ((i - l1.toNat) * u.size + j) undef else cs i j
            have inr : ∀ {i j : Nat}, j < u.size → ((l1.toNat * u.size ≤ i * u.size + j ∧ i * u.size + j < l1.toNat * u.size + zs.length * u.size) ↔ (l1.toNat ≤ i ∧ i < l1.toNat + zs.length)) := by
              intro i j hj
              constructor
              · intro ⟨q1, q2⟩
                constructor
                · by_cases hq : l1.toNat ≤ i
                  · exact hq
                  · exfalso
                    have : (i + 1) * u.size ≤ l1.toNat * u.size := Nat.mul_le_mul_right _ (by omega)
                    rw [Nat.add_mul, Nat.one_mul] at this; omega
                · by_cases hq : i < l1.toNat + zs.length
                  · exact hq
                  · exfalso
                    have : (l1.toNat + zs.length) * u.size ≤ i * u.size := Nat.mul_le_mul_right _ (by omega)
                    rw [Nat.add_mul] at this; omega
              · intro ⟨q1, q2⟩
                have h1 : l1.toNat * u.size ≤ i * u.size := Nat.mul_le_mul_right _ q1
                have h2 : (i + 1) * u.size ≤ (l1.toNat + zs.length) * u.size := Nat.mul_le_mul_right _ q2
                rw [Nat.add_mul, Nat.one_mul, Nat.add_mul] at h2
                omega
            have hcs : ∀ i j, i < (copyInto xs zs l1.toNat).length → j < u.size → arr'[i * u.size + j]? = some (cs' i j) := by
              intro i j hi hj
              rw [hcl] at hi
              rw [harr]
              by_cases hq : l1.toNat ≤ i ∧ i < l1.toNat + zs.length
              · rw [if_pos ((inr hj).2 hq)]
                simp only [cs', if_pos hq]
                have e5 : i * u.size + j - l1.toNat * u.size = (i - l1.toNat) * u.size + j := by
                  have : i * u.size = l1.toNat * u.size + (i - l1.toNat) * u.size := by rw [← Nat.add_mul]; congr 1; omega
                  omega
                have hlt : (i - l1.toNat) * u.size + j < news.length := by
                  rw [n2]
                  have : (i - l1.toNat + 1) * u.size ≤ zs.length * u.size := Nat.mul_le_mul_right _ (by omega)
                  rw [Nat.add_mul, Nat.one_mul] at this; omega
                rw [e5, List.getD_eq_getElem?_getD, List.getElem?_eq_getElem hlt, Option.getD_some]
              · rw [if_neg (fun e => hq ((inr hj).1 e))]
                simp only [cs', if_neg hq]
                exact g5 i j hi hj
            have hrd : ∀ i j c, i < (copyInto xs zs l1.toNat).length → (unpack u ((copyInto xs zs l1.toNat).getD i u.zero))[j]? = some c → Reads X.w (cs' i j) c ∧ c.isSl = false := by
              intro i j c hi hc
              refine ⟨?_, flat_plain hfl _ hc⟩
              rw [hcl] at hi
              rw [copyInto_getD hfit] at hc
              by_cases hq : l1.toNat ≤ i ∧ i < l1.toNat + zs.length
              · rw [if_pos hq] at hc
                obtain ⟨z, hz, hrz⟩ := n4 (i - l1.toNat) j c (by omega) hc
                simp only [cs', if_pos hq, List.getD_eq_getElem?_getD, hz, Option.getD_some]
                exact hrz
              · rw [if_neg hq] at hc
                simp only [cs', if_neg hq]
                exact (g6.rep hi hc).weaken
            have hund : Under w' X.γ h1 c1 z1.2 u (copyInto xs zs l1.toNat) cs' := by
              cases z1.2 with
              | true =>
                refine ⟨fun _ _ _ => False, fun _ _ _ q => q.elim, fun _ _ _ _ _ q => q.elim, fun i j c hi hc => ?_⟩
                obtain ⟨k1, k2⟩ := hrd i j c hi hc
                cases c with
                | int a b => rw [k1.int]; exact .int _ _ _
                | bool a => rw [k1.bool]; exact .bool _ _
                | str a => rw [k1.str]; exact .str _ _
                | sl a b => cases k2
              | false =>
                intro i j c hi hc
                obtain ⟨k1, k2⟩ := hrd i j c hi hc
                cases c with
                | int a b => rw [k1.int]; exact .int _ _
                | bool a => rw [k1.bool]; exact .bool _
                | str a => rw [k1.str]; exact .str _
                | sl a b => cases k2
            refine ⟨.inl fun j cv dd st' hc => ?_, fun p hp => by simp at hp; subst hp; rfl, fun K Q hK => ?_⟩
            · cases j with
              | zero => cases hc
              | succ j => simp [one, cellSV] at hc
            · unfold Oper.wp
              rw [hval] at hr
              rw [hexec (by rw [ev, eB]; exact hr)]
              refine hK X.γ X.β w' _ ?_ (sv_one rfl (Rep.int _ _))
              have := r.upd (f := setCT (.sl u (copyInto xs zs l1.toNat)) z1.2) (γ' := X.γ) (w' := w') (cv' := .sl u (copyInto xs zs l1.toNat)) (t' := .own z1.2 s1) hx1 (by simp [setCT]) (fun v hv hat => by
                  rw [ehv] at hv; cases hv
                  exact .inr ⟨gb', cap, arr', E, cs', by rw [hcl], g1, hw', by rw [hasz, g3], by rw [hcl]; exact g4, hcs, hund⟩)
                ⟨fun b _ q => ⟨q, hwo b (ne_sh b q)⟩⟩ (by rw [hsize]; exact Nat.le_refl _)
                (fun k' c' _ _ _ hne _ => ⟨fun b q => ⟨q, hwo b (fun e5 => by rw [e5, g1] at q; cases q; exact hne ⟨rfl, rfl⟩)⟩, fun b q => ⟨q, hwo b (ne_sh b (.inr ⟨_, _, q⟩))⟩⟩)
                (fun d' st' e5 => by cases e5; exact ⟨rfl, fun t' zs' e6 => by cases e6; exact ⟨_, rfl, hcl⟩⟩)
                (fun k5 l5 hb5 => by
                  obtain ⟨_, _, _, h2', _⟩ := r.box k5 l5 hb5
                  exact ⟨h2', hwo _ (fun e5 => by rw [e5, g1] at h2'; cases h2')⟩)
                (fun b hb => r.lim b (by rw [← hsize]; exact hb)) (fun b hb hn => by
                  obtain ⟨k1, k2⟩ := r.old b hb hn
                  exact ⟨(hwo b (fun e5 => k2.notp h1 c1 (by rw [e5]; exact g1))).trans k1, k2⟩) ⟨rfl, rfl, rfl⟩
              exact this
      · cases hm
    · cases hm
  · cases hm

end
end Go.AM

/- All operations. -/
namespace Go.AM

structure ItemOK1 (P : Program) (xt : TypeId) : Prop where
  stood : P.stoodInHeld xt = false
  guard : P.eqGuardType P.depth xt = false
  names : ∀ fs, P.underlying xt = some (.struct fs) → ∀ f ∈ fs.toList, f.name ≠ "_"
def ItemOK (P : Program) (T : Tab) : Prop := ∀ xt, T.ty xt = some .item → ItemOK1 P xt
def itemOk1 (P : Program) (xt : TypeId) : Bool :=
  !(P.stoodInHeld xt) && (!(P.eqGuardType P.depth xt) && (match P.underlying xt with | some (.struct fs) => fs.toList.all fun f => !(f.name == "_") | _ => true))
theorem itemOk1_spec {P : Program} {xt : TypeId} (h : itemOk1 P xt = true) : ItemOK1 P xt := by
  simp only [itemOk1, Bool.and_eq_true, Bool.not_eq_true'] at h
  refine ⟨h.1, h.2.1, fun fs hfs f hf => ?_⟩
  have h3 := h.2.2
  rw [hfs] at h3
  have := List.all_eq_true.1 h3 f hf
  simpa using this
theorem itemOk {P : Program} {l : List (Nat × Ty)} (h : (l.all fun p => !(decide (p.2 = .item)) || itemOk1 P p.1) = true) : ItemOK P ⟨getA l⟩ := by
  have : ∀ (m : List (Nat × Ty)) i t, getA m i = some t → (i, t) ∈ m := by
    intro m
    induction m with
    | nil => intro i t h; cases h
    | cons p m ih =>
      intro i t h
      simp only [getA] at h
      by_cases e : i = p.1
      · rw [if_pos e] at h; cases h; subst e; exact List.mem_cons_self ..
      · rw [if_neg e] at h; exact List.mem_cons_of_mem _ (ih i t h)
  intro xt ht
  have := List.all_eq_true.1 h _ (this l xt _ ht)
  simp only [Bool.or_eq_true, Bool.not_eq_true', decide_eq_false_iff_not] at this
  exact itemOk1_spec (this.resolve_left fun h => by simp at h)

section
variable {P : Program} {T : Tab} {w0 : World} {wr : Gh} {nt : Nat} {X : Cx} {st dst : Nat} {o : Oper} {g : List (Nat × Bool)}

theorem run_itemEq (hT : TabOK P T) (hI : ItemOK P T) {xt : TypeId} (ht : T.ty xt = some .item) (a b : Item) (w : World) : (Op.equalIn 10000 xt (itemV a) (itemV b)).run P w = .ok (itemEq a b) w := by
  obtain ⟨fs, h1, h2, h3⟩ := (hT xt _ ht).agg rfl
  have hn := (hI xt ht).names fs h1
  have hF : P.fieldsOf xt = fs := by simp [Program.fieldsOf, h1]
  have hsz : fs.size = 3 := h2
  obtain ⟨f0, f1, f2, hfs⟩ : ∃ f0 f1 f2, fs.toList = [f0, f1, f2] := by
    have : fs.toList.length = 3 := by rw [Array.length_toList]; exact hsz
    match fs.toList, this with
    | [a, b, c], _ => exact ⟨a, b, c, rfl⟩
  have g0 := h3 0 f0 (.int .i64) (by rw [← Array.getElem?_toList, hfs]; rfl) rfl
  have g1 := h3 1 f1 (.int .i64) (by rw [← Array.getElem?_toList, hfs]; rfl) rfl
  have g2 := h3 2 f2 .str (by rw [← Array.getElem?_toList, hfs]; rfl) rfl
  have u0 := (hT _ _ g0.ty).int .i64 rfl
  have u1 := (hT _ _ g1.ty).int .i64 rfl
  have u2 := (hT _ _ g2.ty).str rfl
  rw [hfs] at hn
  have n0 := hn f0 (by simp)
  have n1 := hn f1 (by simp)
  have n2 := hn f2 (by simp)
  have a0 := isAgg_run (P := P) hT g0.ty w
  have a1 := isAgg_run (P := P) hT g1.ty w
  have a2 := isAgg_run (P := P) hT g2.ty w
  have o0 := g0.off
  have o1 := g1.off
  have o2 := g2.off
  unfold itemV
  rw [run_equalIn_struct w 9999 xt _ _ (by rw [hF]; exact h1) (hI xt ht).stood, hF, hfs]
  have e0 := run_equalIn_int (P := P) w 9998 f0.type .i64 .i64 a.num b.num u0
  have e1 := run_equalIn_int (P := P) w 9998 f1.type .i64 .i64 a.den b.den u1
  have e2 := run_equalIn_string (P := P) w 9998 f2.type a.text b.text u2
  have p0 : ∀ (i : Item), (part f0.type #[.int .i64 i.num, .int .i64 i.den, .string i.text] f0.offset).run P w = .ok (.int .i64 i.num) w := by
    intro i; simp [part, a0, o0, Ty.isAgg]
  have p1 : ∀ (i : Item), (part f1.type #[.int .i64 i.num, .int .i64 i.den, .string i.text] f1.offset).run P w = .ok (.int .i64 i.den) w := by
    intro i; simp [part, a1, o1, Ty.isAgg]
  have p2 : ∀ (i : Item), (part f2.type #[.int .i64 i.num, .int .i64 i.den, .string i.text] f2.offset).run P w = .ok (.string i.text) w := by
    intro i; simp [part, a2, o2, Ty.isAgg]
  unfold itemEq strEq
  cases h0 : a.num == b.num with
  | false => simp [Op.eqFields, n0, p0, e0, h0]
  | true =>
    cases h1' : a.den == b.den with
    | false => simp [Op.eqFields, n0, p0, e0, h0, n1, p1, e1, h1']
    | true =>
      cases h2' : a.text.toList == b.text.toList with
      | false => simp [Op.eqFields, n0, p0, e0, h0, n1, p1, e1, h1', n2, p2, e2, h2']
      | true => simp [Op.eqFields, n0, p0, e0, h0, n1, p1, e1, h1', n2, p2, e2, h2']

theorem hitem_of (hT : TabOK P T) (hI : ItemOK P T) {op : BinOp} {xt yt : TypeId} {x y : Operand} (ho : o.op = .binOp op xt x y yt) : ∀ a b, X.a.eval x = itemV a → X.a.eval y = itemV b → T.ty xt = some .item → (op = .eql ∨ op = .neq) →
      (execOp X.a.eval o).run P X.w = .ok (.value (.bool (if op = .eql then itemEq a b else !itemEq a b))) X.w := by
  intro a b hx hy ht hop
  have he := run_itemEq hT hI ht a b X.w
  have hg := (hI xt ht).guard
  unfold execOp; rw [ho]
  rcases hop with rfl | rfl
  · have hgd := run_eqGuard_agg (P := P) X.w .eql xt x y #[.int .i64 a.num, .int .i64 a.den, .string a.text] #[.int .i64 b.num, .int .i64 b.den, .string b.text] hg
    simp only [hx, hy]
    unfold itemV at he ⊢
    simp [hgd, binOp, Op.equal, Op.maxDepth, he]
  · have hgd := run_eqGuard_agg (P := P) X.w .neq xt x y #[.int .i64 a.num, .int .i64 a.den, .string a.text] #[.int .i64 b.num, .int .i64 b.den, .string b.text] hg
    simp only [hx, hy]
    unfold itemV at he ⊢
    simp [hgd, binOp, Op.equal, Op.maxDepth, he]

structure TabsOK (P : Program) (T : Tab) (ρ : Nat → Option Fun) : Prop where
  tab : TabOK P T
  item : ItemOK P T
  fun_ : ∀ f F, ρ f = some F → FOK P f F

theorem opR_ok (r : Rel w0 wr nt X) (hG : GOK X) (hg : Holds X.a g) (hst : ∀ h c, ¬ RefIn X.s h c st) {ρ : Nat → Option Fun} (K : TabsOK P T ρ) {fz : Bool} {L : Leaf} {ps : List Prim} {v : SV}
    (h : (opR T ρ st g true fz dst o).ev X.s = some L) (hL : Gives L ps v) (hd : nodupH (ps.flatMap Prim.home) = true) : OpOK P w0 wr nt X st dst o ps v := by
  unfold opR at h
  split at h
  · rename_i x ho
    cases fz with
    | true => exact op_moveF r hG hg ho h hL
    | false => exact op_move r hG hg ho h hL
  · rename_i x ho; exact op_assign r hG hg ho h hL hd
  · rename_i c x y ho; exact op_pick r hG hg ho h hL
  · rename_i t ho; exact op_alloc r hst K.tab ho h hL
  · rename_i t x ho
    obtain ⟨t', ht, h'⟩ := Rd.invO h
    exact op_box r hG hg hst ho h' hL hd
  · rename_i t parts ho; exact op_build r hG hg K.tab ho h hL hd
  · rename_i t n parts ho; exact op_buildSlice r hG hg K.tab ho h hL hd
  · rename_i t a ho; exact op_load r hG hg K.tab ho h hL
  · rename_i t a x ho; exact op_store r hG hg hst K.tab ho h hL hd
  · rename_i op xt x y yt ho; exact op_bin r hG hg K.tab ho h hL (hitem_of K.tab K.item ho)
  · rename_i op xt x ho; exact op_un r hG hg ho h hL
  · rename_i sr dt x ho; exact op_convert r hG hg K.tab ho h hL
  · rename_i t n m ho; exact op_makeSlice r hG hg K.tab ho h hL
  · rename_i t x lo hi ho; exact op_slice r hG hg K.tab ho h hL
  · rename_i t x f ho; exact op_fieldAddr r hG hg K.tab ho h hL
  · rename_i t x f ho; exact op_field r hG hg K.tab ho h hL
  · rename_i t x i ho; exact op_indexAddr r hG hg K.tab ho h hL
  · rename_i x i ho; exact op_extract r hG hg ho h hL
  · rename_i f first caps ho; exact op_makeFunc r hG hg ho h hL
  · rename_i c ho
    split at h
    · rename_i f hcal
      exact op_call r hG hg K.fun_ ho (.inl ⟨hcal, rfl⟩) h hL hd
    · rename_i t hcal
      obtain ⟨p, hp, h'⟩ := Rd.inv h
      have hop := opd_ok r hG hg hp
      obtain ⟨pk, pv⟩ := p
      cases pv with
      | clo f caps =>
        cases pk with
        | none => obtain ⟨_, _, e, _⟩ := hop; cases e
        | some k => exact op_call r hG hg K.fun_ ho (.inr ⟨t, hcal, hop.2.2.1⟩) h' hL hd
      | un => cases h'
      | val => cases h'
      | fp => cases h'
      | ep => cases h'
      | es => cases h'
      | tup => cases h'
      | sub => cases h'
    · rename_i f hcal
      unfold builtinR at h
      split at h
      · rename_i x hargs; exact op_len r hG hg K.tab ho hcal hargs h hL
      · rename_i x y hargs
        split at h
        · rename_i t t' htys
          obtain ⟨ty, hty, h'⟩ := Rd.invO h
          cases ty with
          | sl u =>
            cases hb : Nat.beq t t' with
            | false => simp only [hb] at h'; cases h'
            | true =>
              have e := Nat.eq_of_beq_eq_true hb
              subst e
              simp only [hb, cond_true] at h'
              exact op_append r hG hg K.tab ho hcal hargs htys hty h' hL hd
          | int k => cases h'
          | bool => cases h'
          | str => cases h'
          | item => cases h'
          | vec => cases h'
          | mat => cases h'
        · cases h
      · rename_i x y hargs
        split at h
        · rename_i t t' htys
          obtain ⟨ty, hty, h'⟩ := Rd.invO h
          cases ty with
          | sl u => exact op_copy r hG hg K.tab ho hcal hargs htys hty h' hL
          | int k => cases h'
          | bool => cases h'
          | str => cases h'
          | item => cases h'
          | vec => cases h'
          | mat => cases h'
        · cases h
      · rename_i x y hargs; exact op_max r hG hg ho hcal hargs h hL
      · rename_i x y hargs; exact op_min r hG hg ho hcal hargs h hL
      · cases h
    · cases h
  · cases h

end
end Go.AM

/- A region: its operations in whatever order the edges allow. -/
namespace Go.AM

/-! ### What the machine did at each operation -/
structure OpD where
  G : List (Nat × Bool) × Bool
  L : Leaf
  ask : List Key
  ps : List Prim
  v : SV
  pr : List Prim
def OpD.tr (d : OpD) : Tr := trOf d.ask d.pr
def prs (D : List OpD) : List Prim := D.flatMap (·.pr)
structure OpDOK (T : Tab) (ρ : Nat → Option Fun) (fz : List Nat) (ops : Array Oper) (st : Nat) (o : Oper) (s : St) (d : OpD) : Prop where
  run : (stepR T ρ fz ops st o).run s [] = some ((d.G, d.L), d.ask)
  gives : Gives d.L d.ps d.v
  plain : (d.G.1.isEmpty || (d.ps.isEmpty && plainSV d.v)) = true
  nodup : nodupH (d.ps.flatMap Prim.home) = true
  pr : d.pr = putPrims d.ps d.G o.dst d.v

theorem clock_upd (s : St) (k c : Nat) (f : CT → CT) : (s.updHome k c f).clock = s.clock := by
  unfold St.updHome
  cases Nat.ble 64 c with
  | true => simp only [cond_true]; cases s.box k <;> rfl
  | false =>
    simp only [cond_false]
    unfold St.updSlot
    cases getA s.env k with
    | some e => rfl
    | none => cases getA s.sl k <;> rfl
theorem clock_apply (p : Prim) (s : St) : (p.apply s).clock = s.clock := by
  cases p with
  | take k c => exact clock_upd _ _ _ _
  | frz k c => exact clock_upd _ _ _ _
  | set k c v d => exact clock_upd _ _ _ _
  | box k l => rfl
  | cells k c l => simp only [Prim.apply]; cases s.box k <;> rfl
  | put d e => rfl
theorem clock_all (l : List Prim) : ∀ (s : St), (applyAll s l).clock = s.clock := by
  induction l with
  | nil => intro s; rfl
  | cons p l ih => intro s; exact (ih (p.apply s)).trans (clock_apply p s)

theorem stepsK_data {α : Type} {T : Tab} {ρ : Nat → Option Fun} {fz : List Nat} {ops : Array Oper} {k : St → Trace → Option α} {z : α} : ∀ (r : List Oper) (i : Nat) (s : St) (tr : Trace), stepsK T ρ fz ops i r s tr k = some z →
    ∃ D : List OpD, D.length = r.length ∧ (∀ (j : Nat) o d, r[j]? = some o → D[j]? = some d → OpDOK T ρ fz ops (s.clock + (i + j) + 1) o (applyAll s (prs (D.take j))) d) ∧
      k (applyAll s (prs D)) ((D.map OpD.tr).reverse ++ tr) = some z := by
  intro r
  induction r with
  | nil => intro i s tr h; exact ⟨[], rfl, fun j o d h => by simp at h, h⟩
  | cons o r ih =>
    intro i s tr h
    simp only [stepsK] at h
    obtain ⟨q, hq, h⟩ := Option.bind_eq_some_iff.1 h
    obtain ⟨ps, v, hg, h⟩ := gives_of_k h
    cases hc : (q.1.1.1.isEmpty || (ps.isEmpty && plainSV v)) && nodupH (ps.flatMap Prim.home) with
    | false => rw [hc] at h; cases h
    | true =>
      rw [hc] at h
      simp only [cond_true] at h
      simp only [Bool.and_eq_true] at hc
      obtain ⟨D, h1, h2, h3⟩ := ih (i + 1) _ _ h
      let d : OpD := ⟨q.1.1, q.1.2, q.2, ps, v, putPrims ps q.1.1 o.dst v⟩
      have h0 : OpDOK T ρ fz ops (s.clock + i + 1) o s d := ⟨hq, hg, hc.1, hc.2, rfl⟩
      refine ⟨d :: D, by simp [h1], fun j o' d' hj hd => ?_, ?_⟩
      · cases j with
        | zero => simp at hj hd; subst hj; subst hd; exact h0
        | succ j =>
          have := h2 j o' d' (by simpa using hj) (by simpa using hd)
          rw [clock_all] at this
          rw [show i + (j + 1) = i + 1 + j by omega]
          have e : applyAll s (prs ((d :: D).take (j + 1))) = applyAll (applyAll s d.pr) (prs (D.take j)) := by
            rw [List.take_succ_cons, prs, List.flatMap_cons, applyAll_append]; rfl
          rw [e]; exact this
      · have e : applyAll s (prs (d :: D)) = applyAll (applyAll s d.pr) (prs D) := by rw [prs, List.flatMap_cons, applyAll_append]; rfl
        rw [e]
        simp only [List.map_cons, List.reverse_cons, List.append_assoc, List.singleton_append]
        exact h3

/-! ### Sets of operations -/
/-- The changes of the operations of a set, from a to b, in the text's order. -/
def prS (D : List OpD) (S : Nat → Bool) (a n : Nat) : List Prim := (List.range' a n).flatMap fun j => if S j then (D[j]?.map OpD.pr).getD [] else []
theorem prS_add (D : List OpD) (S : Nat → Bool) (a m n : Nat) : prS D S a (m + n) = prS D S a m ++ prS D S (a + m) n := by
  unfold prS
  rw [← List.flatMap_append]
  congr 1
  have := List.range'_append (s := a) (m := m) (n := n) (step := 1)
  simp only [Nat.one_mul] at this
  exact this.symm
theorem prS_one (D : List OpD) (S : Nat → Bool) (a : Nat) : prS D S a 1 = if S a then (D[a]?.map OpD.pr).getD [] else [] := by
  simp [prS, List.range'_succ]
theorem prS_congr (D : List OpD) {S S' : Nat → Bool} (a n : Nat) (h : ∀ j, a ≤ j → j < a + n → S j = S' j) : prS D S a n = prS D S' a n := by
  have : ∀ (l : List Nat), (∀ j ∈ l, S j = S' j) → (l.flatMap fun j => if S j then (D[j]?.map OpD.pr).getD [] else []) = l.flatMap fun j => if S' j then (D[j]?.map OpD.pr).getD [] else [] := by
    intro l
    induction l with
    | nil => intro _; rfl
    | cons x l ih => intro hl; rw [List.flatMap_cons, List.flatMap_cons, hl x (List.mem_cons_self ..), ih fun j hj => hl j (List.mem_cons_of_mem _ hj)]
  exact this _ fun j hj => by
    obtain ⟨h1, h2⟩ := List.mem_range'_1.1 hj
    exact h j h1 h2
theorem prS_none (D : List OpD) {S : Nat → Bool} (a n : Nat) (h : ∀ j, a ≤ j → j < a + n → S j = false) : prS D S a n = [] := by
  unfold prS
  rw [List.flatMap_eq_nil_iff]
  intro j hj
  obtain ⟨h1, h2⟩ := List.mem_range'_1.1 hj
  rw [h j h1 h2]; rfl
theorem prS_all (D : List OpD) {S : Nat → Bool} : ∀ (m : Nat), m ≤ D.length → (∀ j, j < m → S j = true) → prS D S 0 m = prs (D.take m) := by
  intro m
  induction m with
  | zero => intro _ _; simp [prS, prs]
  | succ m ih =>
    intro hm h
    rw [prS_add, Nat.zero_add, ih (by omega) (fun j hj => h j (by omega)), prS_one, h m (by omega)]
    have hd : D[m]? = some D[m] := List.getElem?_eq_getElem (by omega)
    have ht : D.take (m + 1) = D.take m ++ [D[m]] := by rw [List.take_add_one, hd]; rfl
    rw [if_pos rfl, hd, ht]
    simp only [prs, List.flatMap_append, List.flatMap_cons, List.flatMap_nil, List.append_nil, Option.map_some, Option.getD_some]
theorem prS_mem {D : List OpD} {S : Nat → Bool} {a n : Nat} {p : Prim} (h : p ∈ prS D S a n) : ∃ j d, a ≤ j ∧ j < a + n ∧ S j = true ∧ D[j]? = some d ∧ p ∈ d.pr := by
  unfold prS at h
  obtain ⟨j, hj, hp⟩ := List.mem_flatMap.1 h
  obtain ⟨h1, h2⟩ := List.mem_range'_1.1 hj
  cases hS : S j with
  | false => rw [hS] at hp; cases hp
  | true =>
    rw [hS, if_pos rfl] at hp
    cases hd : D[j]? with
    | none => rw [hd] at hp; cases hp
    | some d => rw [hd] at hp; exact ⟨j, d, h1, h2, hS, rfl.trans hd, hp⟩

/-- Operations that do not clash. -/
structure NoClash (d e : OpD) : Prop where
  ca : ∀ κ ∈ d.tr.chg, κ ∉ e.tr.ask
  cc : ∀ κ ∈ d.tr.chg, κ ∉ e.tr.chg
  ac : ∀ κ ∈ e.tr.chg, κ ∉ d.tr.ask
theorem meets_false {x y : List Key} (h : meets x y = false) : ∀ κ ∈ x, κ ∉ y := by
  intro κ h1 h2
  have := List.any_eq_false.1 h κ h1
  simp [h2] at this
theorem noClash_of {d e : OpD} (h : clash d.tr e.tr = false) : NoClash d e := by
  simp only [clash, Bool.or_eq_false_iff] at h
  exact ⟨meets_false h.1, meets_false h.2.1, meets_false h.2.2⟩
theorem NoClash.reg {d e : OpD} (h : NoClash d e) : ∀ p ∈ d.pr, ∀ q ∈ e.pr, p.reg ≠ q.reg := by
  intro p hp q hq
  refine reg_ne fun κ h1 h2 => ?_
  exact h.cc κ (List.mem_flatMap.2 ⟨p, hp, h1⟩) (List.mem_flatMap.2 ⟨q, hq, h2⟩)

/-- What is not in the set is done last. -/
theorem pull {D : List OpD} {S : Nat → Bool} (s : St) : ∀ (m : Nat), (∀ v u d e, v < u → u < m → S v = false → S u = true → D[v]? = some d → D[u]? = some e → NoClash d e) →
    (applyAll s (prS D (fun _ => true) 0 m)).Eqv (applyAll (applyAll s (prS D S 0 m)) (prS D (fun j => !S j) 0 m)) := by
  intro m
  induction m with
  | zero => intro _; exact St.Eqv.refl _
  | succ m ih =>
    intro h
    have h1 := ih fun v u d e hv hu => h v u d e hv (by omega)
    rw [prS_add, prS_add, prS_add, Nat.zero_add, prS_one, prS_one, prS_one, if_pos rfl]
    cases hS : S m with
    | false =>
      simp only [Bool.not_false, if_true, Bool.false_eq_true, if_false, List.append_nil]
      rw [applyAll_append, applyAll_append]
      exact applyAll_eqv _ h1
    | true =>
      simp only [Bool.not_true, if_true, Bool.false_eq_true, if_false, List.append_nil]
      rw [applyAll_append, applyAll_append]
      refine (applyAll_eqv _ h1).trans ?_
      cases hd : D[m]? with
      | none => exact St.Eqv.refl _
      | some e =>
        refine applyAll_comm _ _ _ fun p hp q hq => ?_
        obtain ⟨j, d, _, h3, h4, h5, h6⟩ := prS_mem hp
        simp only [Bool.not_eq_true'] at h4
        exact (h j m d e (by omega) (by omega) h4 hS h5 hd).reg p h6 q hq

/-- The same reading, where only what does not clash has or has not been done. -/
theorem read_same {α : Type} {D : List OpD} {S : Nat → Bool} {s : St} {i n : Nat} {r : Rd α} {p : α × List Key} (hr : r.run (applyAll s (prS D (fun _ => true) 0 i)) [] = some p)
    (h1 : ∀ v u d e, v < u → u < i → S v = false → S u = true → D[v]? = some d → D[u]? = some e → NoClash d e)
    (h2 : ∀ v d, v < i → S v = false → D[v]? = some d → ∀ κ ∈ p.2, κ ∉ d.tr.chg) (h3 : ∀ u d, i ≤ u → S u = true → D[u]? = some d → ∀ κ ∈ p.2, κ ∉ d.tr.chg) :
    r.run (applyAll s (prS D S 0 (i + n))) [] = some p := by
  refine r.run_agree hr fun κ hκ => ?_
  have e1 := (pull (D := D) (S := S) s i h1).agree κ
  have e2 := applyAll_agree (prS D (fun j => !S j) 0 i) (applyAll s (prS D S 0 i)) (κ := κ) fun q hq hk => by
    obtain ⟨j, d, _, g3, g4, g5, g6⟩ := prS_mem hq
    simp only [Bool.not_eq_true'] at g4
    exact h2 j d (by omega) g4 g5 κ hκ (List.mem_flatMap.2 ⟨q, g6, hk⟩)
  have e3 := applyAll_agree (prS D S (0 + i) n) (applyAll s (prS D S 0 i)) (κ := κ) fun q hq hk => by
    obtain ⟨j, d, g2, _, g4, g5, g6⟩ := prS_mem hq
    exact h3 j d (by omega) g4 g5 κ hκ (List.mem_flatMap.2 ⟨q, g6, hk⟩)
  rw [prS_add, applyAll_append]
  exact e1.trans (e2.symm.trans e3)


/-! ### One operation -/
section
variable {P : Program} {T : Tab} {ρ : Nat → Option Fun} {fz : List Nat} {ops : Array Oper} {w0 : World} {wr : Gh} {nt : Nat} {D : List OpD} {s0 : St} {n : Nat}

/-- The state behind the operations of a set. -/
structure Mid (w0 : World) (wr : Gh) (nt : Nat) (ops : Array Oper) (D : List OpD) (s0 : St) (n : Nat) (B0 : Nat) (S : Nat → Bool) (a : Act) (w : World) : Prop where
  rel : ∃ γ β, Rel w0 wr nt ⟨B0, γ, β, applyAll s0 (prS D S 0 n), a, w⟩ ∧ GOK ⟨B0, γ, β, applyAll s0 (prS D S 0 n), a, w⟩
  slots : ∀ k, ∀ p ∈ ((applyAll s0 (prS D S 0 n)).ent k).g, ∃ j o, S j = true ∧ ops[j]? = some o ∧ o.dst = some p.1
  refs : ∀ h c τ, RefIn (applyAll s0 (prS D S 0 n)) h c τ → τ ≤ s0.clock ∨ ∃ j, S j = true ∧ τ = s0.clock + j + 1

theorem ref_stamps {sv : SV} {h c τ : Nat} (hr : RefSV sv h c τ) : τ ∈ stampsSV sv := by
  rcases hr with ⟨a, l, t, rfl, hin⟩ | ⟨t, i, o, rfl⟩ | ⟨t, lo, hi, rfl⟩ | ⟨l, p, t, rfl, hp, hin⟩
  · exact List.mem_flatMap.2 ⟨_, hin, by simp [stampsCT]⟩
  · simp [stampsSV]
  · simp [stampsSV]
  · exact List.mem_flatMap.2 ⟨p, hp, List.mem_flatMap.2 ⟨_, hin, by simp [stampsCT]⟩⟩
theorem refs_prims {ps : List Prim} : ∀ {s : St} {h c τ : Nat}, RefIn (applyAll s ps) h c τ → RefIn s h c τ ∨ τ ∈ ps.flatMap Prim.stamps := by
  induction ps with
  | nil => intro s h c τ hr; exact .inl hr
  | cons p ps ih =>
    intro s h c τ hr
    rcases ih (s := Prim.apply s p) hr with h1 | h1
    · cases hp : noPut p with
      | true => exact .inl (refs_apply hp h1)
      | false =>
        cases p with
        | put d e =>
          obtain ⟨k, hk⟩ := h1
          rw [ent_put] at hk
          by_cases hd : k = d
          · rw [if_pos hd] at hk
            exact .inr (List.mem_flatMap.2 ⟨_, List.mem_cons_self .., ref_stamps hk⟩)
          · rw [if_neg hd] at hk; exact .inl ⟨k, hk⟩
        | _ => cases hp
    · exact .inr (by rw [List.flatMap_cons]; exact List.mem_append_right _ h1)
theorem RefIn.eqv {s s' : St} (h : s.Eqv s') {k c τ : Nat} (hr : RefIn s k c τ) : RefIn s' k c τ := by
  obtain ⟨q, hq⟩ := hr
  exact ⟨q, by rw [← h.ent]; exact hq⟩

theorem GOK.put {X : Cx} (hG : GOK X) {d : Nat} {G : List (Nat × Bool) × Bool} {v : SV} {val : Value} (hn : d < X.a.tmps.size) (hno : ∀ k, ∀ p ∈ (X.s.ent k).g, p.1 ≠ d) (hGd : ∀ p ∈ G.1, p.1 ≠ d) (hGb : G.2 = true ↔ Holds X.a G.1) :
    GOK (X.put d ⟨G.1, G.2, v⟩ val) := by
  have holds : ∀ g : List (Nat × Bool), (∀ p ∈ g, p.1 ≠ d) → (Holds (X.a.put (some d) val) g ↔ Holds X.a g) := by
    intro g hg
    constructor
    · intro h p hp; have := h p hp; rwa [tmpAt_put p.1 hn, if_neg (hg p hp)] at this
    · intro h p hp; rw [tmpAt_put p.1 hn, if_neg (hg p hp)]; exact h p hp
  intro k
  show ((X.put d ⟨G.1, G.2, v⟩ val).s.ent k).b = true ↔ Holds (X.a.put (some d) val) ((X.put d ⟨G.1, G.2, v⟩ val).s.ent k).g
  have : (X.put d ⟨G.1, G.2, v⟩ val).s.ent k = if k = d then ⟨G.1, G.2, v⟩ else X.s.ent k := ent_put X.s d _ k
  rw [this]
  by_cases hk : k = d
  · rw [if_pos hk, holds _ hGd]; exact hGb
  · rw [if_neg hk, holds _ (hno k)]; exact hG k

/-- Prims without put leave guards. -/
theorem noput_guard {ps : List Prim} : ∀ {s : St}, (∀ p ∈ ps, noPut p = true) → ∀ k, ((applyAll s ps).ent k).g = (s.ent k).g ∧ ((applyAll s ps).ent k).b = (s.ent k).b := by
  induction ps with
  | nil => intro s _ k; exact ⟨rfl, rfl⟩
  | cons p ps ih =>
    intro s hp k
    obtain ⟨h1, h2⟩ := ih (s := Prim.apply s p) (fun q hq => hp q (List.mem_cons_of_mem _ hq)) k
    have hpp := hp p (List.mem_cons_self ..)
    have : ((p.apply s).ent k).g = (s.ent k).g ∧ ((p.apply s).ent k).b = (s.ent k).b := by
      rw [p.ent]
      split
      · cases p <;> first | exact ⟨rfl, rfl⟩ | cases hpp
      · exact ⟨rfl, rfl⟩
    exact ⟨h1.trans this.1, h2.trans this.2⟩

/-- What a guard says. -/
theorem guard_ok {X : Cx} (r : Rel w0 wr nt X) (hG : GOK X) {o : Oper} {G : List (Nat × Bool) × Bool} (h : (guardR ops o).ev X.s = some G) (hsz : ∀ (j : Nat) (o' : Oper) d, ops[j]? = some o' → o'.dst = some d → d < nt) :
    (G.2 = true ↔ Holds X.a G.1) ∧ (Region.wanted o (yielded ops X.a.tmps) = G.2) ∧
      (∀ p ∈ G.1, ∃ (j : Nat) (o' : Oper) (want : Bool), o.guard = some (j, want) ∧ ops[j]? = some o' ∧ ∃ d, o'.dst = some d ∧ (p.1 = d ∨ p ∈ (X.s.ent d).g)) ∧ (G.2 = false → G.1.isEmpty = false) := by
  unfold guardR at h
  unfold Region.wanted
  cases hgd : o.guard with
  | none =>
    rw [hgd] at h
    cases h
    exact ⟨⟨(fun _ p hp => by cases hp), fun _ => rfl⟩, rfl, (fun p hp => by cases hp), fun e => by cases e⟩
  | some q =>
    obtain ⟨j, want⟩ := q
    rw [hgd] at h
    obtain ⟨d, hd, h⟩ := Rd.invO h
    obtain ⟨o', ho', hod⟩ := Option.bind_eq_some_iff.1 hd
    simp only [Rd.ev] at h
    obtain ⟨c, hc, h⟩ := Rd.inv h
    have hdn := hsz j o' d ho' hod
    split at h
    · rename_i x t
      cases h
      have hv := ev_one hc
      have hye : yielded ops X.a.tmps j = match tmpAt X.a d with | .bool b => some b | _ => none := by
        unfold yielded
        rw [ho', Option.bind_some, hod, Option.bind_some]
        have : X.a.tmps[d]? = some (tmpAt X.a d) := by
          rw [tmpAt, Array.getD_eq_getD_getElem?]
          rw [Array.getElem?_eq_getElem (by rw [r.size]; exact hdn)]; rfl
        rw [this]
        cases tmpAt X.a d <;> rfl
      have hent := r.ent d
      have hx : (X.s.ent d).b = true → tmpAt X.a d = .bool x := by
        intro hb
        have := hent.1 hb
        rw [hv] at this
        obtain ⟨h1, h2, _⟩ := this
        obtain ⟨y, hy, ho⟩ := h2.2 0 _ rfl
        have h1' : single (tmpAt X.a d) = true := h1
        rw [single_cells h1'] at hy
        cases hy
        exact ho
      have hsel : sel want x = true ↔ x = want := by cases want <;> cases x <;> simp [sel]
      have hgb := hG d
      have key : ((X.s.ent d).b && sel want x) = true ↔ Holds X.a ((X.s.ent d).g ++ [(d, want)]) := by
        rw [Bool.and_eq_true]
        constructor
        · rintro ⟨h1, h2⟩ p hp
          rcases List.mem_append.1 hp with h | h
          · exact hgb.1 h1 p h
          · simp at h; subst h; rw [hx h1, hsel.1 h2]
        · intro h
          have h1 := hgb.2 fun p hp => h p (List.mem_append_left _ hp)
          refine ⟨h1, hsel.2 ?_⟩
          have := h (d, want) (List.mem_append_right _ (List.mem_singleton.2 rfl))
          rw [hx h1] at this
          injection this
      refine ⟨key, ?_, fun p hp => ?_, fun _ => by simp⟩
      · show (yielded ops X.a.tmps j == some want) = _
        rw [hye]
        cases hb : (X.s.ent d).b with
        | true =>
          rw [hx hb]
          cases want <;> cases x <;> rfl
        | false =>
          rw [(hent.2 hb).2]
          rfl
      · refine ⟨j, o', want, rfl, ho', d, hod, ?_⟩
        rcases List.mem_append.1 hp with h | h
        · exact .inr h
        · simp at h; subst h; exact .inl rfl
    · cases h

end
end Go.AM

/- A region: one operation after the other, and the whole. -/
namespace Go.AM
section
variable {P : Program} {T : Tab} {ρ : Nat → Option Fun} {fz : List Nat} {ops : Array Oper} {w0 : World} {wr : Gh} {nt : Nat} {D : List OpD} {s0 : St} {n B0 : Nat}

theorem putPrims_none (ps : List Prim) (G : List (Nat × Bool) × Bool) (v : SV) : putPrims ps G none v = ps := rfl
theorem GOK.eqv {X : Cx} (hG : GOK X) {s' : St} (h : X.s.Eqv s') : GOK { X with s := s' } := fun k => by
  show (s'.ent k).b = true ↔ Holds X.a (s'.ent k).g
  rw [← h.ent]; exact hG k

structure RegOK (T : Tab) (ρ : Nat → Option Fun) (fz : List Nat) (ops : Array Oper) (nt : Nat) (s0 : St) (D : List OpD) : Prop where
  len : D.length = ops.size
  data : ∀ (j : Nat) o d, ops[j]? = some o → D[j]? = some d → OpDOK T ρ fz ops (s0.clock + j + 1) o (applyAll s0 (prs (D.take j))) d
  dst : ∀ (j : Nat) o k, ops[j]? = some o → o.dst = some k → k < nt
  dsts : ∀ (j j' : Nat) o o' k, ops[j]? = some o → ops[j']? = some o' → o.dst = some k → o'.dst = some k → j = j'
  guards : ∀ (i j : Nat) o want, ops[i]? = some o → o.guard = some (j, want) → j < i

/-- The operation may come now. -/
structure MayCome (D : List OpD) (clock : Nat) (S : Nat → Bool) (i : Nat) (d : OpD) : Prop where
  fresh : S i = false
  hA : ∀ v u d e, v < u → u < i → S v = false → S u = true → D[v]? = some d → D[u]? = some e → NoClash d e
  hB : ∀ v e, v < i → S v = false → D[v]? = some e → NoClash e d
  hC : ∀ u e, i < u → S u = true → D[u]? = some e → NoClash d e
  st : ∀ τ ∈ d.tr.stamps, τ ≤ clock ∨ τ = clock + i + 1 ∨ ∃ j, S j = true ∧ τ = clock + j + 1

def addS (S : Nat → Bool) (i : Nat) : Nat → Bool := fun j => if j = i then true else S j

theorem guard_asked {o : Oper} {st : Nat} {s : St} {p : ((List (Nat × Bool) × Bool) × Leaf) × List Key} (h : (stepR T ρ fz ops st o).run s [] = some p) {j : Nat} {want : Bool} (hg : o.guard = some (j, want)) :
    ∃ o' d, ops[j]? = some o' ∧ o'.dst = some d ∧ Key.slot d ∈ p.2 := by
  unfold stepR guardR at h
  rw [hg] at h
  dsimp only at h
  cases hd : (ops[j]?).bind (·.dst) with
  | none => rw [hd] at h; cases h
  | some d =>
    rw [hd] at h
    obtain ⟨o', ho', hod⟩ := Option.bind_eq_some_iff.1 hd
    exact ⟨o', d, ho', hod, Rd.run_mem s _ (l := [Key.slot d]) h _ (List.mem_singleton.2 rfl)⟩

theorem step_ok (K : TabsOK P T ρ) (R : RegOK T ρ fz ops nt s0 D) {S : Nat → Bool} {a : Act} {w : World} (M : Mid w0 wr nt ops D s0 ops.size B0 S a w) {i : Nat} {o : Oper} {d : OpD} (ho : ops[i]? = some o) (hd : D[i]? = some d) (C : MayCome D s0.clock S i d)
    {Q : Exit → Act → World → Prop} {KK : Act → World → Prop} (hK : ∀ a' w', Mid w0 wr nt ops D s0 ops.size B0 (addS S i) a' w' → KK a' w') : wpOp P ops Q i KK a w := by
  have hD := R.data i o d ho hd
  have hin : i < ops.size := (Array.getElem?_eq_some_iff.1 ho).1
  -- the reading
  have hrun : (stepR T ρ fz ops (s0.clock + i + 1) o).run (applyAll s0 (prS D S 0 ops.size)) [] = some ((d.G, d.L), d.ask) := by
    have h := hD.run
    rw [← prS_all D (S := fun _ => true) i (by rw [R.len]; omega) (fun _ _ => rfl)] at h
    have := read_same (S := S) (n := ops.size - i) h C.hA (fun v e hv hS he κ hκ hc => (C.hB v e hv hS he).ca κ hc hκ) (fun u e hu hS he κ hκ hc => by
      rcases Nat.lt_or_ge i u with h1 | h1
      · exact (C.hC u e h1 hS he).ac κ hc hκ
      · have : u = i := by omega
        subst this; rw [C.fresh] at hS; cases hS)
    rwa [show i + (ops.size - i) = ops.size by omega] at this
  have hev := Rd.run_ev _ _ hrun
  unfold stepR at hev
  obtain ⟨G, hG1, hev⟩ := Rd.inv hev
  cases hc : (G.1.isEmpty || (mayGuard o.op && !(fz.elem (o.dst.getD 0)))) with
  | false => rw [hc] at hev; cases hev
  | true =>
  rw [hc] at hev
  obtain ⟨L, hL1, hev⟩ := Rd.inv hev
  simp only [Rd.ev, Option.some.injEq, Prod.mk.injEq] at hev
  obtain ⟨e1, e2⟩ := hev
  subst e1; subst e2
  obtain ⟨⟨γ, β, r, hG⟩, hslots, hrefs⟩ := M
  have hgo := guard_ok r hG hG1 R.dst
  obtain ⟨hgb, hwant, hgs, hgne⟩ := hgo
  -- who is in the guard
  have hGin : ∀ p ∈ d.G.1, ∃ j o', S j = true ∧ ops[j]? = some o' ∧ o'.dst = some p.1 := by
    intro p hp
    obtain ⟨j, o', want, h1, h2, dd, h3, h4⟩ := hgs p hp
    have hji := R.guards i j o want ho h1
    have hjS : S j = true := by
      cases hS : S j with
      | true => rfl
      | false =>
        exfalso
        obtain ⟨o2, d2, k1, k2, k3⟩ := guard_asked hrun h1
        rw [h2] at k1; cases k1
        rw [h3] at k2; cases k2
        have hjl : j < D.length := by rw [R.len]; omega
        have hdj : D[j]? = some D[j] := List.getElem?_eq_getElem hjl
        have hDj := R.data j o' _ h2 hdj
        refine (C.hB j _ hji hS hdj).ca (.slot dd) ?_ k3
        simp only [OpD.tr, trOf, hDj.pr, h3, putPrims, List.flatMap_append, List.mem_append]
        right
        simp [Prim.keys]
    rcases h4 with h4 | h4
    · exact ⟨j, o', hjS, h2, by rw [h4]; exact h3⟩
    · exact hslots dd p h4
  -- the new state
  have heqv : (applyAll (applyAll s0 (prS D S 0 ops.size)) d.pr).Eqv (applyAll s0 (prS D (addS S i) 0 ops.size)) := by
    have split : ∀ S' : Nat → Bool, prS D S' 0 ops.size = prS D S' 0 i ++ (prS D S' i 1 ++ prS D S' (i + 1) (ops.size - i - 1)) := by
      intro S'
      have h1 := prS_add D S' 0 i (ops.size - i)
      have h2 := prS_add D S' i 1 (ops.size - i - 1)
      rw [show 1 + (ops.size - i - 1) = ops.size - i by omega] at h2
      rw [Nat.zero_add, h2, show i + (ops.size - i) = ops.size by omega] at h1
      exact h1
    rw [split S, split (addS S i), prS_one, prS_one, C.fresh, hd]
    have a1 : prS D (addS S i) 0 i = prS D S 0 i := prS_congr D 0 i fun j _ hj => by simp only [addS]; rw [if_neg (by omega)]
    have a2 : prS D (addS S i) (i + 1) (ops.size - i - 1) = prS D S (i + 1) (ops.size - i - 1) := prS_congr D _ _ fun j hj _ => by simp only [addS]; rw [if_neg (by omega)]
    have a3 : addS S i i = true := by simp [addS]
    rw [a1, a2, a3]
    simp only [Bool.false_eq_true, if_false, List.nil_append, if_true, Option.map_some, Option.getD_some]
    rw [applyAll_append, applyAll_append, applyAll_append]
    refine (applyAll_comm _ _ _ fun p hp q hq => ?_)
    obtain ⟨j, e, h2, _, h4, h5, h6⟩ := prS_mem hp
    exact fun e' => (C.hC j e (by omega) h4 h5).reg q hq p h6 e'.symm
  have hst : ∀ h c, ¬ RefIn (applyAll s0 (prS D S 0 ops.size)) h c (s0.clock + i + 1) := by
    intro h c hr
    rcases hrefs h c _ hr with h1 | ⟨j, h1, h2⟩
    · omega
    · have : j = i := by omega
      subst this; rw [C.fresh] at h1; cases h1
  have hmono : ∀ j, S j = true → addS S i j = true := fun j hj => by simp only [addS]; split; exact rfl; exact hj
  have haddi : addS S i i = true := by simp [addS]
  have hpr := hD.pr
  have fin : ∀ (a' : Act) (w' : World) (γ' : Gh) (β' : Nat → Nat), Rel w0 wr nt ⟨B0, γ', β', applyAll (applyAll s0 (prS D S 0 ops.size)) d.pr, a', w'⟩ → GOK ⟨B0, γ', β', applyAll (applyAll s0 (prS D S 0 ops.size)) d.pr, a', w'⟩ →
      (∀ p ∈ d.ps, noPut p = true) → KK a' w' := by
    intro a' w' γ' β' r' hG' hnp
    refine hK a' w' ⟨⟨γ', β', r'.eqv heqv, hG'.eqv heqv⟩, fun k p hp => ?_, fun h c τ hr => ?_⟩
    · rw [← heqv.ent, hpr] at hp
      have base : ∀ k, ((applyAll (applyAll s0 (prS D S 0 ops.size)) d.ps).ent k).g = ((applyAll s0 (prS D S 0 ops.size)).ent k).g := fun k => (noput_guard hnp k).1
      have old : p ∈ ((applyAll s0 (prS D S 0 ops.size)).ent k).g → ∃ j o, addS S i j = true ∧ ops[j]? = some o ∧ o.dst = some p.1 := fun hp => by
        obtain ⟨j, o2, h1, h2, h3⟩ := hslots k p hp
        exact ⟨j, o2, hmono j h1, h2, h3⟩
      cases hdst : o.dst with
      | none => rw [hdst, putPrims_none, base] at hp; exact old hp
      | some d0 =>
        rw [hdst] at hp
        simp only [putPrims, applyAll_append] at hp
        have e5 : (applyAll (applyAll (applyAll s0 (prS D S 0 ops.size)) d.ps) [.put d0 ⟨d.G.1, d.G.2, d.v⟩]) = Prim.apply (applyAll (applyAll s0 (prS D S 0 ops.size)) d.ps) (.put d0 ⟨d.G.1, d.G.2, d.v⟩) := rfl
        rw [e5, ent_put] at hp
        by_cases hk : k = d0
        · rw [if_pos hk] at hp
          obtain ⟨j, o2, h1, h2, h3⟩ := hGin p hp
          exact ⟨j, o2, hmono j h1, h2, h3⟩
        · rw [if_neg hk, base] at hp; exact old hp
    · rcases refs_prims (RefIn.eqv heqv.symm hr) with h1 | h1
      · rcases hrefs h c τ h1 with h2 | ⟨j, h2, h3⟩
        · exact .inl h2
        · exact .inr ⟨j, hmono j h2, h3⟩
      · rcases C.st τ h1 with h2 | h2 | ⟨j, h2, h3⟩
        · exact .inl h2
        · exact .inr ⟨i, haddi, h2⟩
        · exact .inr ⟨j, hmono j h2, h3⟩
  have hnod : ∀ d0, o.dst = some d0 → ∀ k, ∀ p ∈ ((applyAll s0 (prS D S 0 ops.size)).ent k).g, p.1 ≠ d0 := by
    intro d0 hd0 k p hp e
    obtain ⟨j, o2, h1, h2, h3⟩ := hslots k p hp
    have : i = j := R.dsts i j o o2 d0 ho h2 hd0 (by rw [h3, e])
    subst this; rw [C.fresh] at h1; cases h1
  have hGnd : ∀ d0, o.dst = some d0 → ∀ p ∈ d.G.1, p.1 ≠ d0 := by
    intro d0 hd0 p hp e
    obtain ⟨j, o2, h1, h2, h3⟩ := hGin p hp
    have : i = j := R.dsts i j o o2 d0 ho h2 hd0 (by rw [h3, e])
    subst this; rw [C.fresh] at h1; cases h1
  unfold wpOp
  rw [ho]
  have hwant' : Region.wanted o (yielded ops a.tmps) = d.G.2 := hwant
  simp only [hwant']
  cases hb : d.G.2 with
  | true =>
    simp only [if_true]
    left
    have hholds := hgb.1 hb
    rw [hb] at hL1
    have hop := opR_ok (dst := o.dst.getD 0) r hG hholds hst K hL1 hD.gives hD.nodup
    refine hop.wp KK Q fun γ' β' w' val r' hv => ?_
    have hGa : GOK (After ⟨B0, γ, β, applyAll s0 (prS D S 0 ops.size), a, w⟩ γ' β' d.ps w') := by
      intro k
      show ((applyAll (applyAll s0 (prS D S 0 ops.size)) d.ps).ent k).b = true ↔ Holds a ((applyAll (applyAll s0 (prS D S 0 ops.size)) d.ps).ent k).g
      rw [(noput_guard hop.noput k).1, (noput_guard hop.noput k).2]
      exact hG k
    cases hdst : o.dst with
    | none =>
      refine fin a w' γ' β' ?_ ?_ hop.noput
      · rw [hpr, hdst, putPrims_none]; exact r'
      · rw [hpr, hdst, putPrims_none]; exact hGa
    | some d0 =>
      rw [hdst] at hv
      have hn := R.dst i o d0 ho hdst
      have r2 := r'.putV (g := d.G.1) hn hv hop.new (fun h c hr => hst h c (refs_all hop.noput hr))
      have hn' : d0 < a.tmps.size := by rw [r.size]; exact hn
      have hG2 := GOK.put (G := d.G) (v := d.v) (val := val) hGa hn' (fun k p hp => by
        have hp' : p ∈ ((applyAll (applyAll s0 (prS D S 0 ops.size)) d.ps).ent k).g := hp
        rw [(noput_guard hop.noput k).1] at hp'
        exact hnod d0 hdst k p hp') (hGnd d0 hdst) hgb
      have e6 : applyAll (applyAll s0 (prS D S 0 ops.size)) d.pr = Prim.apply (applyAll (applyAll s0 (prS D S 0 ops.size)) d.ps) (.put d0 ⟨d.G.1, d.G.2, d.v⟩) := by
        rw [hpr, hdst]; simp only [putPrims, applyAll_append]; rfl
      refine fin _ w' γ' β' ?_ ?_ hop.noput
      · rw [e6, hb]; exact r2
      · rw [e6]; exact hG2
  | false =>
    have hne := hgne hb
    have hpl := hD.plain
    rw [hne] at hpl
    simp only [Bool.false_or, Bool.and_eq_true, List.isEmpty_iff] at hpl
    obtain ⟨hps, hplain⟩ := hpl
    simp only [Bool.false_eq_true, if_false]
    cases hdst : o.dst with
    | none =>
      refine fin a w γ β ?_ ?_ (by rw [hps]; intro p hp; cases hp)
      · rw [hpr, hdst, putPrims_none, hps]; exact r
      · rw [hpr, hdst, putPrims_none, hps]; exact hG
    | some d0 =>
      have hn := R.dst i o d0 ho hdst
      have r2 := r.putSkip (g := d.G.1) hn hplain
      have hn' : d0 < a.tmps.size := by rw [r.size]; exact hn
      have hG2 := GOK.put (G := d.G) (v := d.v) (val := undef) hG hn' (hnod d0 hdst) (hGnd d0 hdst) hgb
      have e6 : applyAll (applyAll s0 (prS D S 0 ops.size)) d.pr = Prim.apply (applyAll s0 (prS D S 0 ops.size)) (.put d0 ⟨d.G.1, d.G.2, d.v⟩) := by
        rw [hpr, hdst, hps]; rfl
      refine fin _ w γ β ?_ ?_ (by rw [hps]; intro p hp; cases hp)
      · rw [e6, hb]; exact r2
      · rw [e6]; exact hG2

end
end Go.AM

/- A region, whole. -/
namespace Go.AM

theorem before_spec (ops : Array Oper) (i : Nat) (hi : i < ops.size) (j : Nat) (h : ((Region.before ops).getD i 0).testBit j = true) :
    ∃ o, ops[i]? = some o ∧ ∃ e ∈ o.after.toList, Region.binds .any e = true ∧ (j = e.on ∨ ((Region.before ops).getD e.on 0).testBit j = true) := by
  unfold Region.before at h ⊢
  rw [← Array.foldl_toList] at h ⊢
  let f : Array Nat → Oper → Array Nat := fun acc o => acc.push (o.after.foldl (fun s e => if Region.binds .any e then s ||| 2 ^ e.on ||| acc.getD e.on 0 else s) 0)
  have size : ∀ (l : List Oper) (acc : Array Nat), (l.foldl f acc).size = acc.size + l.length := by
    intro l
    induction l with
    | nil => intro acc; rfl
    | cons o l ih => intro acc; rw [List.foldl_cons, ih]; simp [f]; omega
  have keep : ∀ (l : List Oper) (acc : Array Nat) (k : Nat), k < acc.size → (l.foldl f acc).getD k 0 = acc.getD k 0 := by
    intro l
    induction l with
    | nil => intro acc k _; rfl
    | cons o l ih =>
      intro acc k hk
      rw [List.foldl_cons, ih _ _ (by simp [f]; omega)]
      simp only [f, Array.getD_eq_getD_getElem?, Array.getElem?_push]
      rw [if_neg (by omega)]
  have inner : ∀ (es : List Edge) (acc : Array Nat) (s : Nat), (es.foldl (fun s e => if Region.binds .any e then s ||| 2 ^ e.on ||| acc.getD e.on 0 else s) s).testBit j = true →
      s.testBit j = true ∨ ∃ e ∈ es, Region.binds .any e = true ∧ (j = e.on ∨ (acc.getD e.on 0).testBit j = true) := by
    intro es
    induction es with
    | nil => intro acc s h; exact .inl h
    | cons e es ih =>
      intro acc s h
      rw [List.foldl_cons] at h
      rcases ih acc _ h with h1 | ⟨e', h1, h2⟩
      · cases hb : Region.binds .any e with
        | false => rw [hb] at h1; exact .inl h1
        | true =>
          rw [hb] at h1
          simp only [if_true, Nat.testBit_or, Bool.or_eq_true] at h1
          rcases h1 with (h1 | h1) | h1
          · exact .inl h1
          · rw [Nat.testBit_two_pow] at h1
            exact .inr ⟨e, List.mem_cons_self .., hb, .inl (of_decide_eq_true h1).symm⟩
          · exact .inr ⟨e, List.mem_cons_self .., hb, .inr h1⟩
      · exact .inr ⟨e', List.mem_cons_of_mem _ h1, h2⟩
  have main : ∀ (l : List Oper) (acc : Array Nat) (i : Nat), i < l.length → ((l.foldl f acc).getD (acc.size + i) 0).testBit j = true →
      ∃ o, l[i]? = some o ∧ ∃ e ∈ o.after.toList, Region.binds .any e = true ∧ (j = e.on ∨ ((l.foldl f acc).getD e.on 0).testBit j = true) := by
    intro l
    induction l with
    | nil => intro acc i hi; simp at hi
    | cons o l ih =>
      intro acc i hi h
      rw [List.foldl_cons] at h ⊢
      have hs : (f acc o).size = acc.size + 1 := by simp [f]
      cases i with
      | zero =>
        rw [keep _ _ _ (by omega)] at h
        have hv : (f acc o).getD (acc.size + 0) 0 = o.after.foldl (fun s e => if Region.binds .any e then s ||| 2 ^ e.on ||| acc.getD e.on 0 else s) 0 := by
          simp [f, Array.getD_eq_getD_getElem?]
        rw [hv, ← Array.foldl_toList] at h
        rcases inner _ _ _ h with h1 | ⟨e, h1, h2, h3⟩
        · simp at h1
        · refine ⟨o, rfl, e, h1, h2, ?_⟩
          rcases h3 with h3 | h3
          · exact .inl h3
          · right
            have hlt : e.on < acc.size := by
              rcases Nat.lt_or_ge e.on acc.size with h4 | h4
              · exact h4
              · simp [Array.getD_eq_getD_getElem?, Array.getElem?_eq_none h4] at h3
            rw [keep _ _ _ (by omega)]
            simp only [f, Array.getD_eq_getD_getElem?, Array.getElem?_push] at h3 ⊢
            rw [if_neg (by omega)]
            exact h3
      | succ i =>
        have := ih (f acc o) i (by simpa using hi) (by rw [hs, show acc.size + 1 + i = acc.size + (i + 1) by omega]; exact h)
        obtain ⟨o', ho', rest⟩ := this
        exact ⟨o', by simpa using ho', rest⟩
  have hh : ((ops.toList.foldl f #[]).getD ((#[] : Array Nat).size + i) 0).testBit j = true := by simpa [f] using h
  obtain ⟨o, h1, e, h2, h3, h4⟩ := main ops.toList #[] i (by simpa using hi) hh
  exact ⟨o, by rw [← Array.getElem?_toList]; exact h1, e, h2, h3, h4⟩

theorem edges_spec : ∀ (l : List Oper) (i : Nat), edgesOk i l = true → ∀ (j : Nat) o, l[j]? = some o → ∀ e ∈ o.after.toList, Region.binds .any e = true → e.on < i + j := by
  intro l
  induction l with
  | nil => intro i _ j o h; simp at h
  | cons x l ih =>
    intro i h j o hj e he hb
    simp only [edgesOk, Bool.and_eq_true] at h
    cases j with
    | zero =>
      simp at hj; subst hj
      have := List.all_eq_true.1 h.1 e he
      rw [hb] at this
      have h2 : e.on < i := by simpa using this
      omega
    | succ j => have := ih (i + 1) h.2 j o (by simpa using hj) e he hb; omega
theorem guards_spec : ∀ (l : List Oper) (i : Nat), guardsOk i l = true → ∀ (j : Nat) o k want, l[j]? = some o → o.guard = some (k, want) → k < i + j := by
  intro l
  induction l with
  | nil => intro i _ j o k want h; simp at h
  | cons x l ih =>
    intro i h j o k want hj hg
    simp only [guardsOk, Bool.and_eq_true] at h
    cases j with
    | zero =>
      simp at hj; subst hj
      rw [hg] at h
      exact Nat.le_of_ble_eq_true h.1
    | succ j => have := ih (i + 1) h.2 j o k want (by simpa using hj) hg; omega
theorem dsts_spec : ∀ (l : List Oper), nodupN (dsts l) = true → ∀ (j j' : Nat) o o' k, l[j]? = some o → l[j']? = some o' → o.dst = some k → o'.dst = some k → j = j' := by
  intro l
  induction l with
  | nil => intro _ j j' o o' k h; simp at h
  | cons x l ih =>
    intro h j j' o o' k hj hj' hk hk'
    have mem : ∀ (m : Nat) (y : Oper), l[m]? = some y → y.dst = some k → k ∈ dsts l := fun m y hm hy => List.mem_filterMap.2 ⟨y, List.mem_of_getElem? hm, hy⟩
    have tail : nodupN (dsts l) = true := by
      unfold dsts at h
      rw [List.filterMap_cons] at h
      cases hx : x.dst with
      | none => rw [hx] at h; exact h
      | some d => rw [hx] at h; simp only [nodupN, Bool.and_eq_true] at h; exact h.2
    have hd : ∀ d, x.dst = some d → d ∉ dsts l := by
      intro d hx hm
      unfold dsts at h
      rw [List.filterMap_cons, hx] at h
      simp only [nodupN, Bool.and_eq_true, Bool.not_eq_true'] at h
      have : (dsts l).elem d = false := h.1
      have h2 : (dsts l).elem d = true := List.elem_eq_true_of_mem hm
      rw [this] at h2; cases h2
    cases j with
    | zero =>
      simp at hj; subst hj
      cases j' with
      | zero => rfl
      | succ j' => exact absurd (mem j' o' (by simpa using hj') hk') (hd k hk)
    | succ j =>
      cases j' with
      | zero => simp at hj'; subst hj'; exact absurd (mem j o (by simpa using hj) hk) (hd k hk')
      | succ j' => have := ih tail j j' o o' k (by simpa using hj) (by simpa using hj') hk hk'; omega

end Go.AM

/- A region, whole: in the text's order, in any order; what is kept behind it. -/
namespace Go.AM

/-- Between regions: no guards, no references. -/
structure Flat (s : St) : Prop where
  env : s.env = []
  refs : ∀ h c τ, ¬ RefIn s h c τ
theorem Flat.ent {s : St} (h : Flat s) (k : Nat) : (s.ent k).g = [] ∧ (s.ent k).b = true := by
  unfold St.ent
  rw [h.env]
  simp only [getA]
  cases getA s.sl k <;> exact ⟨rfl, rfl⟩

/-! ### The end of a region -/
def Uniq {α : Type} (l : List (Nat × α)) : Prop := (l.map Prod.fst).Nodup
theorem setA_keys {α : Type} (l : List (Nat × α)) (k : Nat) (x : α) : (setA l k x).map Prod.fst = if k ∈ l.map Prod.fst then l.map Prod.fst else l.map Prod.fst ++ [k] := by
  induction l with
  | nil => simp [setA]
  | cons p l ih =>
    obtain ⟨q, y⟩ := p
    unfold setA
    by_cases h : k = q
    · subst h; simp
    · rw [if_neg h, List.map_cons, ih]
      by_cases hm : k ∈ l.map Prod.fst
      · rw [if_pos hm, if_pos (by simp only [List.map_cons, List.mem_cons]; exact .inr hm)]; rfl
      · rw [if_neg hm, if_neg (by simp only [List.map_cons, List.mem_cons, not_or]; exact ⟨h, hm⟩)]; rfl
theorem Uniq.set {α : Type} {l : List (Nat × α)} (h : Uniq l) (k : Nat) (x : α) : Uniq (setA l k x) := by
  unfold Uniq at h ⊢
  rw [setA_keys]
  split
  · exact h
  · rename_i hm
    rw [List.nodup_append]
    refine ⟨h, by simp, fun a ha b hb => ?_⟩
    simp at hb
    subst hb
    exact fun e => hm (e ▸ ha)
theorem uniq_upd {s : St} (h : Uniq s.env) (k c : Nat) (f : CT → CT) : Uniq (s.updHome k c f).env := by
  unfold St.updHome
  cases Nat.ble 64 c with
  | true => simp only [cond_true]; cases s.box k <;> exact h
  | false =>
    simp only [cond_false]
    unfold St.updSlot
    cases getA s.env k with
    | some e => exact h.set _ _
    | none => cases getA s.sl k <;> exact h
theorem uniq_apply {s : St} (h : Uniq s.env) (p : Prim) : Uniq (p.apply s).env := by
  cases p with
  | take k c => exact uniq_upd h _ _ _
  | frz k c => exact uniq_upd h _ _ _
  | set k c v d => exact uniq_upd h _ _ _
  | box k l => exact h
  | cells k c l => simp only [Prim.apply]; cases s.box k <;> exact h
  | put d e => exact h.set _ _
theorem uniq_all (l : List Prim) : ∀ {s : St}, Uniq s.env → Uniq (applyAll s l).env := by
  induction l with
  | nil => intro s h; exact h
  | cons p l ih => intro s h; exact ih (uniq_apply h p)

theorem getA_filter {α : Type} (l : List (Nat × α)) (k k' : Nat) : getA (l.filter fun q => !(Nat.beq q.1 k)) k' = if k' = k then none else getA l k' := by
  induction l with
  | nil => simp [getA]
  | cons p l ih =>
    obtain ⟨q, y⟩ := p
    by_cases hq : q = k
    · subst hq
      have : (!(Nat.beq q q)) = false := by simp
      rw [List.filter_cons]
      simp only [this, Bool.false_eq_true, if_false, ih]
      by_cases hk : k' = q
      · rw [if_pos hk, if_pos hk]
      · rw [if_neg hk, if_neg hk]; simp only [getA]; rw [if_neg hk]
    · have : (!(Nat.beq q k)) = true := by
        cases hb : Nat.beq q k with
        | false => rfl
        | true => exact absurd (Nat.eq_of_beq_eq_true hb) hq
      rw [List.filter_cons]
      simp only [this, if_true, getA, ih]
      by_cases hk : k' = q
      · rw [if_pos hk, if_pos hk, if_neg (by rw [hk]; exact hq)]
      · rw [if_neg hk, if_neg hk]
theorem close_get (keep : List Nat) : ∀ (env : List (Nat × Ent)) (sl : List (Nat × SV)), Uniq env → ∀ k,
    getA (env.foldl (fun l p => bif p.2.g.isEmpty && (refFree p.1 p.2.v && keep.elem p.1) then setA l p.1 p.2.v else l.filter fun q => !(Nat.beq q.1 p.1)) sl) k =
      match getA env k with
      | some e => if e.g = [] ∧ refFree k e.v = true ∧ keep.elem k = true then some e.v else none
      | none => getA sl k := by
  intro env
  induction env with
  | nil => intro sl _ k; rfl
  | cons p env ih =>
    intro sl hu k
    obtain ⟨q, e⟩ := p
    have hu2 : Uniq env := by unfold Uniq at hu ⊢; rw [List.map_cons, List.nodup_cons] at hu; exact hu.2
    have hq : getA env q = none := by
      unfold Uniq at hu
      rw [List.map_cons, List.nodup_cons] at hu
      have : ∀ (l : List (Nat × Ent)), q ∉ l.map Prod.fst → getA l q = none := by
        intro l
        induction l with
        | nil => intro _; rfl
        | cons r l ihl =>
          intro hn
          obtain ⟨r1, r2⟩ := r
          simp only [List.map_cons, List.mem_cons, not_or] at hn
          simp only [getA]
          rw [if_neg hn.1]
          exact ihl hn.2
      exact this env hu.1
    rw [List.foldl_cons, ih _ hu2]
    by_cases hk : k = q
    · subst hk
      rw [hq]
      simp only [getA, if_true]
      cases hc : (e.g.isEmpty && (refFree k e.v && keep.elem k)) with
      | true =>
        simp only [cond_true, getA_setA, if_true]
        simp only [Bool.and_eq_true, List.isEmpty_iff] at hc
        rw [if_pos ⟨hc.1, hc.2.1, hc.2.2⟩]
      | false =>
        simp only [cond_false]
        rw [getA_filter, if_pos rfl, if_neg]
        rintro ⟨h1, h2, h3⟩
        rw [h1, h2, h3] at hc; cases hc
    · simp only [getA]
      rw [if_neg hk]
      cases getA env k with
      | some e' => rfl
      | none =>
        simp only
        cases hc : (e.g.isEmpty && (refFree q e.v && keep.elem q)) with
        | true => simp only [cond_true, getA_setA]; rw [if_neg hk]
        | false => simp only [cond_false]; rw [getA_filter, if_neg hk]

theorem refFree_none {k : Nat} {v : SV} (h : refFree k v = true) (q c τ : Nat) : ¬ RefSV v q c τ := by
  rintro (⟨a, l, t, rfl, hin⟩ | ⟨t, i, o, rfl⟩ | ⟨t, lo, hi, rfl⟩ | ⟨l, p, t, rfl, hp, hin⟩)
  · simp only [refFree, List.all_eq_true] at h
    exact absurd (h _ hin) (by simp)
  · cases h
  · cases h
  · cases h

theorem close_ent {s : St} (hu : Uniq s.env) (keep : List Nat) (n k : Nat) : ((s.close keep n).ent k) = (match getA s.env k with | some e => if e.g = [] ∧ refFree k e.v = true ∧ keep.elem k = true then ⟨[], true, e.v⟩ else Ent.none | none => s.ent k) := by
  unfold St.ent
  have h1 : (s.close keep n).env = [] := rfl
  have h2 : getA (s.close keep n).sl k = _ := close_get keep s.env s.sl hu k
  rw [h1]
  simp only [getA]
  rw [h2]
  cases getA s.env k with
  | some e =>
    by_cases hc : e.g = [] ∧ refFree k e.v = true ∧ keep.elem k = true
    · simp only [if_pos hc]
    · simp only [if_neg hc]
  | none => rfl

section
variable {P : Program} {w0 : World} {wr : Gh} {nt : Nat}

theorem close_rel {X : Cx} (r : Rel w0 wr nt X) (hG : GOK X) (hu : Uniq X.s.env) (keep : List Nat) (n : Nat) : Rel w0 wr nt { X with s := X.s.close keep n } := by
  have hbx : ∀ k, (X.s.close keep n).box k = X.s.box k := fun k => rfl
  have hle : ∀ k, ((X.s.close keep n).ent k).le (X.s.ent k) := by
    intro k
    rw [close_ent hu]
    cases hg : getA X.s.env k with
    | none => exact Ent.le_refl _
    | some e =>
      have he : X.s.ent k = e := by unfold St.ent; rw [hg]
      simp only
      split
      · rename_i hc
        rw [he]
        have hb : e.b = true := by
          have := (hG k).2 (by rw [he, hc.1]; intro p hp; cases hp)
          rwa [he] at this
        exact .inr ⟨hb.symm, SV.le_refl _⟩
      · exact .inl ⟨rfl, rfl⟩
  have hh : ∀ k c cv d st, (X.s.close keep n).homeCT k c = some (.at cv (.own d st)) → X.s.homeCT k c = some (.at cv (.own d st)) := by
    intro k c cv d st h
    unfold St.homeCT at h ⊢
    by_cases hc : 64 ≤ c
    · rw [if_pos hc] at h ⊢; exact h
    · rw [if_neg hc] at h ⊢
      rcases hle k with ⟨_, e⟩ | ⟨_, hv⟩
      · rw [e] at h; cases h
      · rw [close_ent hu] at h
        cases hg : getA X.s.env k with
        | none => rw [hg] at h; exact h
        | some e =>
          have he : X.s.ent k = e := by unfold St.ent; rw [hg]
          rw [hg] at h
          simp only at h
          split at h
          · rw [he]; exact h
          · cases h
  have S : Step (fun _ _ => False) X { X with s := X.s.close keep n } :=
    ⟨rfl, ⟨fun b _ q => ⟨q, rfl⟩⟩, Nat.le_refl _, fun k c cv d st _ _ _ => ⟨fun b q => ⟨q, rfl⟩, fun b q => ⟨q, rfl⟩⟩,
      fun q c st _ cv d hq => ⟨cv, d, hh q c cv d st hq, rfl, fun t xs e => ⟨xs, e, rfl⟩⟩, fun k hk => ⟨rfl, hk⟩⟩
  refine r.step S (fun k => .inr ⟨hle k, rfl, fun _ _ h => h⟩) (fun k l hb => .inr ⟨l, hb, CTs.le_refl l, ?_, rfl, fun _ h => h⟩) r.lim r.old ⟨rfl, rfl, rfl⟩ rfl rfl
  obtain ⟨_, _, _, h2, _⟩ := r.box k l hb
  exact h2
theorem close_flat {s : St} (hu : Uniq s.env) (hs : ∀ k v, getA s.env k = none → getA s.sl k = some v → ∀ q c τ, ¬ RefSV v q c τ) (keep : List Nat) (n : Nat) : Flat (s.close keep n) := by
  refine ⟨rfl, fun h c τ hr => ?_⟩
  obtain ⟨k, hk⟩ := hr
  rw [close_ent hu] at hk
  cases hg : getA s.env k with
  | none =>
    rw [hg] at hk
    simp only at hk
    unfold St.ent at hk
    rw [hg] at hk
    simp only at hk
    cases hsl : getA s.sl k with
    | none =>
      rw [hsl] at hk
      rcases hk with ⟨_, _, _, e, _⟩ | ⟨_, _, _, e⟩ | ⟨_, _, _, e⟩ | ⟨_, _, _, e, _⟩ <;> cases e
    | some v => rw [hsl] at hk; exact hs k v hg hsl h c τ hk
  | some e =>
    rw [hg] at hk
    simp only at hk
    split at hk
    · rename_i hc; exact refFree_none hc.2.1 h c τ hk
    · rcases hk with ⟨_, _, _, e, _⟩ | ⟨_, _, _, e⟩ | ⟨_, _, _, e⟩ | ⟨_, _, _, e, _⟩ <;> cases e

/-! Slots from before that a region has not written keep what they are, but for what was taken. -/
theorem sl_keep (ps : List Prim) : ∀ {s : St}, (∀ k v, getA s.sl k = some v → ∀ q c τ, ¬ RefSV v q c τ) → ∀ k v, getA (applyAll s ps).sl k = some v → ∀ q c τ, ¬ RefSV v q c τ := by
  induction ps with
  | nil => intro s h; exact h
  | cons p ps ih =>
    intro s h
    refine ih (s := Prim.apply s p) ?_
    have upd : ∀ (q c : Nat) (f : CT → CT), (∀ x k q s t, f x = .ref k q s t → x = .ref k q s t) → ∀ k v, getA (s.updHome q c f).sl k = some v → ∀ q' c' τ, ¬ RefSV v q' c' τ := by
      intro q c f hf k v hv q' c' τ hr
      unfold St.updHome at hv
      cases hc : Nat.ble 64 c with
      | true =>
        rw [hc] at hv
        simp only [cond_true] at hv
        cases hb : s.box q with
        | none => rw [hb] at hv; exact h k v hv q' c' τ hr
        | some l => rw [hb] at hv; exact h k v hv q' c' τ hr
      | false =>
        rw [hc] at hv
        simp only [cond_false] at hv
        unfold St.updSlot at hv
        cases he : getA s.env q with
        | some e => rw [he] at hv; exact h k v hv q' c' τ hr
        | none =>
          rw [he] at hv
          cases hsl : getA s.sl q with
          | none => rw [hsl] at hv; exact h k v hv q' c' τ hr
          | some u =>
            rw [hsl] at hv
            simp only [getA_setA] at hv
            by_cases hk : k = q
            · rw [if_pos hk] at hv
              cases hv
              exact h q u hsl q' c' τ (refs_updSV hf hr)
            · rw [if_neg hk] at hv; exact h k v hv q' c' τ hr
    cases p with
    | take q c =>
      refine upd q c deadCT fun x k q s t e => ?_
      cases x with
      | «at» v t => cases e
      | ref => exact e
    | frz q c =>
      refine upd q c frzCT fun x k q s t e => ?_
      cases x with
      | «at» v t => cases t <;> cases e
      | ref => exact e
    | set q c v d =>
      refine upd q c (setCT v d) fun x k q s t e => ?_
      cases x with
      | ref => exact e
      | «at» v0 t0 =>
        have hb := blank_set v d (.at v0 t0)
        rw [e] at hb
        simp only [blankCT] at hb
        cases v0 <;> cases t0 <;> cases hb
    | box q l => exact h
    | cells q c l =>
      intro k v hv
      simp only [Prim.apply] at hv
      cases hb : s.box q with
      | none => rw [hb] at hv; exact h k v hv
      | some m => rw [hb] at hv; exact h k v hv
    | put d e => exact h

/-! ### The whole -/
theorem flat_mid {ops : Array Oper} {D : List OpD} {s : St} {B0 : Nat} {a : Act} {w : World} {γ : Gh} {β : Nat → Nat} (hf : Flat s) (r : Rel w0 wr nt ⟨B0, γ, β, s, a, w⟩) : Mid w0 wr nt ops D s ops.size B0 (fun _ => false) a w := by
  have e : prS D (fun _ => false) 0 ops.size = [] := prS_none D 0 _ fun _ _ _ => rfl
  refine ⟨⟨γ, β, by rw [e]; exact r, ?_⟩, fun k p hp => ?_, fun h c τ hr => ?_⟩
  · rw [e]
    intro k
    show (s.ent k).b = true ↔ Holds a (s.ent k).g
    rw [(hf.ent k).1, (hf.ent k).2]
    exact ⟨(fun _ p hp => by cases hp), fun _ => rfl⟩
  · rw [e] at hp
    have hp' : p ∈ (s.ent k).g := hp
    rw [(hf.ent k).1] at hp'; cases hp'
  · rw [e] at hr; exact absurd hr (hf.refs h c τ)

theorem stamps_spec {ops : Array Oper} {clock : Nat} {draw : Bool} {tr : List Tr} (h : stampsOk ops clock draw tr = true) {i : Nat} {t : Tr} (ht : tr[i]? = some t) {τ : Nat} (hτ : τ ∈ t.stamps) :
    τ ≤ clock ∨ τ = clock + i + 1 ∨ ∃ j, j < i ∧ τ = clock + j + 1 ∧ (draw = true → ((Region.before ops).getD i 0).testBit j = true) := by
  unfold stampsOk at h
  have hm : (t, i) ∈ tr.zipIdx := by
    rw [List.mem_iff_getElem?]
    exact ⟨i, by simp [List.getElem?_zipIdx, ht]⟩
  have := List.all_eq_true.1 (List.all_eq_true.1 h _ hm) τ hτ
  simp only [Bool.or_eq_true, Bool.and_eq_true, Bool.not_eq_true'] at this
  rcases this with h1 | h1 | ⟨h1, h2⟩
  · exact .inl (Nat.le_of_ble_eq_true h1)
  · exact .inr (.inl (Nat.eq_of_beq_eq_true h1))
  · have h1' : τ - clock - 1 < i := Nat.le_of_ble_eq_true h1
    by_cases hle : τ ≤ clock
    · exact .inl hle
    · refine .inr (.inr ⟨τ - clock - 1, h1', by omega, fun hd => ?_⟩)
      rcases h2 with h2 | h2
      · rw [hd] at h2; cases h2
      · exact h2
theorem draw_spec {ops : Array Oper} {tr : List Tr} (h : drawOk ops tr = true) {i j : Nat} {x y : Tr} (hi : tr[i]? = some x) (hj : tr[j]? = some y) (hlt : i < j) (hb : ((Region.before ops).getD j 0).testBit i = false) : clash x y = false := by
  unfold drawOk at h
  simp only [Bool.and_eq_true] at h
  have m1 : (x, i) ∈ tr.zipIdx := by rw [List.mem_iff_getElem?]; exact ⟨i, by simp [List.getElem?_zipIdx, hi]⟩
  have m2 : (y, j) ∈ tr.zipIdx := by rw [List.mem_iff_getElem?]; exact ⟨j, by simp [List.getElem?_zipIdx, hj]⟩
  have := List.all_eq_true.1 (List.all_eq_true.1 h.2 _ m2) _ m1
  simp only [Bool.or_eq_true, Bool.not_eq_true'] at this
  rcases this with h1 | h1 | h1
  · have : Nat.blt i j = true := Nat.ble_eq_true_of_le hlt
    rw [this] at h1; cases h1
  · exact h1
  · rw [hb] at h1; cases h1

theorem range_ok {T : Tab} {ρ : Nat → Option Fun} {fz : List Nat} {ops : Array Oper} {D : List OpD} {s0 : St} {B0 : Nat} (K : TabsOK P T ρ) (R : RegOK T ρ fz ops nt s0 D)
    (hst : ∀ (i : Nat) d, D[i]? = some d → ∀ τ ∈ d.tr.stamps, τ ≤ s0.clock ∨ τ = s0.clock + i + 1 ∨ ∃ j, j < i ∧ τ = s0.clock + j + 1) {Q : Exit → Act → World → Prop}
    (hQ : ∀ a w, Mid w0 wr nt ops D s0 ops.size B0 (fun j => decide (j < ops.size)) a w → Q .normal a w) :
    ∀ (m i : Nat) (a : Act) (w : World), i + m = ops.size → Mid w0 wr nt ops D s0 ops.size B0 (fun j => decide (j < i)) a w → wpOps P ops Q (List.range' i m) a w := by
  intro m
  induction m with
  | zero =>
    intro i a w hi M
    have : i = ops.size := by omega
    subst this
    exact hQ a w M
  | succ m ih =>
    intro i a w hi M
    rw [List.range'_succ, wpOps_cons]
    have hio : i < ops.size := by omega
    have ho : ops[i]? = some ops[i] := Array.getElem?_eq_getElem hio
    obtain ⟨d0, hd⟩ : ∃ d, D[i]? = some d := ⟨_, List.getElem?_eq_getElem (by rw [R.len]; exact hio)⟩
    refine step_ok K R M ho hd ⟨by simp, fun v u d e h1 h2 h3 _ _ _ => ?_, fun v e h1 h3 _ => ?_, fun u e h1 h2 _ => ?_, fun τ hτ => ?_⟩ fun a' w' M' => ih (i + 1) a' w' (by omega) ?_
    · simp at h3; omega
    · simp at h3; omega
    · simp at h2; omega
    · rcases hst i _ hd τ hτ with h | h | ⟨j, h1, h2⟩
      · exact .inl h
      · exact .inr (.inl h)
      · exact .inr (.inr ⟨j, by simp [h1], h2⟩)
    · have e : addS (fun j => decide (j < i)) i = fun j => decide (j < i + 1) := by
        funext j
        simp only [addS]
        by_cases hj : j = i
        · rw [if_pos hj, hj]; simp
        · rw [if_neg hj]
          by_cases h2 : j < i
          · simp [h2]; omega
          · simp [h2]; omega
      rw [e] at M'
      exact M'

end
end Go.AM
