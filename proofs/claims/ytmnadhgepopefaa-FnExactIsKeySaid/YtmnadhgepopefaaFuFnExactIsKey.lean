/- The functions that the law FnExactIsKey reaches, as typed functions with fuel; nothing is proved here. -/
import Derived.Test.YtmnadhgepopefaaAm3
namespace Go.AM
def laws_szItem (a : Item) (left : Int) : Option Int :=
 bif decide ((w64 (left - (a.text.size : Int))) < (0 : Int)) then
 some (-1 : Int)
 else some (w64 (left - (a.text.size : Int)))

def laws_szItemS_r0 (a_1 : (List Item)) (left_1 : Int) (i : Int) : Option (Round ((List Item) × Int × Int) Int) :=
 bif decide (i < (a_1.length : Int)) then
 chk (decide ((0 : Int) ≤ i) && decide (i < (a_1.length : Int))) <|
 (laws_szItem (a_1.getD (i).toNat zI) left_1).bind fun r1 =>
 bif decide (r1 < (0 : Int)) then
 some (.ret (-1 : Int))
 else some (.again (a_1, r1, w64 (i + (1 : Int))))
 else some (.stop (a_1, left_1, i))

def laws_szItemS_l0 (n : Nat) (x : ((List Item) × Int × Int)) : Option (((List Item) × Int × Int) ⊕ Int) :=
 iter (fun x => laws_szItemS_r0 x.1 x.2.1 x.2.2) n x

def laws_szItemS (n : Nat) (a : (List Item)) (left : Int) : Option Int :=
 bif decide ((w64 (left - (a.length : Int))) < (0 : Int)) then
 some (-1 : Int)
 else (laws_szItemS_l0 n (a, w64 (left - (a.length : Int)), (0 : Int))).bind fun r2 => lpK r2 (fun y3 =>
 some y3.2.1) (fun z4 => some z4)

def spec_l1In (x : Int) (low : Int) (high : Int) : Option Bool :=
 some (bif decide (x ≥ low) then decide (x ≤ high) else false)

def spec_l2Abs (n_ : Int) : Option Int :=
 bif decide (n_ < (0 : Int)) then
 some (w64 (0 - n_))
 else some n_

def spec_l2Gcd_r0 (x : Int) (y : Int) : Option (Round (Int × Int) Int) :=
 bif y != (0 : Int) then
 chk (!(y == (0 : Int))) <|
 some (.again (y, Int.tmod x y))
 else some (.stop (x, y))

def spec_l2Gcd_l0 (n : Nat) (x : (Int × Int)) : Option ((Int × Int) ⊕ Int) :=
 iter (fun x => spec_l2Gcd_r0 x.1 x.2) n x

def spec_l2Gcd (n : Nat) (a : Int) (b : Int) : Option Int :=
 (spec_l2Abs a).bind fun r1 =>
 (spec_l2Abs b).bind fun r2 =>
 (spec_l2Gcd_l0 n (r1, r2)).bind fun r3 => lpK r3 (fun y4 =>
 some y4.1) (fun z5 => some z5)

def spec_IsNumber (n : Nat) (x : Item) : Option Bool :=
 (bif (strEq x.text zS) then spec_l1In x.den (1 : Int) (999999999 : Int) else some false).bind fun r1 =>
 (bif (bif (strEq x.text zS) then r1 else false) then spec_l1In x.num (-999999999 : Int) (999999999 : Int) else some false).bind fun r2 =>
 (bif (bif (bif (strEq x.text zS) then r1 else false) then r2 else false) then spec_l2Gcd n x.num x.den else some (0 : Int)).bind fun r3 =>
 some (bif (bif (bif (strEq x.text zS) then r1 else false) then r2 else false) then r3 == (1 : Int) else false)

def laws_toItem (a : Item) : Option Item :=
 some a

def laws_toItemS_r0 (a_1 : (List Item)) (out : (List Item)) (i : Int) : Option (Round ((List Item) × (List Item) × Int) (List Item)) :=
 bif decide (i < (a_1.length : Int)) then
 chk (decide ((0 : Int) ≤ i) && decide (i < (a_1.length : Int))) <|
 (laws_toItem (a_1.getD (i).toNat zI)).bind fun r1 =>
 chk (decide ((0 : Int) ≤ i) && decide (i < (out.length : Int))) <|
 some (.again (a_1, (out.set (i).toNat r1), w64 (i + (1 : Int))))
 else some (.stop (a_1, out, i))

def laws_toItemS_l0 (n : Nat) (x : ((List Item) × (List Item) × Int)) : Option (((List Item) × (List Item) × Int) ⊕ (List Item)) :=
 iter (fun x => laws_toItemS_r0 x.1 x.2.1 x.2.2) n x

def laws_toItemS (n : Nat) (a : (List Item)) : Option (List Item) :=
 chk (decide ((0 : Int) ≤ (a.length : Int)) && (decide ((a.length : Int) ≤ (LIM : Int)) && (a.length : Int) == (a.length : Int))) <|
 (laws_toItemS_l0 n (a, (List.replicate ((a.length : Int)).toNat zI), (0 : Int))).bind fun r2 => lpK r2 (fun y3 =>
 some y3.2.1) (fun z4 => some z4)

def impl_gcd_r0 (a_2 : Int) (b_2 : Int) : Option (Round (Int × Int) Int) :=
 bif b_2 != (0 : Int) then
 chk (!(b_2 == (0 : Int))) <|
 some (.again (b_2, Int.tmod a_2 b_2))
 else some (.stop (a_2, b_2))

def impl_gcd_l0 (n : Nat) (x : (Int × Int)) : Option ((Int × Int) ⊕ Int) :=
 iter (fun x => impl_gcd_r0 x.1 x.2) n x

def impl_gcd_j2 (n : Nat) (a_1 : Int) (b_1 : Int) : Option Int :=
 (impl_gcd_l0 n (a_1, b_1)).bind fun r1 => lpK r1 (fun y2 =>
 some y2.1) (fun z3 => some z3)

def impl_gcd_j1 (n : Nat) (b : Int) (a_1 : Int) : Option Int :=
 bif decide (b < (0 : Int)) then
 impl_gcd_j2 n a_1 (w64 (0 - b))
 else impl_gcd_j2 n a_1 b

def impl_gcd (n : Nat) (a : Int) (b : Int) : Option Int :=
 bif decide (a < (0 : Int)) then
 impl_gcd_j1 n b (w64 (0 - a))
 else impl_gcd_j1 n b a

def impl_IsNumber (n : Nat) (x : Item) : Option Bool :=
 (bif (bif (bif (bif (bif (strEq x.text zS) then decide (x.den ≥ (1 : Int)) else false) then decide (x.den ≤ (999999999 : Int)) else false) then decide (x.num ≥ (-999999999 : Int)) else false) then decide (x.num ≤ (999999999 : Int)) else false) then impl_gcd n x.num x.den else some (0 : Int)).bind fun r1 =>
 some (bif (bif (bif (bif (bif (strEq x.text zS) then decide (x.den ≥ (1 : Int)) else false) then decide (x.den ≤ (999999999 : Int)) else false) then decide (x.num ≥ (-999999999 : Int)) else false) then decide (x.num ≤ (999999999 : Int)) else false) then r1 == (1 : Int) else false)

def laws_eqItem (a : Item) (b : Item) : Option Bool :=
 bif a.num != b.num then
 some false
 else bif a.den != b.den then
 some false
 else bif !(strEq a.text b.text) then
 some false
 else some true

def laws_eqItemS_r0 (a_1 : (List Item)) (b_1 : (List Item)) (i : Int) : Option (Round ((List Item) × (List Item) × Int) Bool) :=
 bif decide (i < (a_1.length : Int)) then
 chk (decide ((0 : Int) ≤ i) && decide (i < (a_1.length : Int))) <|
 chk (decide ((0 : Int) ≤ i) && decide (i < (b_1.length : Int))) <|
 (laws_eqItem (a_1.getD (i).toNat zI) (b_1.getD (i).toNat zI)).bind fun r1 =>
 bif !r1 then
 some (.ret false)
 else some (.again (a_1, b_1, w64 (i + (1 : Int))))
 else some (.stop (a_1, b_1, i))

def laws_eqItemS_l0 (n : Nat) (x : ((List Item) × (List Item) × Int)) : Option (((List Item) × (List Item) × Int) ⊕ Bool) :=
 iter (fun x => laws_eqItemS_r0 x.1 x.2.1 x.2.2) n x

def laws_eqItemS (n : Nat) (a : (List Item)) (b : (List Item)) : Option Bool :=
 bif (a.length : Int) != (b.length : Int) then
 some false
 else (laws_eqItemS_l0 n (a, b, (0 : Int))).bind fun r2 => lpK r2 (fun _ =>
 some true) (fun z4 => some z4)

def laws_szStringS_r0 (a_1 : (List ByteArray)) (left_1 : Int) (i : Int) : Option (Round ((List ByteArray) × Int × Int) Int) :=
 bif decide (i < (a_1.length : Int)) then
 chk (decide ((0 : Int) ≤ i) && decide (i < (a_1.length : Int))) <|
 bif decide ((w64 (left_1 - ((a_1.getD (i).toNat zS).size : Int))) < (0 : Int)) then
 some (.ret (-1 : Int))
 else some (.again (a_1, w64 (left_1 - ((a_1.getD (i).toNat zS).size : Int)), w64 (i + (1 : Int))))
 else some (.stop (a_1, left_1, i))

def laws_szStringS_l0 (n : Nat) (x : ((List ByteArray) × Int × Int)) : Option (((List ByteArray) × Int × Int) ⊕ Int) :=
 iter (fun x => laws_szStringS_r0 x.1 x.2.1 x.2.2) n x

def laws_szStringS (n : Nat) (a : (List ByteArray)) (left : Int) : Option Int :=
 bif decide ((w64 (left - (a.length : Int))) < (0 : Int)) then
 some (-1 : Int)
 else (laws_szStringS_l0 n (a, w64 (left - (a.length : Int)), (0 : Int))).bind fun r1 => lpK r1 (fun y2 =>
 some y2.2.1) (fun z3 => some z3)

def laws_szVector_b (_ : (Vec → Int → Option Int)) (rec_laws_szVectorS : ((List Vec) → Int → Option Int)) (n : Nat) (a : Vec) (left : Int) : Option Int :=
 (laws_szItemS n a.items left).bind fun r1 =>
 bif decide (r1 < (0 : Int)) then
 some (-1 : Int)
 else (rec_laws_szVectorS a.parts r1).bind fun r2 =>
 bif decide (r2 < (0 : Int)) then
 some (-1 : Int)
 else (laws_szStringS n a.names r2).bind fun r3 =>
 bif decide (r3 < (0 : Int)) then
 some (-1 : Int)
 else (laws_szStringS n a.cls r3).bind fun r4 =>
 bif decide (r4 < (0 : Int)) then
 some (-1 : Int)
 else (laws_szStringS n a.levels r4).bind fun r5 =>
 bif decide (r5 < (0 : Int)) then
 some (-1 : Int)
 else some r5

def laws_szVectorS_r0 (rec_laws_szVector : (Vec → Int → Option Int)) (a_1 : (List Vec)) (left_1 : Int) (i : Int) : Option (Round ((List Vec) × Int × Int) Int) :=
 bif decide (i < (a_1.length : Int)) then
 chk (decide ((0 : Int) ≤ i) && decide (i < (a_1.length : Int))) <|
 (rec_laws_szVector ((a_1.getD (i).toNat zV).re) left_1).bind fun r1 =>
 bif decide (r1 < (0 : Int)) then
 some (.ret (-1 : Int))
 else some (.again (a_1, r1, w64 (i + (1 : Int))))
 else some (.stop (a_1, left_1, i))

def laws_szVectorS_l0 (rec_laws_szVector : (Vec → Int → Option Int)) (n : Nat) (x : ((List Vec) × Int × Int)) : Option (((List Vec) × Int × Int) ⊕ Int) :=
 iter (fun x => laws_szVectorS_r0 rec_laws_szVector x.1 x.2.1 x.2.2) n x

def laws_szVectorS_b (rec_laws_szVector : (Vec → Int → Option Int)) (_ : ((List Vec) → Int → Option Int)) (n : Nat) (a : (List Vec)) (left : Int) : Option Int :=
 bif decide ((w64 (left - (a.length : Int))) < (0 : Int)) then
 some (-1 : Int)
 else (laws_szVectorS_l0 rec_laws_szVector n (a, w64 (left - (a.length : Int)), (0 : Int))).bind fun r2 => lpK r2 (fun y3 =>
 some y3.2.1) (fun z4 => some z4)

def laws_szVector_laws_szVectorS : Nat → (Vec → Int → Option Int) × ((List Vec) → Int → Option Int)
 | 0 => (fun _ _ => none, fun _ _ => none)
 | n + 1 => (laws_szVector_b (laws_szVector_laws_szVectorS n).1 (laws_szVector_laws_szVectorS n).2 n, laws_szVectorS_b (laws_szVector_laws_szVectorS n).1 (laws_szVector_laws_szVectorS n).2 n)

def laws_szVector (n : Nat) : Vec → Int → Option Int := (laws_szVector_laws_szVectorS n).1

def laws_szVectorS (n : Nat) : (List Vec) → Int → Option Int := (laws_szVector_laws_szVectorS n).2

def spec_l1Find_r0 (list_1 : (List ByteArray)) (s_1 : ByteArray) (i : Int) : Option (Round ((List ByteArray) × ByteArray × Int) Int) :=
 bif decide (i < (list_1.length : Int)) then
 chk (decide ((0 : Int) ≤ i) && decide (i < (list_1.length : Int))) <|
 bif (strEq (list_1.getD (i).toNat zS) s_1) then
 some (.ret i)
 else some (.again (list_1, s_1, w64 (i + (1 : Int))))
 else some (.stop (list_1, s_1, i))

def spec_l1Find_l0 (n : Nat) (x : ((List ByteArray) × ByteArray × Int)) : Option (((List ByteArray) × ByteArray × Int) ⊕ Int) :=
 iter (fun x => spec_l1Find_r0 x.1 x.2.1 x.2.2) n x

def spec_l1Find (n : Nat) (list : (List ByteArray)) (s : ByteArray) : Option Int :=
 (spec_l1Find_l0 n (list, s, (0 : Int))).bind fun r1 => lpK r1 (fun _ =>
 some (-1 : Int)) (fun z3 => some z3)

def spec_l4Labels_r0 (n : Nat) (list_1 : (List ByteArray)) (most_1 : Int) (i : Int) : Option (Round ((List ByteArray) × Int × Int) Bool) :=
 bif (bif decide (i < (list_1.length : Int)) then decide (i ≤ most_1) else false) then
 chk (decide ((0 : Int) ≤ i) && decide (i < (list_1.length : Int))) <|
 chk ((!(!(strEq (list_1.getD (i).toNat zS) zS))) || (decide ((0 : Int) ≤ i) && decide (i < (list_1.length : Int)))) <|
 chk ((!(!(bif (strEq (list_1.getD (i).toNat zS) zS) then true else decide (((list_1.getD (i).toNat zS).size : Int) > (60 : Int))))) || (decide ((0 : Int) ≤ i) && decide (i < (list_1.length : Int)))) <|
 (bif !(bif (strEq (list_1.getD (i).toNat zS) zS) then true else decide (((list_1.getD (i).toNat zS).size : Int) > (60 : Int))) then spec_l1Find n list_1 (list_1.getD (i).toNat zS) else some (0 : Int)).bind fun r1 =>
 bif (bif (bif (strEq (list_1.getD (i).toNat zS) zS) then true else decide (((list_1.getD (i).toNat zS).size : Int) > (60 : Int))) then true else decide (r1 < i)) then
 some (.ret false)
 else some (.again (list_1, most_1, w64 (i + (1 : Int))))
 else some (.stop (list_1, most_1, i))

def spec_l4Labels_l0 (n : Nat) (x : ((List ByteArray) × Int × Int)) : Option (((List ByteArray) × Int × Int) ⊕ Bool) :=
 iter (fun x => spec_l4Labels_r0 n x.1 x.2.1 x.2.2) n x

def spec_l4Labels (n : Nat) (list : (List ByteArray)) (most : Int) : Option Bool :=
 (spec_l4Labels_l0 n (list, most, (0 : Int))).bind fun r2 => lpK r2 (fun y3 =>
 some (decide ((y3.1.length : Int) ≤ y3.2.1))) (fun z4 => some z4)

def spec_l4Len (v : Vec) : Option Int :=
 bif v.kind == (5 : Int) then
 some (1 : Int)
 else some (w64 ((v.items.length : Int) + (v.parts.length : Int)))

def spec_l4Named_r0 (list_1 : (List ByteArray)) (some_ : Bool) (i : Int) : Option (Round ((List ByteArray) × Bool × Int) Bool) :=
 bif decide (i < (list_1.length : Int)) then
 chk (decide ((0 : Int) ≤ i) && decide (i < (list_1.length : Int))) <|
 bif decide (((list_1.getD (i).toNat zS).size : Int) > (60 : Int)) then
 some (.ret false)
 else chk ((!(!some_)) || (decide ((0 : Int) ≤ i) && decide (i < (list_1.length : Int)))) <|
 some (.again (list_1, (bif some_ then true else !(strEq (list_1.getD (i).toNat zS) zS)), w64 (i + (1 : Int))))
 else some (.stop (list_1, some_, i))

def spec_l4Named_l0 (n : Nat) (x : ((List ByteArray) × Bool × Int)) : Option (((List ByteArray) × Bool × Int) ⊕ Bool) :=
 iter (fun x => spec_l4Named_r0 x.1 x.2.1 x.2.2) n x

def spec_l4Named (n : Nat) (list : (List ByteArray)) : Option Bool :=
 (spec_l4Named_l0 n (list, (list.length : Int) == (0 : Int), (0 : Int))).bind fun r1 => lpK r1 (fun y2 =>
 some y2.2.1) (fun z3 => some z3)

def spec_l4Item (n : Nat) (kind : Int) (x : Item) : Option Bool :=
 bif (itemEq x (⟨(0 : Int), (0 : Int), zS⟩ : Item)) then
 some true
 else bif kind == (1 : Int) then
 (bif x.den == (1 : Int) then spec_l1In x.num (0 : Int) (1 : Int) else some false).bind fun r1 =>
 some (bif (bif x.den == (1 : Int) then r1 else false) then (strEq x.text zS) else false)
 else bif kind == (2 : Int) then
 (spec_IsNumber n x).bind fun r2 =>
 some r2
 else some (bif (bif (bif kind == (3 : Int) then x.num == (0 : Int) else false) then x.den == (1 : Int) else false) then decide ((x.text.size : Int) ≤ (60 : Int)) else false)

def spec_l4Is_r0 (n : Nat) (nest_1 : Int) (v_1 : Vec) (i : Int) : Option (Round (Int × Vec × Int) Bool) :=
 bif decide (i < (v_1.items.length : Int)) then
 chk (decide ((0 : Int) ≤ i) && decide (i < (v_1.items.length : Int))) <|
 (spec_l4Item n v_1.kind (v_1.items.getD (i).toNat zI)).bind fun r8 =>
 (bif ((!(!r8)) && (bif decide ((v_1.levels.length : Int) > (0 : Int)) then ((v_1.items.getD (i).toNat zI).den) != (0 : Int) else false)) && (!(((v_1.items.getD (i).toNat zI).den) != (1 : Int))) then spec_l1In ((v_1.items.getD (i).toNat zI).num) (1 : Int) (v_1.levels.length : Int) else some false).bind fun r9 =>
 bif (bif !r8 then true else (bif (bif decide ((v_1.levels.length : Int) > (0 : Int)) then ((v_1.items.getD (i).toNat zI).den) != (0 : Int) else false) then (bif ((v_1.items.getD (i).toNat zI).den) != (1 : Int) then true else !r9) else false)) then
 some (.ret false)
 else some (.again (nest_1, v_1.re, w64 (i + (1 : Int))))
 else some (.stop (nest_1, v_1.re, i))

def spec_l4Is_l0 (n : Nat) (x : (Int × Vec × Int)) : Option ((Int × Vec × Int) ⊕ Bool) :=
 iter (fun x => spec_l4Is_r0 n x.1 x.2.1 x.2.2) n x

def spec_l4Is_r2 (rec_spec_l4Is : (Vec → Int → Option Bool)) (nest_2 : Int) (v_2 : Vec) (i_1 : Int) : Option (Round (Int × Vec × Int) Bool) :=
 bif decide (i_1 < (v_2.parts.length : Int)) then
 chk ((!(!(nest_2 == (0 : Int)))) || (decide ((0 : Int) ≤ i_1) && decide (i_1 < (v_2.parts.length : Int)))) <|
 (bif !(nest_2 == (0 : Int)) then rec_spec_l4Is ((v_2.parts.getD (i_1).toNat zV).re) (w64 (nest_2 - (1 : Int))) else some false).bind fun r13 =>
 bif (bif nest_2 == (0 : Int) then true else !r13) then
 some (.ret false)
 else some (.again (nest_2, v_2.re, w64 (i_1 + (1 : Int))))
 else some (.stop (nest_2, v_2.re, i_1))

def spec_l4Is_l2 (rec_spec_l4Is : (Vec → Int → Option Bool)) (n : Nat) (x : (Int × Vec × Int)) : Option ((Int × Vec × Int) ⊕ Bool) :=
 iter (fun x => spec_l4Is_r2 rec_spec_l4Is x.1 x.2.1 x.2.2) n x

def spec_l4Is_b (rec_spec_l4Is : (Vec → Int → Option Bool)) (n : Nat) (v : Vec) (nest : Int) : Option Bool :=
 (spec_l4Len v.re).bind fun r1 =>
 (spec_l1In v.kind (0 : Int) (5 : Int)).bind fun r2 =>
 (bif !(bif (bif !r2 then true else decide (r1 > (40 : Int))) then true else (bif (v.names.length : Int) != (0 : Int) then (v.names.length : Int) != r1 else false)) then spec_l4Named n v.names else some false).bind fun r3 =>
 (bif !(bif (bif (bif !r2 then true else decide (r1 > (40 : Int))) then true else (bif (v.names.length : Int) != (0 : Int) then (v.names.length : Int) != r1 else false)) then true else !r3) then spec_l4Labels n v.cls (3 : Int) else some false).bind fun r4 =>
 (bif !(bif (bif (bif (bif !r2 then true else decide (r1 > (40 : Int))) then true else (bif (v.names.length : Int) != (0 : Int) then (v.names.length : Int) != r1 else false)) then true else !r3) then true else !r4) then spec_l4Labels n v.levels (20 : Int) else some false).bind fun r5 =>
 bif (bif (bif (bif (bif (bif !r2 then true else decide (r1 > (40 : Int))) then true else (bif (v.names.length : Int) != (0 : Int) then (v.names.length : Int) != r1 else false)) then true else !r3) then true else !r4) then true else !r5) then
 some false
 else bif (bif (bif (bif v.kind != (5 : Int) then (bif v.code != (0 : Int) then true else v.env != (0 : Int)) else false) then true else (bif v.kind != (2 : Int) then decide ((v.levels.length : Int) > (0 : Int)) else false)) then true else (bif v.kind != (4 : Int) then decide ((v.parts.length : Int) > (0 : Int)) else false)) then
 some false
 else bif v.kind == (5 : Int) then
 (bif (bif (v.items.length : Int) == (0 : Int) then (v.names.length : Int) == (0 : Int) else false) then spec_l1In v.code (-999 : Int) (99999 : Int) else some false).bind fun r6 =>
 (bif (bif (bif (v.items.length : Int) == (0 : Int) then (v.names.length : Int) == (0 : Int) else false) then r6 else false) then spec_l1In v.env (0 : Int) (99999 : Int) else some false).bind fun r7 =>
 some (bif (bif (bif (v.items.length : Int) == (0 : Int) then (v.names.length : Int) == (0 : Int) else false) then r6 else false) then r7 else false)
 else bif v.kind == (0 : Int) then
 some (bif r1 == (0 : Int) then (v.cls.length : Int) == (0 : Int) else false)
 else bif (bif v.kind == (4 : Int) then decide ((v.items.length : Int) > (0 : Int)) else false) then
 some false
 else (spec_l4Is_l0 n (nest, v.re, (0 : Int))).bind fun r10 => lpK r10 (fun y11 =>
 (spec_l4Is_l2 rec_spec_l4Is n (y11.1, y11.2.1.re, (0 : Int))).bind fun r14 => lpK r14 (fun _ =>
 some true) (fun z16 => some z16)) (fun z12 => some z12)

def spec_l4Is : Nat → Vec → Int → Option Bool
 | 0 => fun _ _ => none
 | n + 1 => spec_l4Is_b (spec_l4Is n) n

def spec_l4Cells_r0 (rec_spec_l4Cells : (Vec → Option Int)) (v_1 : Vec) (n_ : Int) (i : Int) : Option (Round (Vec × Int × Int) Int) :=
 bif decide (i < (v_1.parts.length : Int)) then
 chk (decide ((0 : Int) ≤ i) && decide (i < (v_1.parts.length : Int))) <|
 (rec_spec_l4Cells ((v_1.parts.getD (i).toNat zV).re)).bind fun r2 =>
 some (.again (v_1.re, w64 (n_ + r2), w64 (i + (1 : Int))))
 else some (.stop (v_1.re, n_, i))

def spec_l4Cells_l0 (rec_spec_l4Cells : (Vec → Option Int)) (n : Nat) (x : (Vec × Int × Int)) : Option ((Vec × Int × Int) ⊕ Int) :=
 iter (fun x => spec_l4Cells_r0 rec_spec_l4Cells x.1 x.2.1 x.2.2) n x

def spec_l4Cells_b (rec_spec_l4Cells : (Vec → Option Int)) (n : Nat) (v : Vec) : Option Int :=
 (spec_l4Len v.re).bind fun r1 =>
 (spec_l4Cells_l0 rec_spec_l4Cells n (v.re, r1, (0 : Int))).bind fun r3 => lpK r3 (fun y4 =>
 some y4.2.1) (fun z5 => some z5)

def spec_l4Cells : Nat → Vec → Option Int
 | 0 => fun _ => none
 | n + 1 => spec_l4Cells_b (spec_l4Cells n) n

def spec_IsVector (n : Nat) (v : Vec) : Option Bool :=
 (spec_l4Is n v.re (3 : Int)).bind fun r1 =>
 (bif r1 then spec_l4Cells n v.re else some (0 : Int)).bind fun r2 =>
 some (bif r1 then decide (r2 ≤ (200 : Int)) else false)

def spec_IsFactor (n : Nat) (v : Vec) : Option Bool :=
 (spec_IsVector n v.re).bind fun r1 =>
 chk ((!(bif (bif r1 then decide ((v.levels.length : Int) > (0 : Int)) else false) then (v.cls.length : Int) == (1 : Int) else false)) || (decide ((0 : Int) ≤ (0 : Int)) && decide ((0 : Int) < (v.cls.length : Int)))) <|
 some (bif (bif (bif r1 then decide ((v.levels.length : Int) > (0 : Int)) else false) then (v.cls.length : Int) == (1 : Int) else false) then (strEq (v.cls.getD ((0 : Int)).toNat zS) (⟨#[102, 97, 99, 116, 111, 114]⟩ : ByteArray)) else false)

def laws_toStringS_r0 (a_1 : (List ByteArray)) (out : (List ByteArray)) (i : Int) : Option (Round ((List ByteArray) × (List ByteArray) × Int) (List ByteArray)) :=
 bif decide (i < (a_1.length : Int)) then
 chk (decide ((0 : Int) ≤ i) && decide (i < (a_1.length : Int))) <|
 chk (decide ((0 : Int) ≤ i) && decide (i < (out.length : Int))) <|
 some (.again (a_1, (out.set (i).toNat (a_1.getD (i).toNat zS)), w64 (i + (1 : Int))))
 else some (.stop (a_1, out, i))

def laws_toStringS_l0 (n : Nat) (x : ((List ByteArray) × (List ByteArray) × Int)) : Option (((List ByteArray) × (List ByteArray) × Int) ⊕ (List ByteArray)) :=
 iter (fun x => laws_toStringS_r0 x.1 x.2.1 x.2.2) n x

def laws_toStringS (n : Nat) (a : (List ByteArray)) : Option (List ByteArray) :=
 chk (decide ((0 : Int) ≤ (a.length : Int)) && (decide ((a.length : Int) ≤ (LIM : Int)) && (a.length : Int) == (a.length : Int))) <|
 (laws_toStringS_l0 n (a, (List.replicate ((a.length : Int)).toNat zS), (0 : Int))).bind fun r1 => lpK r1 (fun y2 =>
 some y2.2.1) (fun z3 => some z3)

def laws_toVector_b (_ : (Vec → Option Vec)) (rec_laws_toVectorS : ((List Vec) → Option (List Vec))) (n : Nat) (a : Vec) : Option Vec :=
 (laws_toItemS n a.items).bind fun r1 =>
 (rec_laws_toVectorS a.parts).bind fun r2 =>
 (laws_toStringS n a.names).bind fun r3 =>
 (laws_toStringS n a.cls).bind fun r4 =>
 (laws_toStringS n a.levels).bind fun r5 =>
 some (⟨a.kind, r1, r2, r3, r4, r5, a.code, a.env⟩ : Vec)

def laws_toVectorS_r0 (rec_laws_toVector : (Vec → Option Vec)) (a_1 : (List Vec)) (out : (List Vec)) (i : Int) : Option (Round ((List Vec) × (List Vec) × Int) (List Vec)) :=
 bif decide (i < (a_1.length : Int)) then
 chk (decide ((0 : Int) ≤ i) && decide (i < (a_1.length : Int))) <|
 (rec_laws_toVector ((a_1.getD (i).toNat zV).re)).bind fun r1 =>
 chk (decide ((0 : Int) ≤ i) && decide (i < (out.length : Int))) <|
 some (.again (a_1, (out.set (i).toNat r1.re), w64 (i + (1 : Int))))
 else some (.stop (a_1, out, i))

def laws_toVectorS_l0 (rec_laws_toVector : (Vec → Option Vec)) (n : Nat) (x : ((List Vec) × (List Vec) × Int)) : Option (((List Vec) × (List Vec) × Int) ⊕ (List Vec)) :=
 iter (fun x => laws_toVectorS_r0 rec_laws_toVector x.1 x.2.1 x.2.2) n x

def laws_toVectorS_b (rec_laws_toVector : (Vec → Option Vec)) (_ : ((List Vec) → Option (List Vec))) (n : Nat) (a : (List Vec)) : Option (List Vec) :=
 chk (decide ((0 : Int) ≤ (a.length : Int)) && (decide ((a.length : Int) ≤ (LIM : Int)) && (a.length : Int) == (a.length : Int))) <|
 (laws_toVectorS_l0 rec_laws_toVector n (a, (List.replicate ((a.length : Int)).toNat zV), (0 : Int))).bind fun r2 => lpK r2 (fun y3 =>
 some y3.2.1) (fun z4 => some z4)

def laws_toVector_laws_toVectorS : Nat → (Vec → Option Vec) × ((List Vec) → Option (List Vec))
 | 0 => (fun _ => none, fun _ => none)
 | n + 1 => (laws_toVector_b (laws_toVector_laws_toVectorS n).1 (laws_toVector_laws_toVectorS n).2 n, laws_toVectorS_b (laws_toVector_laws_toVectorS n).1 (laws_toVector_laws_toVectorS n).2 n)

def laws_toVector (n : Nat) : Vec → Option Vec := (laws_toVector_laws_toVectorS n).1

def laws_toVectorS (n : Nat) : (List Vec) → Option (List Vec) := (laws_toVector_laws_toVectorS n).2

def impl_nest_r0 (rec_impl_nest : (Vec → Int → Option Int)) (room_1 : Int) (out : Int) (t11 : (List Vec)) (t12 : Int) (t13 : Int) : Option (Round (Int × Int × (List Vec) × Int × Int) Int) :=
 bif decide (t13 < t12) then
 chk (decide ((0 : Int) ≤ t13) && decide (t13 < (t11.length : Int))) <|
 (rec_impl_nest ((t11.getD (t13).toNat zV).re) (w64 (room_1 - (1 : Int)))).bind fun r1 =>
 some (.again (room_1, (if w64 ((1 : Int) + r1) > out then w64 ((1 : Int) + r1) else out), t11, t12, w64 (t13 + (1 : Int))))
 else some (.stop (room_1, out, t11, t12, t13))

def impl_nest_l0 (rec_impl_nest : (Vec → Int → Option Int)) (n : Nat) (x : (Int × Int × (List Vec) × Int × Int)) : Option ((Int × Int × (List Vec) × Int × Int) ⊕ Int) :=
 iter (fun x => impl_nest_r0 rec_impl_nest x.1 x.2.1 x.2.2.1 x.2.2.2.1 x.2.2.2.2) n x

def impl_nest_b (rec_impl_nest : (Vec → Int → Option Int)) (n : Nat) (v : Vec) (room : Int) : Option Int :=
 bif room == (0 : Int) then
 some (1 : Int)
 else (impl_nest_l0 rec_impl_nest n (room, (0 : Int), v.parts, (v.parts.length : Int), (0 : Int))).bind fun r2 => lpK r2 (fun y3 =>
 some y3.2.1) (fun z4 => some z4)

def impl_nest : Nat → Vec → Int → Option Int
 | 0 => fun _ _ => none
 | n + 1 => impl_nest_b (impl_nest n) n

def impl_isAtomic (v : Vec) : Option Bool :=
 some (bif (bif v.kind == (1 : Int) then true else v.kind == (2 : Int)) then true else v.kind == (3 : Int))

def impl_length (v : Vec) : Option Int :=
 bif v.kind == (5 : Int) then
 some (1 : Int)
 else some (w64 ((v.items.length : Int) + (v.parts.length : Int)))

def impl_isMissing (x : Item) : Option Bool :=
 some (itemEq x (⟨(0 : Int), (0 : Int), zS⟩ : Item))

def impl_textIndex_r0 (s_1 : ByteArray) (t7 : (List ByteArray)) (t8 : Int) (t9 : Int) : Option (Round (ByteArray × (List ByteArray) × Int × Int) Int) :=
 bif decide (t9 < t8) then
 chk (decide ((0 : Int) ≤ t9) && decide (t9 < (t7.length : Int))) <|
 bif (strEq (t7.getD (t9).toNat zS) s_1) then
 some (.ret t9)
 else some (.again (s_1, t7, t8, w64 (t9 + (1 : Int))))
 else some (.stop (s_1, t7, t8, t9))

def impl_textIndex_l0 (n : Nat) (x : (ByteArray × (List ByteArray) × Int × Int)) : Option ((ByteArray × (List ByteArray) × Int × Int) ⊕ Int) :=
 iter (fun x => impl_textIndex_r0 x.1 x.2.1 x.2.2.1 x.2.2.2) n x

def impl_textIndex (n : Nat) (list : (List ByteArray)) (s : ByteArray) : Option Int :=
 (impl_textIndex_l0 n (s, list, (list.length : Int), (0 : Int))).bind fun r1 => lpK r1 (fun _ =>
 some (-1 : Int)) (fun z3 => some z3)

def impl_hasText (n : Nat) (list : (List ByteArray)) (s : ByteArray) : Option Bool :=
 (impl_textIndex n list s).bind fun r1 =>
 some (decide (r1 ≥ (0 : Int)))

def impl_labelsValid_r0 (n : Nat) (list_1 : (List ByteArray)) (t11 : (List ByteArray)) (t12 : Int) (t13 : Int) : Option (Round ((List ByteArray) × (List ByteArray) × Int × Int) Bool) :=
 bif decide (t13 < t12) then
 chk (decide ((0 : Int) ≤ t13) && decide (t13 < (t11.length : Int))) <|
 chk ((!(!(bif (strEq (t11.getD (t13).toNat zS) zS) then true else decide (((t11.getD (t13).toNat zS).size : Int) > (60 : Int))))) || (decide ((0 : Int) ≤ t13) && (decide (t13 ≤ (list_1.length : Int)) && (decide ((0 : Int) ≤ (0 : Int)) && decide ((0 : Int) ≤ t13))))) <|
 (bif !(bif (strEq (t11.getD (t13).toNat zS) zS) then true else decide (((t11.getD (t13).toNat zS).size : Int) > (60 : Int))) then impl_hasText n ((list_1.take (t13).toNat).drop ((0 : Int)).toNat) (t11.getD (t13).toNat zS) else some false).bind fun r1 =>
 bif (bif (bif (strEq (t11.getD (t13).toNat zS) zS) then true else decide (((t11.getD (t13).toNat zS).size : Int) > (60 : Int))) then true else r1) then
 some (.ret false)
 else some (.again (list_1, t11, t12, w64 (t13 + (1 : Int))))
 else some (.stop (list_1, t11, t12, t13))

def impl_labelsValid_l0 (n : Nat) (x : ((List ByteArray) × (List ByteArray) × Int × Int)) : Option (((List ByteArray) × (List ByteArray) × Int × Int) ⊕ Bool) :=
 iter (fun x => impl_labelsValid_r0 n x.1 x.2.1 x.2.2.1 x.2.2.2) n x

def impl_labelsValid (n : Nat) (list : (List ByteArray)) (most : Int) : Option Bool :=
 bif decide ((list.length : Int) > most) then
 some false
 else (impl_labelsValid_l0 n (list, list, (list.length : Int), (0 : Int))).bind fun r2 => lpK r2 (fun _ =>
 some true) (fun z4 => some z4)

def impl_allEmpty_r0 (t5 : (List ByteArray)) (t6 : Int) (t7 : Int) : Option (Round ((List ByteArray) × Int × Int) Bool) :=
 bif decide (t7 < t6) then
 chk (decide ((0 : Int) ≤ t7) && decide (t7 < (t5.length : Int))) <|
 bif !(strEq (t5.getD (t7).toNat zS) zS) then
 some (.ret false)
 else some (.again (t5, t6, w64 (t7 + (1 : Int))))
 else some (.stop (t5, t6, t7))

def impl_allEmpty_l0 (n : Nat) (x : ((List ByteArray) × Int × Int)) : Option (((List ByteArray) × Int × Int) ⊕ Bool) :=
 iter (fun x => impl_allEmpty_r0 x.1 x.2.1 x.2.2) n x

def impl_allEmpty (n : Nat) (list : (List ByteArray)) : Option Bool :=
 (impl_allEmpty_l0 n (list, (list.length : Int), (0 : Int))).bind fun r1 => lpK r1 (fun _ =>
 some true) (fun z3 => some z3)

def impl_itemValid (n : Nat) (kind : Int) (x : Item) : Option Bool :=
 (impl_isMissing x).bind fun r1 =>
 bif r1 then
 some true
 else bif kind == (1 : Int) then
 some (bif (bif (strEq x.text zS) then x.den == (1 : Int) else false) then (bif x.num == (0 : Int) then true else x.num == (1 : Int)) else false)
 else bif kind == (2 : Int) then
 (impl_IsNumber n x).bind fun r2 =>
 some r2
 else bif kind == (3 : Int) then
 some (bif (bif x.num == (0 : Int) then x.den == (1 : Int) else false) then decide ((x.text.size : Int) ≤ (60 : Int)) else false)
 else some false

def impl_shapeValid_r0 (v_1 : Vec) (t51 : (List ByteArray)) (t52 : Int) (t53 : Int) : Option (Round (Vec × (List ByteArray) × Int × Int) Bool) :=
 bif decide (t53 < t52) then
 chk (decide ((0 : Int) ≤ t53) && decide (t53 < (t51.length : Int))) <|
 bif decide (((t51.getD (t53).toNat zS).size : Int) > (60 : Int)) then
 some (.ret false)
 else some (.again (v_1.re, t51, t52, w64 (t53 + (1 : Int))))
 else some (.stop (v_1.re, t51, t52, t53))

def impl_shapeValid_l0 (n : Nat) (x : (Vec × (List ByteArray) × Int × Int)) : Option ((Vec × (List ByteArray) × Int × Int) ⊕ Bool) :=
 iter (fun x => impl_shapeValid_r0 x.1 x.2.1 x.2.2.1 x.2.2.2) n x

def impl_shapeValid_r2 (n : Nat) (v_2 : Vec) (t145 : (List Item)) (t146 : Int) (t147 : Int) : Option (Round (Vec × (List Item) × Int × Int) Bool) :=
 bif decide (t147 < t146) then
 chk (decide ((0 : Int) ≤ t147) && decide (t147 < (t145.length : Int))) <|
 (impl_isAtomic v_2.re).bind fun r8 =>
 (bif !(!r8) then impl_itemValid n v_2.kind (t145.getD (t147).toNat zI) else some false).bind fun r9 =>
 bif (bif !r8 then true else !r9) then
 some (.ret false)
 else (bif decide ((v_2.levels.length : Int) > (0 : Int)) then impl_isMissing (t145.getD (t147).toNat zI) else some false).bind fun r10 =>
 bif (bif (bif decide ((v_2.levels.length : Int) > (0 : Int)) then !r10 else false) then (bif (bif ((t145.getD (t147).toNat zI).den) != (1 : Int) then true else decide (((t145.getD (t147).toNat zI).num) < (1 : Int))) then true else decide (((t145.getD (t147).toNat zI).num) > (v_2.levels.length : Int))) else false) then
 some (.ret false)
 else some (.again (v_2.re, t145, t146, w64 (t147 + (1 : Int))))
 else some (.stop (v_2.re, t145, t146, t147))

def impl_shapeValid_l2 (n : Nat) (x : (Vec × (List Item) × Int × Int)) : Option ((Vec × (List Item) × Int × Int) ⊕ Bool) :=
 iter (fun x => impl_shapeValid_r2 n x.1 x.2.1 x.2.2.1 x.2.2.2) n x

def impl_shapeValid (n : Nat) (v : Vec) : Option Bool :=
 (impl_length v.re).bind fun r1 =>
 (bif !(bif (bif decide (v.kind < (0 : Int)) then true else decide (v.kind > (5 : Int))) then true else decide (r1 > (40 : Int))) then impl_labelsValid n v.cls (3 : Int) else some false).bind fun r2 =>
 (bif !(bif (bif (bif decide (v.kind < (0 : Int)) then true else decide (v.kind > (5 : Int))) then true else decide (r1 > (40 : Int))) then true else !r2) then impl_labelsValid n v.levels (20 : Int) else some false).bind fun r3 =>
 bif (bif (bif (bif (bif decide (v.kind < (0 : Int)) then true else decide (v.kind > (5 : Int))) then true else decide (r1 > (40 : Int))) then true else !r2) then true else !r3) then
 some false
 else (bif (decide ((v.names.length : Int) > (0 : Int))) && (!((v.names.length : Int) != r1)) then impl_allEmpty n v.names else some false).bind fun r4 =>
 bif (bif decide ((v.names.length : Int) > (0 : Int)) then (bif (v.names.length : Int) != r1 then true else r4) else false) then
 some false
 else (impl_shapeValid_l0 n (v.re, v.names, (v.names.length : Int), (0 : Int))).bind fun r5 => lpK r5 (fun y6 =>
 bif (bif (bif decide ((y6.1.levels.length : Int) > (0 : Int)) then y6.1.kind != (2 : Int) else false) then true else (bif decide ((y6.1.parts.length : Int) > (0 : Int)) then y6.1.kind != (4 : Int) else false)) then
 some false
 else bif (bif y6.1.kind != (5 : Int) then (bif y6.1.code != (0 : Int) then true else y6.1.env != (0 : Int)) else false) then
 some false
 else bif (bif y6.1.kind == (5 : Int) then (bif (bif (bif (bif (bif decide ((y6.1.items.length : Int) > (0 : Int)) then true else decide ((y6.1.names.length : Int) > (0 : Int))) then true else decide (y6.1.code < (-999 : Int))) then true else decide (y6.1.code > (99999 : Int))) then true else decide (y6.1.env < (0 : Int))) then true else decide (y6.1.env > (99999 : Int))) else false) then
 some false
 else bif (bif y6.1.kind == (0 : Int) then (bif decide ((y6.1.items.length : Int) > (0 : Int)) then true else decide ((y6.1.cls.length : Int) > (0 : Int))) else false) then
 some false
 else (impl_shapeValid_l2 n (y6.1.re, y6.1.items, (y6.1.items.length : Int), (0 : Int))).bind fun r11 => lpK r11 (fun _ =>
 some true) (fun z13 => some z13)) (fun z7 => some z7)

def impl_partsValid_r0 (rec_impl_partsValid : (Vec → Option Bool)) (t9 : (List Vec)) (t10 : Int) (t11 : Int) : Option (Round ((List Vec) × Int × Int) Bool) :=
 bif decide (t11 < t10) then
 chk (decide ((0 : Int) ≤ t11) && decide (t11 < (t9.length : Int))) <|
 (rec_impl_partsValid ((t9.getD (t11).toNat zV).re)).bind fun r2 =>
 bif !r2 then
 some (.ret false)
 else some (.again (t9, t10, w64 (t11 + (1 : Int))))
 else some (.stop (t9, t10, t11))

def impl_partsValid_l0 (rec_impl_partsValid : (Vec → Option Bool)) (n : Nat) (x : ((List Vec) × Int × Int)) : Option (((List Vec) × Int × Int) ⊕ Bool) :=
 iter (fun x => impl_partsValid_r0 rec_impl_partsValid x.1 x.2.1 x.2.2) n x

def impl_partsValid_b (rec_impl_partsValid : (Vec → Option Bool)) (n : Nat) (v : Vec) : Option Bool :=
 (impl_shapeValid n v.re).bind fun r1 =>
 bif !r1 then
 some false
 else (impl_partsValid_l0 rec_impl_partsValid n (v.parts, (v.parts.length : Int), (0 : Int))).bind fun r3 => lpK r3 (fun _ =>
 some true) (fun z5 => some z5)

def impl_partsValid : Nat → Vec → Option Bool
 | 0 => fun _ => none
 | n + 1 => impl_partsValid_b (impl_partsValid n) n

def impl_cells_r0 (rec_impl_cells : (Vec → Option Int)) (n_ : Int) (t9 : (List Vec)) (t10 : Int) (t11 : Int) : Option (Round (Int × (List Vec) × Int × Int) Int) :=
 bif decide (t11 < t10) then
 chk (decide ((0 : Int) ≤ t11) && decide (t11 < (t9.length : Int))) <|
 (rec_impl_cells ((t9.getD (t11).toNat zV).re)).bind fun r2 =>
 some (.again (w64 (n_ + r2), t9, t10, w64 (t11 + (1 : Int))))
 else some (.stop (n_, t9, t10, t11))

def impl_cells_l0 (rec_impl_cells : (Vec → Option Int)) (n : Nat) (x : (Int × (List Vec) × Int × Int)) : Option ((Int × (List Vec) × Int × Int) ⊕ Int) :=
 iter (fun x => impl_cells_r0 rec_impl_cells x.1 x.2.1 x.2.2.1 x.2.2.2) n x

def impl_cells_b (rec_impl_cells : (Vec → Option Int)) (n : Nat) (v : Vec) : Option Int :=
 (impl_length v.re).bind fun r1 =>
 (impl_cells_l0 rec_impl_cells n (r1, v.parts, (v.parts.length : Int), (0 : Int))).bind fun r3 => lpK r3 (fun y4 =>
 some y4.1) (fun z5 => some z5)

def impl_cells : Nat → Vec → Option Int
 | 0 => fun _ => none
 | n + 1 => impl_cells_b (impl_cells n) n

def impl_IsVector (n : Nat) (v : Vec) : Option Bool :=
 (impl_nest n v.re (4 : Int)).bind fun r1 =>
 (bif decide (r1 ≤ (3 : Int)) then impl_partsValid n v.re else some false).bind fun r2 =>
 (bif (bif decide (r1 ≤ (3 : Int)) then r2 else false) then impl_cells n v.re else some (0 : Int)).bind fun r3 =>
 some (bif (bif decide (r1 ≤ (3 : Int)) then r2 else false) then decide (r3 ≤ (200 : Int)) else false)

def impl_IsFactor (n : Nat) (v : Vec) : Option Bool :=
 (impl_IsVector n v.re).bind fun r1 =>
 chk ((!(bif (bif r1 then decide ((v.levels.length : Int) > (0 : Int)) else false) then (v.cls.length : Int) == (1 : Int) else false)) || (decide ((0 : Int) ≤ (0 : Int)) && decide ((0 : Int) < (v.cls.length : Int)))) <|
 some (bif (bif (bif r1 then decide ((v.levels.length : Int) > (0 : Int)) else false) then (v.cls.length : Int) == (1 : Int) else false) then (strEq (v.cls.getD ((0 : Int)).toNat zS) (⟨#[102, 97, 99, 116, 111, 114]⟩ : ByteArray)) else false)

def laws_eqStringS_r0 (a_1 : (List ByteArray)) (b_1 : (List ByteArray)) (i : Int) : Option (Round ((List ByteArray) × (List ByteArray) × Int) Bool) :=
 bif decide (i < (a_1.length : Int)) then
 chk (decide ((0 : Int) ≤ i) && decide (i < (a_1.length : Int))) <|
 chk (decide ((0 : Int) ≤ i) && decide (i < (b_1.length : Int))) <|
 bif !(strEq (a_1.getD (i).toNat zS) (b_1.getD (i).toNat zS)) then
 some (.ret false)
 else some (.again (a_1, b_1, w64 (i + (1 : Int))))
 else some (.stop (a_1, b_1, i))

def laws_eqStringS_l0 (n : Nat) (x : ((List ByteArray) × (List ByteArray) × Int)) : Option (((List ByteArray) × (List ByteArray) × Int) ⊕ Bool) :=
 iter (fun x => laws_eqStringS_r0 x.1 x.2.1 x.2.2) n x

def laws_eqStringS (n : Nat) (a : (List ByteArray)) (b : (List ByteArray)) : Option Bool :=
 bif (a.length : Int) != (b.length : Int) then
 some false
 else (laws_eqStringS_l0 n (a, b, (0 : Int))).bind fun r1 => lpK r1 (fun _ =>
 some true) (fun z3 => some z3)

def laws_eqVector_b (_ : (Vec → Vec → Option Bool)) (rec_laws_eqVectorS : ((List Vec) → (List Vec) → Option Bool)) (n : Nat) (a : Vec) (b : Vec) : Option Bool :=
 bif a.kind != b.kind then
 some false
 else (laws_eqItemS n a.items b.items).bind fun r1 =>
 bif !r1 then
 some false
 else (rec_laws_eqVectorS a.parts b.parts).bind fun r2 =>
 bif !r2 then
 some false
 else (laws_eqStringS n a.names b.names).bind fun r3 =>
 bif !r3 then
 some false
 else (laws_eqStringS n a.cls b.cls).bind fun r4 =>
 bif !r4 then
 some false
 else (laws_eqStringS n a.levels b.levels).bind fun r5 =>
 bif !r5 then
 some false
 else bif a.code != b.code then
 some false
 else bif a.env != b.env then
 some false
 else some true

def laws_eqVectorS_r0 (rec_laws_eqVector : (Vec → Vec → Option Bool)) (a_1 : (List Vec)) (b_1 : (List Vec)) (i : Int) : Option (Round ((List Vec) × (List Vec) × Int) Bool) :=
 bif decide (i < (a_1.length : Int)) then
 chk (decide ((0 : Int) ≤ i) && decide (i < (a_1.length : Int))) <|
 chk (decide ((0 : Int) ≤ i) && decide (i < (b_1.length : Int))) <|
 (rec_laws_eqVector ((a_1.getD (i).toNat zV).re) ((b_1.getD (i).toNat zV).re)).bind fun r1 =>
 bif !r1 then
 some (.ret false)
 else some (.again (a_1, b_1, w64 (i + (1 : Int))))
 else some (.stop (a_1, b_1, i))

def laws_eqVectorS_l0 (rec_laws_eqVector : (Vec → Vec → Option Bool)) (n : Nat) (x : ((List Vec) × (List Vec) × Int)) : Option (((List Vec) × (List Vec) × Int) ⊕ Bool) :=
 iter (fun x => laws_eqVectorS_r0 rec_laws_eqVector x.1 x.2.1 x.2.2) n x

def laws_eqVectorS_b (rec_laws_eqVector : (Vec → Vec → Option Bool)) (_ : ((List Vec) → (List Vec) → Option Bool)) (n : Nat) (a : (List Vec)) (b : (List Vec)) : Option Bool :=
 bif (a.length : Int) != (b.length : Int) then
 some false
 else (laws_eqVectorS_l0 rec_laws_eqVector n (a, b, (0 : Int))).bind fun r2 => lpK r2 (fun _ =>
 some true) (fun z4 => some z4)

def laws_eqVector_laws_eqVectorS : Nat → (Vec → Vec → Option Bool) × ((List Vec) → (List Vec) → Option Bool)
 | 0 => (fun _ _ => none, fun _ _ => none)
 | n + 1 => (laws_eqVector_b (laws_eqVector_laws_eqVectorS n).1 (laws_eqVector_laws_eqVectorS n).2 n, laws_eqVectorS_b (laws_eqVector_laws_eqVectorS n).1 (laws_eqVector_laws_eqVectorS n).2 n)

def laws_eqVector (n : Nat) : Vec → Vec → Option Bool := (laws_eqVector_laws_eqVectorS n).1

def laws_eqVectorS (n : Nat) : (List Vec) → (List Vec) → Option Bool := (laws_eqVector_laws_eqVectorS n).2

def laws_FnExactIsFactor (n : Nat) (aV : Vec) : Option Bool :=
 (laws_szVector n aV.re (1048576 : Int)).bind fun r1 =>
 bif decide (r1 < (0 : Int)) then
 some true
 else (laws_toVector n aV.re).bind fun r2 =>
 (spec_IsFactor n r2.re).bind fun r3 =>
 (laws_toVector n aV.re).bind fun r4 =>
 (impl_IsFactor n r4.re).bind fun r5 =>
 bif !(r5 == r3) then
 some false
 else (laws_toVector n aV.re).bind fun r6 =>
 (laws_eqVector n r4.re r6.re).bind fun r7 =>
 bif !r7 then
 some false
 else some true

def spec_l12Column (n : Nat) (v : Vec) (n_ : Int) : Option Bool :=
 (spec_l1In v.kind (1 : Int) (3 : Int)).bind fun r1 =>
 (bif (bif (bif r1 then (v.items.length : Int) == n_ else false) then (v.names.length : Int) == (0 : Int) else false) && (!(bif (v.cls.length : Int) == (0 : Int) then (v.levels.length : Int) == (0 : Int) else false)) then spec_IsFactor n v.re else some false).bind fun r2 =>
 some (bif (bif (bif r1 then (v.items.length : Int) == n_ else false) then (v.names.length : Int) == (0 : Int) else false) then (bif (bif (v.cls.length : Int) == (0 : Int) then (v.levels.length : Int) == (0 : Int) else false) then true else r2) else false)

def spec_IsFrame_r0 (n : Nat) (v_1 : Vec) (i : Int) : Option (Round (Vec × Int) Bool) :=
 bif decide (i < (v_1.parts.length : Int)) then
 chk (decide ((0 : Int) ≤ i) && decide (i < (v_1.parts.length : Int))) <|
 chk (decide ((0 : Int) ≤ (0 : Int)) && decide ((0 : Int) < (v_1.parts.length : Int))) <|
 (spec_l12Column n ((v_1.parts.getD (i).toNat zV).re) (((v_1.parts.getD ((0 : Int)).toNat zV).items).length : Int)).bind fun r3 =>
 bif !r3 then
 some (.ret false)
 else some (.again (v_1.re, w64 (i + (1 : Int))))
 else some (.stop (v_1.re, i))

def spec_IsFrame_l0 (n : Nat) (x : (Vec × Int)) : Option ((Vec × Int) ⊕ Bool) :=
 iter (fun x => spec_IsFrame_r0 n x.1 x.2) n x

def spec_IsFrame (n : Nat) (v : Vec) : Option Bool :=
 (spec_IsVector n v.re).bind fun r1 =>
 chk ((!(!(bif (bif !r1 then true else v.kind != (4 : Int)) then true else (v.cls.length : Int) != (1 : Int)))) || (decide ((0 : Int) ≤ (0 : Int)) && decide ((0 : Int) < (v.cls.length : Int)))) <|
 (bif !(bif (bif (bif (bif !r1 then true else v.kind != (4 : Int)) then true else (v.cls.length : Int) != (1 : Int)) then true else !(strEq (v.cls.getD ((0 : Int)).toNat zS) (⟨#[100, 97, 116, 97, 46, 102, 114, 97, 109, 101]⟩ : ByteArray))) then true else (v.names.length : Int) != (v.parts.length : Int)) then spec_l4Labels n v.names (40 : Int) else some false).bind fun r2 =>
 bif (bif (bif (bif (bif (bif !r1 then true else v.kind != (4 : Int)) then true else (v.cls.length : Int) != (1 : Int)) then true else !(strEq (v.cls.getD ((0 : Int)).toNat zS) (⟨#[100, 97, 116, 97, 46, 102, 114, 97, 109, 101]⟩ : ByteArray))) then true else (v.names.length : Int) != (v.parts.length : Int)) then true else !r2) then
 some false
 else (spec_IsFrame_l0 n (v.re, (0 : Int))).bind fun r4 => lpK r4 (fun _ =>
 some true) (fun z6 => some z6)

def impl_IsFrame_r0 (n : Nat) (v_1 : Vec) (t36 : (List Vec)) (t37 : Int) (t38 : Int) : Option (Round (Vec × (List Vec) × Int × Int) Bool) :=
 bif decide (t38 < t37) then
 chk (decide ((0 : Int) ≤ t38) && decide (t38 < (t36.length : Int))) <|
 chk (decide ((0 : Int) ≤ t38) && decide (t38 < (v_1.names.length : Int))) <|
 chk ((!(!(strEq (v_1.names.getD (t38).toNat zS) zS))) || (decide ((0 : Int) ≤ t38) && (decide (t38 ≤ (v_1.names.length : Int)) && (decide ((0 : Int) ≤ (0 : Int)) && decide ((0 : Int) ≤ t38))))) <|
 chk ((!(!(strEq (v_1.names.getD (t38).toNat zS) zS))) || (decide ((0 : Int) ≤ t38) && decide (t38 < (v_1.names.length : Int)))) <|
 (bif !(strEq (v_1.names.getD (t38).toNat zS) zS) then impl_hasText n ((v_1.names.take (t38).toNat).drop ((0 : Int)).toNat) (v_1.names.getD (t38).toNat zS) else some false).bind fun r2 =>
 (bif !(bif (strEq (v_1.names.getD (t38).toNat zS) zS) then true else r2) then impl_isAtomic ((t36.getD (t38).toNat zV).re) else some false).bind fun r3 =>
 (bif !(bif (bif (bif (strEq (v_1.names.getD (t38).toNat zS) zS) then true else r2) then true else !r3) then true else decide ((((t36.getD (t38).toNat zV).names).length : Int) > (0 : Int))) then impl_length ((t36.getD (t38).toNat zV).re) else some (0 : Int)).bind fun r4 =>
 chk ((!(!(bif (bif (bif (strEq (v_1.names.getD (t38).toNat zS) zS) then true else r2) then true else !r3) then true else decide ((((t36.getD (t38).toNat zV).names).length : Int) > (0 : Int))))) || (decide ((0 : Int) ≤ (0 : Int)) && decide ((0 : Int) < (v_1.parts.length : Int)))) <|
 (bif !(bif (bif (bif (strEq (v_1.names.getD (t38).toNat zS) zS) then true else r2) then true else !r3) then true else decide ((((t36.getD (t38).toNat zV).names).length : Int) > (0 : Int))) then impl_length ((v_1.parts.getD ((0 : Int)).toNat zV).re) else some (0 : Int)).bind fun r5 =>
 bif (bif (bif (bif (bif (strEq (v_1.names.getD (t38).toNat zS) zS) then true else r2) then true else !r3) then true else decide ((((t36.getD (t38).toNat zV).names).length : Int) > (0 : Int))) then true else r4 != r5) then
 some (.ret false)
 else (bif (bif decide ((((t36.getD (t38).toNat zV).cls).length : Int) > (0 : Int)) then true else decide ((((t36.getD (t38).toNat zV).levels).length : Int) > (0 : Int))) then impl_IsFactor n ((t36.getD (t38).toNat zV).re) else some false).bind fun r6 =>
 bif (bif (bif decide ((((t36.getD (t38).toNat zV).cls).length : Int) > (0 : Int)) then true else decide ((((t36.getD (t38).toNat zV).levels).length : Int) > (0 : Int))) then !r6 else false) then
 some (.ret false)
 else some (.again (v_1.re, t36, t37, w64 (t38 + (1 : Int))))
 else some (.stop (v_1.re, t36, t37, t38))

def impl_IsFrame_l0 (n : Nat) (x : (Vec × (List Vec) × Int × Int)) : Option ((Vec × (List Vec) × Int × Int) ⊕ Bool) :=
 iter (fun x => impl_IsFrame_r0 n x.1 x.2.1 x.2.2.1 x.2.2.2) n x

def impl_IsFrame (n : Nat) (v : Vec) : Option Bool :=
 (impl_IsVector n v.re).bind fun r1 =>
 chk ((!(!(bif (bif !r1 then true else v.kind != (4 : Int)) then true else (v.cls.length : Int) != (1 : Int)))) || (decide ((0 : Int) ≤ (0 : Int)) && decide ((0 : Int) < (v.cls.length : Int)))) <|
 bif (bif (bif (bif (bif !r1 then true else v.kind != (4 : Int)) then true else (v.cls.length : Int) != (1 : Int)) then true else !(strEq (v.cls.getD ((0 : Int)).toNat zS) (⟨#[100, 97, 116, 97, 46, 102, 114, 97, 109, 101]⟩ : ByteArray))) then true else (v.names.length : Int) != (v.parts.length : Int)) then
 some false
 else (impl_IsFrame_l0 n (v.re, v.parts, (v.parts.length : Int), (0 : Int))).bind fun r7 => lpK r7 (fun _ =>
 some true) (fun z9 => some z9)

def laws_FnExactIsFrame (n : Nat) (aV : Vec) : Option Bool :=
 (laws_szVector n aV.re (1048576 : Int)).bind fun r1 =>
 bif decide (r1 < (0 : Int)) then
 some true
 else (laws_toVector n aV.re).bind fun r2 =>
 (spec_IsFrame n r2.re).bind fun r3 =>
 (laws_toVector n aV.re).bind fun r4 =>
 (impl_IsFrame n r4.re).bind fun r5 =>
 bif !(r5 == r3) then
 some false
 else (laws_toVector n aV.re).bind fun r6 =>
 (laws_eqVector n r4.re r6.re).bind fun r7 =>
 bif !r7 then
 some false
 else some true

def spec_RowsOf (n : Nat) (f : Vec) : Option Int :=
 (spec_IsFrame n f.re).bind fun r1 =>
 bif !r1 then
 some (-1 : Int)
 else bif (f.parts.length : Int) == (0 : Int) then
 some (0 : Int)
 else chk (decide ((0 : Int) ≤ (0 : Int)) && decide ((0 : Int) < (f.parts.length : Int))) <|
 some (((f.parts.getD ((0 : Int)).toNat zV).items).length : Int)

def impl_rows (f : Vec) : Option Int :=
 bif (f.parts.length : Int) == (0 : Int) then
 some (0 : Int)
 else chk (decide ((0 : Int) ≤ (0 : Int)) && decide ((0 : Int) < (f.parts.length : Int))) <|
 (impl_length ((f.parts.getD ((0 : Int)).toNat zV).re)).bind fun r1 =>
 some r1

def spec_l4Copies_j1 (list_1 : (List Vec)) (i : Int) (out_1 : (List Vec)) : Option (Round ((List Vec) × (List Vec) × Int) (List Vec)) :=
 some (.again (list_1, out_1, w64 (i + (1 : Int))))

def spec_l4Copies_r0 (rec_spec_l4Copy : (Vec → Option Vec)) (n : Nat) (list_1 : (List Vec)) (out : (List Vec)) (i : Int) : Option (Round ((List Vec) × (List Vec) × Int) (List Vec)) :=
 bif (bif decide (i < (list_1.length : Int)) then decide (i ≤ (40 : Int)) else false) then
 chk (decide ((0 : Int) ≤ i) && decide (i < (list_1.length : Int))) <|
 (spec_l4Is n ((list_1.getD (i).toNat zV).re) (3 : Int)).bind fun r1 =>
 bif !r1 then
 chk (decide (out.length + ([(⟨(-1 : Int), ([] : List Item), ([] : List Vec), ([] : List ByteArray), ([] : List ByteArray), ([] : List ByteArray), (0 : Int), (0 : Int)⟩ : Vec)] : List Vec).length ≤ LIM)) <|
 spec_l4Copies_j1 list_1 i (out ++ ([(⟨(-1 : Int), ([] : List Item), ([] : List Vec), ([] : List ByteArray), ([] : List ByteArray), ([] : List ByteArray), (0 : Int), (0 : Int)⟩ : Vec)] : List Vec))
 else chk (decide ((0 : Int) ≤ i) && decide (i < (list_1.length : Int))) <|
 (rec_spec_l4Copy ((list_1.getD (i).toNat zV).re)).bind fun r2 =>
 chk (decide (out.length + ([r2.re] : List Vec).length ≤ LIM)) <|
 spec_l4Copies_j1 list_1 i (out ++ ([r2.re] : List Vec))
 else some (.stop (list_1, out, i))

def spec_l4Copies_l0 (rec_spec_l4Copy : (Vec → Option Vec)) (n : Nat) (x : ((List Vec) × (List Vec) × Int)) : Option (((List Vec) × (List Vec) × Int) ⊕ (List Vec)) :=
 iter (fun x => spec_l4Copies_r0 rec_spec_l4Copy n x.1 x.2.1 x.2.2) n x

def spec_l4Copies_b (_ : ((List Vec) → Option (List Vec))) (rec_spec_l4Copy : (Vec → Option Vec)) (n : Nat) (list : (List Vec)) : Option (List Vec) :=
 (spec_l4Copies_l0 rec_spec_l4Copy n (list, ([] : List Vec), (0 : Int))).bind fun r3 => lpK r3 (fun y4 =>
 some y4.2.1) (fun z5 => some z5)

def spec_l4Copy_b (rec_spec_l4Copies : ((List Vec) → Option (List Vec))) (_ : (Vec → Option Vec)) (_ : Nat) (v : Vec) : Option Vec :=
 chk (decide (([] : List Item).length + v.items.length ≤ LIM)) <|
 (rec_spec_l4Copies v.parts).bind fun r1 =>
 chk (decide (([] : List ByteArray).length + v.names.length ≤ LIM)) <|
 chk (decide (([] : List ByteArray).length + v.cls.length ≤ LIM)) <|
 chk (decide (([] : List ByteArray).length + v.levels.length ≤ LIM)) <|
 some (⟨v.kind, (([] : List Item) ++ v.items), r1, (([] : List ByteArray) ++ v.names), (([] : List ByteArray) ++ v.cls), (([] : List ByteArray) ++ v.levels), v.code, v.env⟩ : Vec)

def spec_l4Copies_spec_l4Copy : Nat → ((List Vec) → Option (List Vec)) × (Vec → Option Vec)
 | 0 => (fun _ => none, fun _ => none)
 | n + 1 => (spec_l4Copies_b (spec_l4Copies_spec_l4Copy n).1 (spec_l4Copies_spec_l4Copy n).2 n, spec_l4Copy_b (spec_l4Copies_spec_l4Copy n).1 (spec_l4Copies_spec_l4Copy n).2 n)

def spec_l4Copies (n : Nat) : (List Vec) → Option (List Vec) := (spec_l4Copies_spec_l4Copy n).1

def spec_l4Copy (n : Nat) : Vec → Option Vec := (spec_l4Copies_spec_l4Copy n).2

def spec_l4Fit (n : Nat) (v : Vec) : Option (Vec × ByteArray) :=
 (spec_IsVector n v.re).bind fun r1 =>
 bif !r1 then
 some ((⟨(0 : Int), ([] : List Item), ([] : List Vec), ([] : List ByteArray), ([] : List ByteArray), ([] : List ByteArray), (0 : Int), (0 : Int)⟩ : Vec), (⟨#[114, 101, 115, 117, 108, 116, 32, 105, 115, 32, 116, 111, 111, 32, 108, 97, 114, 103, 101]⟩ : ByteArray))
 else some (v.re, zS)

def spec_l12Made (n : Nat) (columns : (List Vec)) (names : (List ByteArray)) : Option (Vec × ByteArray) :=
 (spec_l4Copies n columns).bind fun r1 =>
 chk (decide (([] : List ByteArray).length + names.length ≤ LIM)) <|
 (bif !((names.length : Int) != (columns.length : Int)) then spec_l4Labels n names (40 : Int) else some false).bind fun r2 =>
 bif (bif (names.length : Int) != (columns.length : Int) then true else !r2) then
 some ((⟨(0 : Int), ([] : List Item), ([] : List Vec), ([] : List ByteArray), ([] : List ByteArray), ([] : List ByteArray), (0 : Int), (0 : Int)⟩ : Vec), (⟨#[105, 110, 118, 97, 108, 105, 100, 32, 110, 97, 109, 101, 115]⟩ : ByteArray))
 else (spec_l4Fit n (⟨(4 : Int), ([] : List Item), r1, (([] : List ByteArray) ++ names), ([(⟨#[100, 97, 116, 97, 46, 102, 114, 97, 109, 101]⟩ : ByteArray)] : List ByteArray), ([] : List ByteArray), (0 : Int), (0 : Int)⟩ : Vec)).bind fun r3 =>
 some (r3.1.re, r3.2)

def spec_SelectColumns_r0 (n : Nat) (names_1 : (List ByteArray)) (f_1 : Vec) (b4 : Vec) (out : (List Vec)) (i : Int) : Option (Round ((List ByteArray) × Vec × Vec × (List Vec) × Int) (Vec × ByteArray)) :=
 bif decide (i < (names_1.length : Int)) then
 chk (decide ((0 : Int) ≤ i) && decide (i < (names_1.length : Int))) <|
 (spec_l1Find n f_1.names (names_1.getD (i).toNat zS)).bind fun r2 =>
 bif decide (r2 < (0 : Int)) then
 some (.ret ((⟨(0 : Int), ([] : List Item), ([] : List Vec), ([] : List ByteArray), ([] : List ByteArray), ([] : List ByteArray), (0 : Int), (0 : Int)⟩ : Vec), (⟨#[110, 111, 32, 115, 117, 99, 104, 32, 99, 111, 108, 117, 109, 110]⟩ : ByteArray)))
 else chk (decide ((0 : Int) ≤ r2) && decide (r2 < (f_1.parts.length : Int))) <|
 chk (decide (out.length + ([(f_1.parts.getD (r2).toNat zV).re] : List Vec).length ≤ LIM)) <|
 some (.again (names_1, f_1.re, b4.re, (out ++ ([(f_1.parts.getD (r2).toNat zV).re] : List Vec)), w64 (i + (1 : Int))))
 else some (.stop (names_1, f_1.re, b4.re, out, i))

def spec_SelectColumns_l0 (n : Nat) (x : ((List ByteArray) × Vec × Vec × (List Vec) × Int)) : Option (((List ByteArray) × Vec × Vec × (List Vec) × Int) ⊕ (Vec × ByteArray)) :=
 iter (fun x => spec_SelectColumns_r0 n x.1 x.2.1 x.2.2.1 x.2.2.2.1 x.2.2.2.2) n x

def spec_SelectColumns (n : Nat) (f : Vec) (names : (List ByteArray)) : Option (Vec × ByteArray) :=
 (spec_IsFrame n f.re).bind fun r1 =>
 bif !r1 then
 some ((⟨(0 : Int), ([] : List Item), ([] : List Vec), ([] : List ByteArray), ([] : List ByteArray), ([] : List ByteArray), (0 : Int), (0 : Int)⟩ : Vec), (⟨#[110, 111, 116, 32, 97, 32, 100, 97, 116, 97, 32, 102, 114, 97, 109, 101]⟩ : ByteArray))
 else (spec_SelectColumns_l0 n (names, f.re, (⟨(0 : Int), ([] : List Item), ([] : List Vec), ([] : List ByteArray), ([] : List ByteArray), ([] : List ByteArray), (0 : Int), (0 : Int)⟩ : Vec), ([] : List Vec), (0 : Int))).bind fun r3 => lpK r3 (fun y4 =>
 (spec_l12Made n y4.2.2.2.1 y4.1).bind fun r6 =>
 some (r6.1.re, r6.2)) (fun z5 => some z5)

def spec_IsKey_r4 (g_2 : Vec) (p_2 : ByteArray) (i_2 : Int) (k_1 : Int) (same : Bool) (c : Int) : Option (Round (Vec × ByteArray × Int × Int × Bool × Int) Bool) :=
 bif decide (c < (g_2.parts.length : Int)) then
 chk ((!same) || (decide ((0 : Int) ≤ c) && decide (c < (g_2.parts.length : Int)))) <|
 chk ((!same) || (decide ((0 : Int) ≤ i_2) && decide (i_2 < (((g_2.parts.getD (c).toNat zV).items).length : Int)))) <|
 chk ((!same) || (decide ((0 : Int) ≤ c) && decide (c < (g_2.parts.length : Int)))) <|
 chk ((!same) || (decide ((0 : Int) ≤ k_1) && decide (k_1 < (((g_2.parts.getD (c).toNat zV).items).length : Int)))) <|
 some (.again (g_2.re, p_2, i_2, k_1, (bif same then (itemEq (((g_2.parts.getD (c).toNat zV).items).getD (i_2).toNat zI) (((g_2.parts.getD (c).toNat zV).items).getD (k_1).toNat zI)) else false), w64 (c + (1 : Int))))
 else some (.stop (g_2.re, p_2, i_2, k_1, same, c))

def spec_IsKey_l4 (n : Nat) (x : (Vec × ByteArray × Int × Int × Bool × Int)) : Option ((Vec × ByteArray × Int × Int × Bool × Int) ⊕ Bool) :=
 iter (fun x => spec_IsKey_r4 x.1 x.2.1 x.2.2.1 x.2.2.2.1 x.2.2.2.2.1 x.2.2.2.2.2) n x

def spec_IsKey_r2 (n : Nat) (g_1 : Vec) (p_1 : ByteArray) (i_1 : Int) (k : Int) : Option (Round (Vec × ByteArray × Int × Int) Bool) :=
 bif decide (k < i_1) then
 (spec_IsKey_l4 n (g_1.re, p_1, i_1, k, true, (0 : Int))).bind fun r3 => lpK r3 (fun y4 =>
 bif y4.2.2.2.2.1 then
 some (.ret false)
 else some (.again (y4.1.re, y4.2.1, y4.2.2.1, w64 (y4.2.2.2.1 + (1 : Int))))) (fun z5 => some (.ret z5))
 else some (.stop (g_1.re, p_1, i_1, k))

def spec_IsKey_l2 (n : Nat) (x : (Vec × ByteArray × Int × Int)) : Option ((Vec × ByteArray × Int × Int) ⊕ Bool) :=
 iter (fun x => spec_IsKey_r2 n x.1 x.2.1 x.2.2.1 x.2.2.2) n x

def spec_IsKey_r0 (n : Nat) (g : Vec) (p : ByteArray) (i : Int) : Option (Round (Vec × ByteArray × Int) Bool) :=
 (spec_RowsOf n g.re).bind fun r2 =>
 bif decide (i < r2) then
 (spec_IsKey_l2 n (g.re, p, i, (0 : Int))).bind fun r6 => lpK r6 (fun y7 =>
 some (.again (y7.1.re, y7.2.1, w64 (y7.2.2.1 + (1 : Int))))) (fun z8 => some (.ret z8))
 else some (.stop (g.re, p, i))

def spec_IsKey_l0 (n : Nat) (x : (Vec × ByteArray × Int)) : Option ((Vec × ByteArray × Int) ⊕ Bool) :=
 iter (fun x => spec_IsKey_r0 n x.1 x.2.1 x.2.2) n x

def spec_IsKey (n : Nat) (f : Vec) (names : (List ByteArray)) : Option Bool :=
 (spec_SelectColumns n f.re names).bind fun r1 =>
 (spec_IsKey_l0 n (r1.1.re, r1.2, (0 : Int))).bind fun r9 => lpK r9 (fun y10 =>
 some (strEq y10.2.1 zS)) (fun z11 => some z11)

def impl_copyItems (list : (List Item)) : Option (List Item) :=
 chk (decide (([] : List Item).length + list.length ≤ LIM)) <|
 some (([] : List Item) ++ list)

def impl_copyTexts (list : (List ByteArray)) : Option (List ByteArray) :=
 chk (decide (([] : List ByteArray).length + list.length ≤ LIM)) <|
 some (([] : List ByteArray) ++ list)

def impl_copyVector_r0 (rec_impl_copyVector : (Vec → Option Vec)) (b2 : Vec) (out : Vec) (t26 : (List Vec)) (t27 : Int) (t28 : Int) : Option (Round (Vec × Vec × (List Vec) × Int × Int) Vec) :=
 bif decide (t28 < t27) then
 chk (decide ((0 : Int) ≤ t28) && decide (t28 < (t26.length : Int))) <|
 (rec_impl_copyVector ((t26.getD (t28).toNat zV).re)).bind fun r5 =>
 chk (decide (out.parts.length + ([r5.re] : List Vec).length ≤ LIM)) <|
 some (.again (b2.re, (⟨out.kind, out.items, (out.parts ++ ([r5.re] : List Vec)), out.names, out.cls, out.levels, out.code, out.env⟩ : Vec), t26, t27, w64 (t28 + (1 : Int))))
 else some (.stop (b2.re, out.re, t26, t27, t28))

def impl_copyVector_l0 (rec_impl_copyVector : (Vec → Option Vec)) (n : Nat) (x : (Vec × Vec × (List Vec) × Int × Int)) : Option ((Vec × Vec × (List Vec) × Int × Int) ⊕ Vec) :=
 iter (fun x => impl_copyVector_r0 rec_impl_copyVector x.1 x.2.1 x.2.2.1 x.2.2.2.1 x.2.2.2.2) n x

def impl_copyVector_b (rec_impl_copyVector : (Vec → Option Vec)) (n : Nat) (v : Vec) : Option Vec :=
 (impl_copyItems v.items).bind fun r1 =>
 (impl_copyTexts v.names).bind fun r2 =>
 (impl_copyTexts v.cls).bind fun r3 =>
 (impl_copyTexts v.levels).bind fun r4 =>
 (impl_copyVector_l0 rec_impl_copyVector n ((⟨(0 : Int), ([] : List Item), ([] : List Vec), ([] : List ByteArray), ([] : List ByteArray), ([] : List ByteArray), (0 : Int), (0 : Int)⟩ : Vec), (⟨v.kind, r1, ([] : List Vec), r2, r3, r4, v.code, v.env⟩ : Vec), v.parts, (v.parts.length : Int), (0 : Int))).bind fun r6 => lpK r6 (fun y7 =>
 some y7.2.1.re) (fun z8 => some z8)

def impl_copyVector : Nat → Vec → Option Vec
 | 0 => fun _ => none
 | n + 1 => impl_copyVector_b (impl_copyVector n) n

def impl_frameNames_r0 (n : Nat) (names_1 : (List ByteArray)) (t11 : (List ByteArray)) (t12 : Int) (t13 : Int) : Option (Round ((List ByteArray) × (List ByteArray) × Int × Int) Bool) :=
 bif decide (t13 < t12) then
 chk (decide ((0 : Int) ≤ t13) && decide (t13 < (t11.length : Int))) <|
 chk ((!(!(bif (strEq (t11.getD (t13).toNat zS) zS) then true else decide (((t11.getD (t13).toNat zS).size : Int) > (60 : Int))))) || (decide ((0 : Int) ≤ t13) && (decide (t13 ≤ (names_1.length : Int)) && (decide ((0 : Int) ≤ (0 : Int)) && decide ((0 : Int) ≤ t13))))) <|
 (bif !(bif (strEq (t11.getD (t13).toNat zS) zS) then true else decide (((t11.getD (t13).toNat zS).size : Int) > (60 : Int))) then impl_hasText n ((names_1.take (t13).toNat).drop ((0 : Int)).toNat) (t11.getD (t13).toNat zS) else some false).bind fun r1 =>
 bif (bif (bif (strEq (t11.getD (t13).toNat zS) zS) then true else decide (((t11.getD (t13).toNat zS).size : Int) > (60 : Int))) then true else r1) then
 some (.ret false)
 else some (.again (names_1, t11, t12, w64 (t13 + (1 : Int))))
 else some (.stop (names_1, t11, t12, t13))

def impl_frameNames_l0 (n : Nat) (x : ((List ByteArray) × (List ByteArray) × Int × Int)) : Option (((List ByteArray) × (List ByteArray) × Int × Int) ⊕ Bool) :=
 iter (fun x => impl_frameNames_r0 n x.1 x.2.1 x.2.2.1 x.2.2.2) n x

def impl_frameNames (n : Nat) (names : (List ByteArray)) (n_ : Int) : Option Bool :=
 bif (names.length : Int) != n_ then
 some false
 else (impl_frameNames_l0 n (names, names, (names.length : Int), (0 : Int))).bind fun r2 => lpK r2 (fun _ =>
 some true) (fun z4 => some z4)

def impl_frameOf (n : Nat) (columns : (List Vec)) (names : (List ByteArray)) : Option (Vec × ByteArray) :=
 (impl_copyTexts names).bind fun r1 =>
 (impl_IsFrame n (⟨(4 : Int), ([] : List Item), columns, r1, ([(⟨#[100, 97, 116, 97, 46, 102, 114, 97, 109, 101]⟩ : ByteArray)] : List ByteArray), ([] : List ByteArray), (0 : Int), (0 : Int)⟩ : Vec)).bind fun r2 =>
 bif !r2 then
 some ((⟨(0 : Int), ([] : List Item), ([] : List Vec), ([] : List ByteArray), ([] : List ByteArray), ([] : List ByteArray), (0 : Int), (0 : Int)⟩ : Vec), (⟨#[114, 101, 115, 117, 108, 116, 32, 105, 115, 32, 116, 111, 111, 32, 108, 97, 114, 103, 101]⟩ : ByteArray))
 else some ((⟨(4 : Int), ([] : List Item), columns, r1, ([(⟨#[100, 97, 116, 97, 46, 102, 114, 97, 109, 101]⟩ : ByteArray)] : List ByteArray), ([] : List ByteArray), (0 : Int), (0 : Int)⟩ : Vec), zS)

def impl_SelectColumns_r0 (n : Nat) (names_1 : (List ByteArray)) (f_1 : Vec) (b4 : Vec) (list : (List Vec)) (t14 : (List ByteArray)) (t15 : Int) (t16 : Int) : Option (Round ((List ByteArray) × Vec × Vec × (List Vec) × (List ByteArray) × Int × Int) (Vec × ByteArray)) :=
 bif decide (t16 < t15) then
 chk (decide ((0 : Int) ≤ t16) && decide (t16 < (t14.length : Int))) <|
 (impl_textIndex n f_1.names (t14.getD (t16).toNat zS)).bind fun r2 =>
 bif decide (r2 < (0 : Int)) then
 some (.ret ((⟨(0 : Int), ([] : List Item), ([] : List Vec), ([] : List ByteArray), ([] : List ByteArray), ([] : List ByteArray), (0 : Int), (0 : Int)⟩ : Vec), (⟨#[110, 111, 32, 115, 117, 99, 104, 32, 99, 111, 108, 117, 109, 110]⟩ : ByteArray)))
 else chk (decide ((0 : Int) ≤ r2) && decide (r2 < (f_1.parts.length : Int))) <|
 (impl_copyVector n ((f_1.parts.getD (r2).toNat zV).re)).bind fun r3 =>
 chk (decide (list.length + ([r3.re] : List Vec).length ≤ LIM)) <|
 some (.again (names_1, f_1.re, b4.re, (list ++ ([r3.re] : List Vec)), t14, t15, w64 (t16 + (1 : Int))))
 else some (.stop (names_1, f_1.re, b4.re, list, t14, t15, t16))

def impl_SelectColumns_l0 (n : Nat) (x : ((List ByteArray) × Vec × Vec × (List Vec) × (List ByteArray) × Int × Int)) : Option (((List ByteArray) × Vec × Vec × (List Vec) × (List ByteArray) × Int × Int) ⊕ (Vec × ByteArray)) :=
 iter (fun x => impl_SelectColumns_r0 n x.1 x.2.1 x.2.2.1 x.2.2.2.1 x.2.2.2.2.1 x.2.2.2.2.2.1 x.2.2.2.2.2.2) n x

def impl_SelectColumns (n : Nat) (f : Vec) (names : (List ByteArray)) : Option (Vec × ByteArray) :=
 (impl_IsFrame n f.re).bind fun r1 =>
 bif !r1 then
 some ((⟨(0 : Int), ([] : List Item), ([] : List Vec), ([] : List ByteArray), ([] : List ByteArray), ([] : List ByteArray), (0 : Int), (0 : Int)⟩ : Vec), (⟨#[110, 111, 116, 32, 97, 32, 100, 97, 116, 97, 32, 102, 114, 97, 109, 101]⟩ : ByteArray))
 else (impl_SelectColumns_l0 n (names, f.re, (⟨(0 : Int), ([] : List Item), ([] : List Vec), ([] : List ByteArray), ([] : List ByteArray), ([] : List ByteArray), (0 : Int), (0 : Int)⟩ : Vec), ([] : List Vec), names, (names.length : Int), (0 : Int))).bind fun r4 => lpK r4 (fun y5 =>
 (impl_frameNames n y5.1 (y5.2.2.2.1.length : Int)).bind fun r7 =>
 bif !r7 then
 some ((⟨(0 : Int), ([] : List Item), ([] : List Vec), ([] : List ByteArray), ([] : List ByteArray), ([] : List ByteArray), (0 : Int), (0 : Int)⟩ : Vec), (⟨#[105, 110, 118, 97, 108, 105, 100, 32, 110, 97, 109, 101, 115]⟩ : ByteArray))
 else (impl_frameOf n y5.2.2.2.1 y5.1).bind fun r8 =>
 some (r8.1.re, r8.2)) (fun z6 => some z6)

def impl_sameRow_r0 (i_1 : Int) (j_1 : Int) (t10 : (List Vec)) (t11 : Int) (t12 : Int) : Option (Round (Int × Int × (List Vec) × Int × Int) Bool) :=
 bif decide (t12 < t11) then
 chk (decide ((0 : Int) ≤ t12) && decide (t12 < (t10.length : Int))) <|
 chk (decide ((0 : Int) ≤ i_1) && decide (i_1 < (((t10.getD (t12).toNat zV).items).length : Int))) <|
 chk (decide ((0 : Int) ≤ j_1) && decide (j_1 < (((t10.getD (t12).toNat zV).items).length : Int))) <|
 bif !(itemEq (((t10.getD (t12).toNat zV).items).getD (i_1).toNat zI) (((t10.getD (t12).toNat zV).items).getD (j_1).toNat zI)) then
 some (.ret false)
 else some (.again (i_1, j_1, t10, t11, w64 (t12 + (1 : Int))))
 else some (.stop (i_1, j_1, t10, t11, t12))

def impl_sameRow_l0 (n : Nat) (x : (Int × Int × (List Vec) × Int × Int)) : Option ((Int × Int × (List Vec) × Int × Int) ⊕ Bool) :=
 iter (fun x => impl_sameRow_r0 x.1 x.2.1 x.2.2.1 x.2.2.2.1 x.2.2.2.2) n x

def impl_sameRow (n : Nat) (f : Vec) (i : Int) (j : Int) : Option Bool :=
 (impl_sameRow_l0 n (i, j, f.parts, (f.parts.length : Int), (0 : Int))).bind fun r1 => lpK r1 (fun _ =>
 some true) (fun z3 => some z3)

def impl_IsKey_r2 (n : Nat) (g_1 : Vec) (i_1 : Int) (j : Int) : Option (Round (Vec × Int × Int) Bool) :=
 bif decide (j < i_1) then
 (impl_sameRow n g_1.re i_1 j).bind fun r3 =>
 bif r3 then
 some (.ret false)
 else some (.again (g_1.re, i_1, w64 (j + (1 : Int))))
 else some (.stop (g_1.re, i_1, j))

def impl_IsKey_l2 (n : Nat) (x : (Vec × Int × Int)) : Option ((Vec × Int × Int) ⊕ Bool) :=
 iter (fun x => impl_IsKey_r2 n x.1 x.2.1 x.2.2) n x

def impl_IsKey_r0 (n : Nat) (g : Vec) (i : Int) : Option (Round (Vec × Int) Bool) :=
 (impl_rows g.re).bind fun r2 =>
 bif decide (i < r2) then
 (impl_IsKey_l2 n (g.re, i, (0 : Int))).bind fun r4 => lpK r4 (fun y5 =>
 some (.again (y5.1.re, w64 (y5.2.1 + (1 : Int))))) (fun z6 => some (.ret z6))
 else some (.stop (g.re, i))

def impl_IsKey_l0 (n : Nat) (x : (Vec × Int)) : Option ((Vec × Int) ⊕ Bool) :=
 iter (fun x => impl_IsKey_r0 n x.1 x.2) n x

def impl_IsKey (n : Nat) (f : Vec) (names : (List ByteArray)) : Option Bool :=
 (impl_SelectColumns n f.re names).bind fun r1 =>
 bif !(strEq r1.2 zS) then
 some false
 else (impl_IsKey_l0 n (r1.1.re, (0 : Int))).bind fun r7 => lpK r7 (fun _ =>
 some true) (fun z9 => some z9)

def laws_FnExactIsKey (n : Nat) (aF : Vec) (aNames : (List ByteArray)) : Option Bool :=
 (laws_szVector n aF.re (1048576 : Int)).bind fun r1 =>
 bif decide (r1 < (0 : Int)) then
 some true
 else (laws_szStringS n aNames r1).bind fun r2 =>
 bif decide (r2 < (0 : Int)) then
 some true
 else (laws_toVector n aF.re).bind fun r3 =>
 (laws_toStringS n aNames).bind fun r4 =>
 (spec_IsKey n r3.re r4).bind fun r5 =>
 (laws_toVector n aF.re).bind fun r6 =>
 (laws_toStringS n aNames).bind fun r7 =>
 (impl_IsKey n r6.re r7).bind fun r8 =>
 bif !(r8 == r5) then
 some false
 else (laws_toVector n aF.re).bind fun r9 =>
 (laws_eqVector n r6.re r9.re).bind fun r10 =>
 bif !r10 then
 some false
 else (laws_toStringS n aNames).bind fun r11 =>
 (laws_eqStringS n r7 r11).bind fun r12 =>
 bif !r12 then
 some false
 else some true

def impl_RowsOf (n : Nat) (f : Vec) : Option Int :=
 (impl_IsFrame n f.re).bind fun r1 =>
 bif !r1 then
 some (-1 : Int)
 else (impl_rows f.re).bind fun r2 =>
 some r2

def laws_FnExactRowsOf (n : Nat) (aF : Vec) : Option Bool :=
 (laws_szVector n aF.re (1048576 : Int)).bind fun r1 =>
 bif decide (r1 < (0 : Int)) then
 some true
 else (laws_toVector n aF.re).bind fun r2 =>
 (spec_RowsOf n r2.re).bind fun r3 =>
 (laws_toVector n aF.re).bind fun r4 =>
 (impl_RowsOf n r4.re).bind fun r5 =>
 bif r5 != r3 then
 some false
 else (laws_toVector n aF.re).bind fun r6 =>
 (laws_eqVector n r4.re r6.re).bind fun r7 =>
 bif !r7 then
 some false
 else some true


end Go.AM
