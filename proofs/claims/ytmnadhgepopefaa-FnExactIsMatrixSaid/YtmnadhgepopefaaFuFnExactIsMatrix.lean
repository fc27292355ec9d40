/- The functions that the law FnExactIsMatrix reaches, as typed functions with fuel; nothing is proved here. -/
import Derived.Test.YtmnadhgepopefaaAm3
namespace Go.AM
def laws_szItem (a : Item) (left : Int) : Option Int :=
 bif decide ((w64 (left - (a.text.size : Int))) < (0 : Int)) then
 some (-1 : Int)
 else some (w64 (left - (a.text.size : Int)))

def laws_szItemS_r0 (a_1 : (List Item)) (left_1 : Int) (i : Int) : Option (Round ((List Item) × Int × Int) Int) :=
 bif decide (i < (a_1.length : Int)) then
 chk (decide ((0 : Int) ≤ i) && decide (i < (a_1.length : Int))) <|
 (laws_szItem (a_1.getD (i).toNat zI) left_1).bind fun r1 =>
 bif decide (r1 < (0 : Int)) then
 some (.ret (-1 : Int))
 else some (.again (a_1, r1, w64 (i + (1 : Int))))
 else some (.stop (a_1, left_1, i))

def laws_szItemS_l0 (n : Nat) (x : ((List Item) × Int × Int)) : Option (((List Item) × Int × Int) ⊕ Int) :=
 iter (fun x => laws_szItemS_r0 x.1 x.2.1 x.2.2) n x

def laws_szItemS (n : Nat) (a : (List Item)) (left : Int) : Option Int :=
 bif decide ((w64 (left - (a.length : Int))) < (0 : Int)) then
 some (-1 : Int)
 else (laws_szItemS_l0 n (a, w64 (left - (a.length : Int)), (0 : Int))).bind fun r2 => lpK r2 (fun y3 =>
 some y3.2.1) (fun z4 => some z4)

def laws_szMatrix (n : Nat) (a : Mat) (left : Int) : Option Int :=
 (laws_szItemS n a.cells left).bind fun r1 =>
 bif decide (r1 < (0 : Int)) then
 some (-1 : Int)
 else some r1

def spec_l1In (x : Int) (low : Int) (high : Int) : Option Bool :=
 some (bif decide (x ≥ low) then decide (x ≤ high) else false)

def spec_l2Abs (n_ : Int) : Option Int :=
 bif decide (n_ < (0 : Int)) then
 some (w64 (0 - n_))
 else some n_

def spec_l2Gcd_r0 (x : Int) (y : Int) : Option (Round (Int × Int) Int) :=
 bif y != (0 : Int) then
 chk (!(y == (0 : Int))) <|
 some (.again (y, Int.tmod x y))
 else some (.stop (x, y))

def spec_l2Gcd_l0 (n : Nat) (x : (Int × Int)) : Option ((Int × Int) ⊕ Int) :=
 iter (fun x => spec_l2Gcd_r0 x.1 x.2) n x

def spec_l2Gcd (n : Nat) (a : Int) (b : Int) : Option Int :=
 (spec_l2Abs a).bind fun r1 =>
 (spec_l2Abs b).bind fun r2 =>
 (spec_l2Gcd_l0 n (r1, r2)).bind fun r3 => lpK r3 (fun y4 =>
 some y4.1) (fun z5 => some z5)

def spec_IsNumber (n : Nat) (x : Item) : Option Bool :=
 (bif (strEq x.text zS) then spec_l1In x.den (1 : Int) (999999999 : Int) else some false).bind fun r1 =>
 (bif (bif (strEq x.text zS) then r1 else false) then spec_l1In x.num (-999999999 : Int) (999999999 : Int) else some false).bind fun r2 =>
 (bif (bif (bif (strEq x.text zS) then r1 else false) then r2 else false) then spec_l2Gcd n x.num x.den else some (0 : Int)).bind fun r3 =>
 some (bif (bif (bif (strEq x.text zS) then r1 else false) then r2 else false) then r3 == (1 : Int) else false)

def spec_l14Known_r0 (n : Nat) (m_1 : Mat) (i : Int) : Option (Round (Mat × Int) Bool) :=
 bif decide (i < (m_1.cells.length : Int)) then
 chk (decide ((0 : Int) ≤ i) && decide (i < (m_1.cells.length : Int))) <|
 (spec_IsNumber n (m_1.cells.getD (i).toNat zI)).bind fun r1 =>
 bif !r1 then
 some (.ret false)
 else some (.again (m_1, w64 (i + (1 : Int))))
 else some (.stop (m_1, i))

def spec_l14Known_l0 (n : Nat) (x : (Mat × Int)) : Option ((Mat × Int) ⊕ Bool) :=
 iter (fun x => spec_l14Known_r0 n x.1 x.2) n x

def spec_l14Known (n : Nat) (m : Mat) : Option Bool :=
 (spec_l14Known_l0 n (m, (0 : Int))).bind fun r2 => lpK r2 (fun _ =>
 some true) (fun z4 => some z4)

def spec_IsMatrix (n : Nat) (m : Mat) : Option Bool :=
 (spec_l1In m.rows (0 : Int) (12 : Int)).bind fun r1 =>
 (bif !(!r1) then spec_l1In m.cols (0 : Int) (12 : Int) else some false).bind fun r2 =>
 bif (bif (bif !r1 then true else !r2) then true else (m.cells.length : Int) != (w64 (m.rows * m.cols))) then
 some false
 else (spec_l14Known n m).bind fun r3 =>
 some r3

def laws_toItem (a : Item) : Option Item :=
 some a

def laws_toItemS_r0 (a_1 : (List Item)) (out : (List Item)) (i : Int) : Option (Round ((List Item) × (List Item) × Int) (List Item)) :=
 bif decide (i < (a_1.length : Int)) then
 chk (decide ((0 : Int) ≤ i) && decide (i < (a_1.length : Int))) <|
 (laws_toItem (a_1.getD (i).toNat zI)).bind fun r1 =>
 chk (decide ((0 : Int) ≤ i) && decide (i < (out.length : Int))) <|
 some (.again (a_1, (out.set (i).toNat r1), w64 (i + (1 : Int))))
 else some (.stop (a_1, out, i))

def laws_toItemS_l0 (n : Nat) (x : ((List Item) × (List Item) × Int)) : Option (((List Item) × (List Item) × Int) ⊕ (List Item)) :=
 iter (fun x => laws_toItemS_r0 x.1 x.2.1 x.2.2) n x

def laws_toItemS (n : Nat) (a : (List Item)) : Option (List Item) :=
 chk (decide ((0 : Int) ≤ (a.length : Int)) && (decide ((a.length : Int) ≤ (LIM : Int)) && (a.length : Int) == (a.length : Int))) <|
 (laws_toItemS_l0 n (a, (List.replicate ((a.length : Int)).toNat zI), (0 : Int))).bind fun r2 => lpK r2 (fun y3 =>
 some y3.2.1) (fun z4 => some z4)

def laws_toMatrix (n : Nat) (a : Mat) : Option Mat :=
 (laws_toItemS n a.cells).bind fun r1 =>
 some (⟨a.rows, a.cols, r1⟩ : Mat)

def impl_gcd_r0 (a_2 : Int) (b_2 : Int) : Option (Round (Int × Int) Int) :=
 bif b_2 != (0 : Int) then
 chk (!(b_2 == (0 : Int))) <|
 some (.again (b_2, Int.tmod a_2 b_2))
 else some (.stop (a_2, b_2))

def impl_gcd_l0 (n : Nat) (x : (Int × Int)) : Option ((Int × Int) ⊕ Int) :=
 iter (fun x => impl_gcd_r0 x.1 x.2) n x

def impl_gcd_j2 (n : Nat) (a_1 : Int) (b_1 : Int) : Option Int :=
 (impl_gcd_l0 n (a_1, b_1)).bind fun r1 => lpK r1 (fun y2 =>
 some y2.1) (fun z3 => some z3)

def impl_gcd_j1 (n : Nat) (b : Int) (a_1 : Int) : Option Int :=
 bif decide (b < (0 : Int)) then
 impl_gcd_j2 n a_1 (w64 (0 - b))
 else impl_gcd_j2 n a_1 b

def impl_gcd (n : Nat) (a : Int) (b : Int) : Option Int :=
 bif decide (a < (0 : Int)) then
 impl_gcd_j1 n b (w64 (0 - a))
 else impl_gcd_j1 n b a

def impl_IsNumber (n : Nat) (x : Item) : Option Bool :=
 (bif (bif (bif (bif (bif (strEq x.text zS) then decide (x.den ≥ (1 : Int)) else false) then decide (x.den ≤ (999999999 : Int)) else false) then decide (x.num ≥ (-999999999 : Int)) else false) then decide (x.num ≤ (999999999 : Int)) else false) then impl_gcd n x.num x.den else some (0 : Int)).bind fun r1 =>
 some (bif (bif (bif (bif (bif (strEq x.text zS) then decide (x.den ≥ (1 : Int)) else false) then decide (x.den ≤ (999999999 : Int)) else false) then decide (x.num ≥ (-999999999 : Int)) else false) then decide (x.num ≤ (999999999 : Int)) else false) then r1 == (1 : Int) else false)

def impl_allNumbers_r0 (n : Nat) (t5 : (List Item)) (t6 : Int) (t7 : Int) : Option (Round ((List Item) × Int × Int) Bool) :=
 bif decide (t7 < t6) then
 chk (decide ((0 : Int) ≤ t7) && decide (t7 < (t5.length : Int))) <|
 (impl_IsNumber n (t5.getD (t7).toNat zI)).bind fun r1 =>
 bif !r1 then
 some (.ret false)
 else some (.again (t5, t6, w64 (t7 + (1 : Int))))
 else some (.stop (t5, t6, t7))

def impl_allNumbers_l0 (n : Nat) (x : ((List Item) × Int × Int)) : Option (((List Item) × Int × Int) ⊕ Bool) :=
 iter (fun x => impl_allNumbers_r0 n x.1 x.2.1 x.2.2) n x

def impl_allNumbers (n : Nat) (list : (List Item)) : Option Bool :=
 (impl_allNumbers_l0 n (list, (list.length : Int), (0 : Int))).bind fun r2 => lpK r2 (fun _ =>
 some true) (fun z4 => some z4)

def impl_IsMatrix (n : Nat) (m : Mat) : Option Bool :=
 bif (bif (bif (bif (bif decide (m.rows < (0 : Int)) then true else decide (m.rows > (12 : Int))) then true else decide (m.cols < (0 : Int))) then true else decide (m.cols > (12 : Int))) then true else (m.cells.length : Int) != (w64 (m.rows * m.cols))) then
 some false
 else (impl_allNumbers n m.cells).bind fun r1 =>
 some r1

def laws_eqItem (a : Item) (b : Item) : Option Bool :=
 bif a.num != b.num then
 some false
 else bif a.den != b.den then
 some false
 else bif !(strEq a.text b.text) then
 some false
 else some true

def laws_eqItemS_r0 (a_1 : (List Item)) (b_1 : (List Item)) (i : Int) : Option (Round ((List Item) × (List Item) × Int) Bool) :=
 bif decide (i < (a_1.length : Int)) then
 chk (decide ((0 : Int) ≤ i) && decide (i < (a_1.length : Int))) <|
 chk (decide ((0 : Int) ≤ i) && decide (i < (b_1.length : Int))) <|
 (laws_eqItem (a_1.getD (i).toNat zI) (b_1.getD (i).toNat zI)).bind fun r1 =>
 bif !r1 then
 some (.ret false)
 else some (.again (a_1, b_1, w64 (i + (1 : Int))))
 else some (.stop (a_1, b_1, i))

def laws_eqItemS_l0 (n : Nat) (x : ((List Item) × (List Item) × Int)) : Option (((List Item) × (List Item) × Int) ⊕ Bool) :=
 iter (fun x => laws_eqItemS_r0 x.1 x.2.1 x.2.2) n x

def laws_eqItemS (n : Nat) (a : (List Item)) (b : (List Item)) : Option Bool :=
 bif (a.length : Int) != (b.length : Int) then
 some false
 else (laws_eqItemS_l0 n (a, b, (0 : Int))).bind fun r2 => lpK r2 (fun _ =>
 some true) (fun z4 => some z4)

def laws_eqMatrix (n : Nat) (a : Mat) (b : Mat) : Option Bool :=
 bif a.rows != b.rows then
 some false
 else bif a.cols != b.cols then
 some false
 else (laws_eqItemS n a.cells b.cells).bind fun r1 =>
 bif !r1 then
 some false
 else some true

def laws_FnExactIsMatrix (n : Nat) (aM : Mat) : Option Bool :=
 (laws_szMatrix n aM (1048576 : Int)).bind fun r1 =>
 bif decide (r1 < (0 : Int)) then
 some true
 else (laws_toMatrix n aM).bind fun r2 =>
 (spec_IsMatrix n r2).bind fun r3 =>
 (laws_toMatrix n aM).bind fun r4 =>
 (impl_IsMatrix n r4).bind fun r5 =>
 bif !(r5 == r3) then
 some false
 else (laws_toMatrix n aM).bind fun r6 =>
 (laws_eqMatrix n r4 r6).bind fun r7 =>
 bif !r7 then
 some false
 else some true

end Go.AM
