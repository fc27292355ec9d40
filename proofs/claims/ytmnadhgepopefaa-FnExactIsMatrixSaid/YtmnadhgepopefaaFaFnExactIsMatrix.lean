/- Each function that the law FnExactIsMatrix reaches does what its typed function says; no condition. -/
import Derived.Test.YtmnadhgepopefaaChecked
import Derived.KernelRfl
import Derived.Test.YtmnadhgepopefaaFuFnExactIsMatrix
set_option maxRecDepth 100000
namespace Go.AM
open Go.Proofs
def T : Tab := ⟨getA [(2, (.int .i64)), (3, (.int .i64)), (4, .bool), (5, (.int .u8)), (6, (.int .u8)), (9, .str), (10, .str), (11, .str), (12, (.int .u64)), (21, (.int .i32)), (22, (.sl .item)), (23, .mat), (24, .mat), (27, (.sl .item)), (28, .mat), (29, .mat), (33, (.sl .vec)), (34, (.sl .str)), (35, .vec), (36, .vec), (39, (.sl .vec)), (40, .vec), (41, .vec), (46, (.sl (.int .i64))), (68, .item), (69, .item), (76, .item), (86, (.sl (.int .u8))), (98, (.int .u32)), (99, (.int .u8)), (100, (.int .u8)), (103, (.int .i32)), (104, (.int .i32))]⟩
theorem T_ok : TabOK Try.prog T := tabOk (by kernel_rfl)
theorem T_item : ItemOK Try.prog T := itemOk (by kernel_rfl)
theorem T.mixed : Try.prog.follows .mixedOrders = true := by kernel_rfl
def laws_szItem.sig (f : Dens [.item, (.int .i64)] → Option (Dens [(.int .i64)])) : Fun := ⟨[.item, (.int .i64)], [[], []], [], [(.int .i64)], [[]], f⟩
def laws_szItem.ρ  : Nat → Option Fun := getA []
def laws_szItem.E  : Env (Dens [(.int .i64)]) := ⟨T, laws_szItem.ρ , 13, [0, 1, 2, 4, 11], [], getA [], retOf [.tmp 4] [(.int .i64)] [[]]⟩
theorem laws_szItem.run (a : Item) (left : Int) : runF (laws_szItem.E ) (bodyOf Try.f59) (startOf [.item, (.int .i64)] [[], []] [] (a, left)) = laws_szItem a left := by kernel_rfl
theorem laws_szItem.K   : TabsOK Try.prog (laws_szItem.E ).T (laws_szItem.E ).ρ := ⟨T_ok, T_item, fun _ _ h => nomatch h⟩
theorem laws_szItem.top : loopsOf (bodyOf Try.f59) = [] := by kernel_rfl
theorem laws_szItem.fin  : FunIn Try.prog (F := laws_szItem.sig fun x => laws_szItem x.1 x.2) (laws_szItem.E ) 59 (bodyOf Try.f59) [.tmp 4] := ⟨⟨Try.f59, Try.func59, by kernel_rfl, by kernel_rfl, rfl, by kernel_rfl⟩, Nat.le_of_ble_eq_true rfl, rfl, by kernel_rfl, by kernel_rfl, by kernel_rfl, rfl⟩
theorem laws_szItem.fok   : FOK Try.prog 59 (laws_szItem.sig fun x => laws_szItem x.1 x.2) := fun_ok (laws_szItem.fin ) (laws_szItem.K  ) T.mixed (loops_of laws_szItem.top (loops_nil)) (fun x => laws_szItem.run x.1 x.2)

def laws_szItemS.sig (f : Dens [(.sl .item), (.int .i64)] → Option (Dens [(.int .i64)])) : Fun := ⟨[(.sl .item), (.int .i64)], [[], []], [], [(.int .i64)], [[]], f⟩
def laws_szItemS.ρ (_ : Nat) : Nat → Option Fun := getA [(59, laws_szItem.sig fun x => laws_szItem x.1 x.2)]
def laws_szItemS.keys0 : List KeyTy := [⟨.slot 0, (.sl .item), [.ps]⟩, ⟨.slot 1, (.int .i64), []⟩, ⟨.slot 5, (.int .i64), []⟩]
def laws_szItemS.L0 (n : Nat) : Loop (Dens [(.int .i64)]) := keyLoop laws_szItemS.keys0 [] (laws_szItemS_l0 n)
def laws_szItemS.E (n : Nat) : Env (Dens [(.int .i64)]) := ⟨T, laws_szItemS.ρ n, 27, [0, 1, 4, 5, 11, 15, 25], [], getA [(0, laws_szItemS.L0 n)], retOf [.tmp 4] [(.int .i64)] [[]]⟩
theorem laws_szItemS.round0 (n : Nat) (a_1 : (List Item)) (left_1 : Int) (i : Int) : roundK (laws_szItemS.E n) 0 (laws_szItemS.L0 n) ((findLoop 0 (bodyOf Try.f34)).getD .skip) (a_1, left_1, i) = laws_szItemS_r0 a_1 left_1 i := by kernel_rfl
theorem laws_szItemS.run (n : Nat) (a : (List Item)) (left : Int) : runF (laws_szItemS.E n) (bodyOf Try.f34) (startOf [(.sl .item), (.int .i64)] [[], []] [] (a, left)) = laws_szItemS n a left := by kernel_rfl
theorem laws_szItemS.K (n : Nat)  : TabsOK Try.prog (laws_szItemS.E n).T (laws_szItemS.E n).ρ := ⟨T_ok, T_item, rho_cons (laws_szItem.fok) (fun _ _ h => nomatch h)⟩
theorem laws_szItemS.in0 : loopsOf ((findLoop 0 (bodyOf Try.f34)).getD .skip) = [] := by kernel_rfl
theorem laws_szItemS.lp0 (n : Nat)  : LoopOK Try.prog (laws_szItemS.E n) 0 ((findLoop 0 (bodyOf Try.f34)).getD .skip) := loop_ok (ks := laws_szItemS.keys0) (cs := []) (B := fun x => laws_szItemS_r0 x.1 x.2.1 x.2.2) (laws_szItemS.K n ) T.mixed rfl (fun x => laws_szItemS.round0 n x.1 x.2.1 x.2.2) (loops_of laws_szItemS.in0 (loops_nil))
theorem laws_szItemS.top : loopsOf (bodyOf Try.f34) = [(0, ((findLoop 0 (bodyOf Try.f34)).getD .skip))] := by kernel_rfl
theorem laws_szItemS.fin (n : Nat) : FunIn Try.prog (F := laws_szItemS.sig fun x => laws_szItemS n x.1 x.2) (laws_szItemS.E n) 34 (bodyOf Try.f34) [.tmp 4] := ⟨⟨Try.f34, Try.func34, by kernel_rfl, by kernel_rfl, rfl, by kernel_rfl⟩, Nat.le_of_ble_eq_true rfl, rfl, by kernel_rfl, by kernel_rfl, by kernel_rfl, rfl⟩
theorem laws_szItemS.fok (n : Nat)  : FOK Try.prog 34 (laws_szItemS.sig fun x => laws_szItemS n x.1 x.2) := fun_ok (laws_szItemS.fin n) (laws_szItemS.K n ) T.mixed (loops_of laws_szItemS.top (loops_cons (laws_szItemS.lp0 n ) (loops_nil))) (fun x => laws_szItemS.run n x.1 x.2)

def laws_szMatrix.sig (f : Dens [.mat, (.int .i64)] → Option (Dens [(.int .i64)])) : Fun := ⟨[.mat, (.int .i64)], [[], []], [], [(.int .i64)], [[]], f⟩
def laws_szMatrix.ρ (n : Nat) : Nat → Option Fun := getA [(34, laws_szItemS.sig fun x => laws_szItemS n x.1 x.2)]
def laws_szMatrix.E (n : Nat) : Env (Dens [(.int .i64)]) := ⟨T, laws_szMatrix.ρ n, 12, [0, 1, 2, 4, 10], [], getA [], retOf [.tmp 4] [(.int .i64)] [[]]⟩
theorem laws_szMatrix.run (n : Nat) (a : Mat) (left : Int) : runF (laws_szMatrix.E n) (bodyOf Try.f9) (startOf [.mat, (.int .i64)] [[], []] [] (a, left)) = laws_szMatrix n a left := by kernel_rfl
theorem laws_szMatrix.K (n : Nat)  : TabsOK Try.prog (laws_szMatrix.E n).T (laws_szMatrix.E n).ρ := ⟨T_ok, T_item, rho_cons (laws_szItemS.fok n) (fun _ _ h => nomatch h)⟩
theorem laws_szMatrix.top : loopsOf (bodyOf Try.f9) = [] := by kernel_rfl
theorem laws_szMatrix.fin (n : Nat) : FunIn Try.prog (F := laws_szMatrix.sig fun x => laws_szMatrix n x.1 x.2) (laws_szMatrix.E n) 9 (bodyOf Try.f9) [.tmp 4] := ⟨⟨Try.f9, Try.func9, by kernel_rfl, by kernel_rfl, rfl, by kernel_rfl⟩, Nat.le_of_ble_eq_true rfl, rfl, by kernel_rfl, by kernel_rfl, by kernel_rfl, rfl⟩
theorem laws_szMatrix.fok (n : Nat)  : FOK Try.prog 9 (laws_szMatrix.sig fun x => laws_szMatrix n x.1 x.2) := fun_ok (laws_szMatrix.fin n) (laws_szMatrix.K n ) T.mixed (loops_of laws_szMatrix.top (loops_nil)) (fun x => laws_szMatrix.run n x.1 x.2)

def spec_l1In.sig (f : Dens [(.int .i64), (.int .i64), (.int .i64)] → Option (Dens [.bool])) : Fun := ⟨[(.int .i64), (.int .i64), (.int .i64)], [[], [], []], [], [.bool], [[]], f⟩
def spec_l1In.ρ  : Nat → Option Fun := getA []
def spec_l1In.E  : Env (Dens [.bool]) := ⟨T, spec_l1In.ρ , 15, [0, 1, 2, 6], [], getA [], retOf [.tmp 6] [.bool] [[]]⟩
theorem spec_l1In.run (x : Int) (low : Int) (high : Int) : runF (spec_l1In.E ) (bodyOf Try.f35) (startOf [(.int .i64), (.int .i64), (.int .i64)] [[], [], []] [] (x, low, high)) = spec_l1In x low high := by kernel_rfl
theorem spec_l1In.K   : TabsOK Try.prog (spec_l1In.E ).T (spec_l1In.E ).ρ := ⟨T_ok, T_item, fun _ _ h => nomatch h⟩
theorem spec_l1In.top : loopsOf (bodyOf Try.f35) = [] := by kernel_rfl
theorem spec_l1In.fin  : FunIn Try.prog (F := spec_l1In.sig fun x => spec_l1In x.1 x.2.1 x.2.2) (spec_l1In.E ) 35 (bodyOf Try.f35) [.tmp 6] := ⟨⟨Try.f35, Try.func35, by kernel_rfl, by kernel_rfl, rfl, by kernel_rfl⟩, Nat.le_of_ble_eq_true rfl, rfl, by kernel_rfl, by kernel_rfl, by kernel_rfl, rfl⟩
theorem spec_l1In.fok   : FOK Try.prog 35 (spec_l1In.sig fun x => spec_l1In x.1 x.2.1 x.2.2) := fun_ok (spec_l1In.fin ) (spec_l1In.K  ) T.mixed (loops_of spec_l1In.top (loops_nil)) (fun x => spec_l1In.run x.1 x.2.1 x.2.2)

def spec_l2Abs.sig (f : Dens [(.int .i64)] → Option (Dens [(.int .i64)])) : Fun := ⟨[(.int .i64)], [[]], [], [(.int .i64)], [[]], f⟩
def spec_l2Abs.ρ  : Nat → Option Fun := getA []
def spec_l2Abs.E  : Env (Dens [(.int .i64)]) := ⟨T, spec_l2Abs.ρ , 8, [0, 2, 4], [], getA [], retOf [.tmp 2] [(.int .i64)] [[]]⟩
theorem spec_l2Abs.run (n_ : Int) : runF (spec_l2Abs.E ) (bodyOf Try.f86) (startOf [(.int .i64)] [[]] [] n_) = spec_l2Abs n_ := by kernel_rfl
theorem spec_l2Abs.K   : TabsOK Try.prog (spec_l2Abs.E ).T (spec_l2Abs.E ).ρ := ⟨T_ok, T_item, fun _ _ h => nomatch h⟩
theorem spec_l2Abs.top : loopsOf (bodyOf Try.f86) = [] := by kernel_rfl
theorem spec_l2Abs.fin  : FunIn Try.prog (F := spec_l2Abs.sig fun x => spec_l2Abs x) (spec_l2Abs.E ) 86 (bodyOf Try.f86) [.tmp 2] := ⟨⟨Try.f86, Try.func86, by kernel_rfl, by kernel_rfl, rfl, by kernel_rfl⟩, Nat.le_of_ble_eq_true rfl, rfl, by kernel_rfl, by kernel_rfl, by kernel_rfl, rfl⟩
theorem spec_l2Abs.fok   : FOK Try.prog 86 (spec_l2Abs.sig fun x => spec_l2Abs x) := fun_ok (spec_l2Abs.fin ) (spec_l2Abs.K  ) T.mixed (loops_of spec_l2Abs.top (loops_nil)) (fun x => spec_l2Abs.run x)

def spec_l2Gcd.sig (f : Dens [(.int .i64), (.int .i64)] → Option (Dens [(.int .i64)])) : Fun := ⟨[(.int .i64), (.int .i64)], [[], []], [], [(.int .i64)], [[]], f⟩
def spec_l2Gcd.ρ (_ : Nat) : Nat → Option Fun := getA [(86, spec_l2Abs.sig fun x => spec_l2Abs x)]
def spec_l2Gcd.keys0 : List KeyTy := [⟨.slot 5, (.int .i64), []⟩, ⟨.slot 6, (.int .i64), []⟩]
def spec_l2Gcd.L0 (n : Nat) : Loop (Dens [(.int .i64)]) := keyLoop spec_l2Gcd.keys0 [] (spec_l2Gcd_l0 n)
def spec_l2Gcd.E (n : Nat) : Env (Dens [(.int .i64)]) := ⟨T, spec_l2Gcd.ρ n, 20, [0, 1, 4, 5, 6, 7, 13], [], getA [(0, spec_l2Gcd.L0 n)], retOf [.tmp 4] [(.int .i64)] [[]]⟩
theorem spec_l2Gcd.round0 (n : Nat) (x : Int) (y : Int) : roundK (spec_l2Gcd.E n) 0 (spec_l2Gcd.L0 n) ((findLoop 0 (bodyOf Try.f76)).getD .skip) (x, y) = spec_l2Gcd_r0 x y := by kernel_rfl
theorem spec_l2Gcd.run (n : Nat) (a : Int) (b : Int) : runF (spec_l2Gcd.E n) (bodyOf Try.f76) (startOf [(.int .i64), (.int .i64)] [[], []] [] (a, b)) = spec_l2Gcd n a b := by kernel_rfl
theorem spec_l2Gcd.K (n : Nat)  : TabsOK Try.prog (spec_l2Gcd.E n).T (spec_l2Gcd.E n).ρ := ⟨T_ok, T_item, rho_cons (spec_l2Abs.fok) (fun _ _ h => nomatch h)⟩
theorem spec_l2Gcd.in0 : loopsOf ((findLoop 0 (bodyOf Try.f76)).getD .skip) = [] := by kernel_rfl
theorem spec_l2Gcd.lp0 (n : Nat)  : LoopOK Try.prog (spec_l2Gcd.E n) 0 ((findLoop 0 (bodyOf Try.f76)).getD .skip) := loop_ok (ks := spec_l2Gcd.keys0) (cs := []) (B := fun x => spec_l2Gcd_r0 x.1 x.2) (spec_l2Gcd.K n ) T.mixed rfl (fun x => spec_l2Gcd.round0 n x.1 x.2) (loops_of spec_l2Gcd.in0 (loops_nil))
theorem spec_l2Gcd.top : loopsOf (bodyOf Try.f76) = [(0, ((findLoop 0 (bodyOf Try.f76)).getD .skip))] := by kernel_rfl
theorem spec_l2Gcd.fin (n : Nat) : FunIn Try.prog (F := spec_l2Gcd.sig fun x => spec_l2Gcd n x.1 x.2) (spec_l2Gcd.E n) 76 (bodyOf Try.f76) [.tmp 4] := ⟨⟨Try.f76, Try.func76, by kernel_rfl, by kernel_rfl, rfl, by kernel_rfl⟩, Nat.le_of_ble_eq_true rfl, rfl, by kernel_rfl, by kernel_rfl, by kernel_rfl, rfl⟩
theorem spec_l2Gcd.fok (n : Nat)  : FOK Try.prog 76 (spec_l2Gcd.sig fun x => spec_l2Gcd n x.1 x.2) := fun_ok (spec_l2Gcd.fin n) (spec_l2Gcd.K n ) T.mixed (loops_of spec_l2Gcd.top (loops_cons (spec_l2Gcd.lp0 n ) (loops_nil))) (fun x => spec_l2Gcd.run n x.1 x.2)

def spec_IsNumber.sig (f : Dens [.item] → Option (Dens [.bool])) : Fun := ⟨[.item], [[]], [], [.bool], [[]], f⟩
def spec_IsNumber.ρ (n : Nat) : Nat → Option Fun := getA [(35, spec_l1In.sig fun x => spec_l1In x.1 x.2.1 x.2.2), (76, spec_l2Gcd.sig fun x => spec_l2Gcd n x.1 x.2)]
def spec_IsNumber.E (n : Nat) : Env (Dens [.bool]) := ⟨T, spec_IsNumber.ρ n, 24, [0, 1, 2], [], getA [], retOf [.tmp 2] [.bool] [[]]⟩
theorem spec_IsNumber.run (n : Nat) (x : Item) : runF (spec_IsNumber.E n) (bodyOf Try.f60) (startOf [.item] [[]] [] x) = spec_IsNumber n x := by kernel_rfl
theorem spec_IsNumber.K (n : Nat)  : TabsOK Try.prog (spec_IsNumber.E n).T (spec_IsNumber.E n).ρ := ⟨T_ok, T_item, rho_cons (spec_l1In.fok) (rho_cons (spec_l2Gcd.fok n) (fun _ _ h => nomatch h))⟩
theorem spec_IsNumber.top : loopsOf (bodyOf Try.f60) = [] := by kernel_rfl
theorem spec_IsNumber.fin (n : Nat) : FunIn Try.prog (F := spec_IsNumber.sig fun x => spec_IsNumber n x) (spec_IsNumber.E n) 60 (bodyOf Try.f60) [.tmp 2] := ⟨⟨Try.f60, Try.func60, by kernel_rfl, by kernel_rfl, rfl, by kernel_rfl⟩, Nat.le_of_ble_eq_true rfl, rfl, by kernel_rfl, by kernel_rfl, by kernel_rfl, rfl⟩
theorem spec_IsNumber.fok (n : Nat)  : FOK Try.prog 60 (spec_IsNumber.sig fun x => spec_IsNumber n x) := fun_ok (spec_IsNumber.fin n) (spec_IsNumber.K n ) T.mixed (loops_of spec_IsNumber.top (loops_nil)) (fun x => spec_IsNumber.run n x)

def spec_l14Known.sig (f : Dens [.mat] → Option (Dens [.bool])) : Fun := ⟨[.mat], [[]], [], [.bool], [[]], f⟩
def spec_l14Known.ρ (n : Nat) : Nat → Option Fun := getA [(60, spec_IsNumber.sig fun x => spec_IsNumber n x)]
def spec_l14Known.keys0 : List KeyTy := [⟨.box 1, .mat, [.ps, .ps, .ps]⟩, ⟨.slot 3, (.int .i64), []⟩]
def spec_l14Known.L0 (n : Nat) : Loop (Dens [.bool]) := keyLoop spec_l14Known.keys0 [] (spec_l14Known_l0 n)
def spec_l14Known.E (n : Nat) : Env (Dens [.bool]) := ⟨T, spec_l14Known.ρ n, 18, [0, 1, 2, 3, 8, 17], [], getA [(0, spec_l14Known.L0 n)], retOf [.tmp 2] [.bool] [[]]⟩
theorem spec_l14Known.round0 (n : Nat) (m_1 : Mat) (i : Int) : roundK (spec_l14Known.E n) 0 (spec_l14Known.L0 n) ((findLoop 0 (bodyOf Try.f36)).getD .skip) (m_1, i) = spec_l14Known_r0 n m_1 i := by kernel_rfl
theorem spec_l14Known.run (n : Nat) (m : Mat) : runF (spec_l14Known.E n) (bodyOf Try.f36) (startOf [.mat] [[]] [] m) = spec_l14Known n m := by kernel_rfl
theorem spec_l14Known.K (n : Nat)  : TabsOK Try.prog (spec_l14Known.E n).T (spec_l14Known.E n).ρ := ⟨T_ok, T_item, rho_cons (spec_IsNumber.fok n) (fun _ _ h => nomatch h)⟩
theorem spec_l14Known.in0 : loopsOf ((findLoop 0 (bodyOf Try.f36)).getD .skip) = [] := by kernel_rfl
theorem spec_l14Known.lp0 (n : Nat)  : LoopOK Try.prog (spec_l14Known.E n) 0 ((findLoop 0 (bodyOf Try.f36)).getD .skip) := loop_ok (ks := spec_l14Known.keys0) (cs := []) (B := fun x => spec_l14Known_r0 n x.1 x.2) (spec_l14Known.K n ) T.mixed rfl (fun x => spec_l14Known.round0 n x.1 x.2) (loops_of spec_l14Known.in0 (loops_nil))
theorem spec_l14Known.top : loopsOf (bodyOf Try.f36) = [(0, ((findLoop 0 (bodyOf Try.f36)).getD .skip))] := by kernel_rfl
theorem spec_l14Known.fin (n : Nat) : FunIn Try.prog (F := spec_l14Known.sig fun x => spec_l14Known n x) (spec_l14Known.E n) 36 (bodyOf Try.f36) [.tmp 2] := ⟨⟨Try.f36, Try.func36, by kernel_rfl, by kernel_rfl, rfl, by kernel_rfl⟩, Nat.le_of_ble_eq_true rfl, rfl, by kernel_rfl, by kernel_rfl, by kernel_rfl, rfl⟩
theorem spec_l14Known.fok (n : Nat)  : FOK Try.prog 36 (spec_l14Known.sig fun x => spec_l14Known n x) := fun_ok (spec_l14Known.fin n) (spec_l14Known.K n ) T.mixed (loops_of spec_l14Known.top (loops_cons (spec_l14Known.lp0 n ) (loops_nil))) (fun x => spec_l14Known.run n x)

def spec_IsMatrix.sig (f : Dens [.mat] → Option (Dens [.bool])) : Fun := ⟨[.mat], [[]], [], [.bool], [[]], f⟩
def spec_IsMatrix.ρ (n : Nat) : Nat → Option Fun := getA [(35, spec_l1In.sig fun x => spec_l1In x.1 x.2.1 x.2.2), (36, spec_l14Known.sig fun x => spec_l14Known n x)]
def spec_IsMatrix.E (n : Nat) : Env (Dens [.bool]) := ⟨T, spec_IsMatrix.ρ n, 26, [0, 1, 2, 23], [], getA [], retOf [.tmp 2] [.bool] [[]]⟩
theorem spec_IsMatrix.run (n : Nat) (m : Mat) : runF (spec_IsMatrix.E n) (bodyOf Try.f10) (startOf [.mat] [[]] [] m) = spec_IsMatrix n m := by kernel_rfl
theorem spec_IsMatrix.K (n : Nat)  : TabsOK Try.prog (spec_IsMatrix.E n).T (spec_IsMatrix.E n).ρ := ⟨T_ok, T_item, rho_cons (spec_l1In.fok) (rho_cons (spec_l14Known.fok n) (fun _ _ h => nomatch h))⟩
theorem spec_IsMatrix.top : loopsOf (bodyOf Try.f10) = [] := by kernel_rfl
theorem spec_IsMatrix.fin (n : Nat) : FunIn Try.prog (F := spec_IsMatrix.sig fun x => spec_IsMatrix n x) (spec_IsMatrix.E n) 10 (bodyOf Try.f10) [.tmp 2] := ⟨⟨Try.f10, Try.func10, by kernel_rfl, by kernel_rfl, rfl, by kernel_rfl⟩, Nat.le_of_ble_eq_true rfl, rfl, by kernel_rfl, by kernel_rfl, by kernel_rfl, rfl⟩
theorem spec_IsMatrix.fok (n : Nat)  : FOK Try.prog 10 (spec_IsMatrix.sig fun x => spec_IsMatrix n x) := fun_ok (spec_IsMatrix.fin n) (spec_IsMatrix.K n ) T.mixed (loops_of spec_IsMatrix.top (loops_nil)) (fun x => spec_IsMatrix.run n x)

def laws_toItem.sig (f : Dens [.item] → Option (Dens [.item])) : Fun := ⟨[.item], [[]], [], [.item], [[]], f⟩
def laws_toItem.ρ  : Nat → Option Fun := getA []
def laws_toItem.E  : Env (Dens [.item]) := ⟨T, laws_toItem.ρ , 14, [0, 1, 2, 3], [], getA [], retOf [.cell 2 69] [.item] [[]]⟩
theorem laws_toItem.run (a : Item) : runF (laws_toItem.E ) (bodyOf Try.f61) (startOf [.item] [[]] [] a) = laws_toItem a := by kernel_rfl
theorem laws_toItem.K   : TabsOK Try.prog (laws_toItem.E ).T (laws_toItem.E ).ρ := ⟨T_ok, T_item, fun _ _ h => nomatch h⟩
theorem laws_toItem.top : loopsOf (bodyOf Try.f61) = [] := by kernel_rfl
theorem laws_toItem.fin  : FunIn Try.prog (F := laws_toItem.sig fun x => laws_toItem x) (laws_toItem.E ) 61 (bodyOf Try.f61) [.cell 2 69] := ⟨⟨Try.f61, Try.func61, by kernel_rfl, by kernel_rfl, rfl, by kernel_rfl⟩, Nat.le_of_ble_eq_true rfl, rfl, by kernel_rfl, by kernel_rfl, by kernel_rfl, rfl⟩
theorem laws_toItem.fok   : FOK Try.prog 61 (laws_toItem.sig fun x => laws_toItem x) := fun_ok (laws_toItem.fin ) (laws_toItem.K  ) T.mixed (loops_of laws_toItem.top (loops_nil)) (fun x => laws_toItem.run x)

def laws_toItemS.sig (f : Dens [(.sl .item)] → Option (Dens [(.sl .item)])) : Fun := ⟨[(.sl .item)], [[]], [], [(.sl .item)], [[(.own true 0)]], f⟩
def laws_toItemS.ρ (_ : Nat) : Nat → Option Fun := getA [(61, laws_toItem.sig fun x => laws_toItem x)]
def laws_toItemS.keys0 : List KeyTy := [⟨.slot 0, (.sl .item), [.ps]⟩, ⟨.slot 3, (.sl .item), [(.own true 0)]⟩, ⟨.slot 4, (.int .i64), []⟩]
def laws_toItemS.L0 (n : Nat) : Loop (Dens [(.sl .item)]) := keyLoop laws_toItemS.keys0 [] (laws_toItemS_l0 n)
def laws_toItemS.E (n : Nat) : Env (Dens [(.sl .item)]) := ⟨T, laws_toItemS.ρ n, 23, [0, 2, 3, 4, 11], [], getA [(0, laws_toItemS.L0 n)], retOf [.tmp 2] [(.sl .item)] [[(.own true 0)]]⟩
theorem laws_toItemS.round0 (n : Nat) (a_1 : (List Item)) (out : (List Item)) (i : Int) : roundK (laws_toItemS.E n) 0 (laws_toItemS.L0 n) ((findLoop 0 (bodyOf Try.f37)).getD .skip) (a_1, out, i) = laws_toItemS_r0 a_1 out i := by kernel_rfl
theorem laws_toItemS.run (n : Nat) (a : (List Item)) : runF (laws_toItemS.E n) (bodyOf Try.f37) (startOf [(.sl .item)] [[]] [] a) = laws_toItemS n a := by kernel_rfl
theorem laws_toItemS.K (n : Nat)  : TabsOK Try.prog (laws_toItemS.E n).T (laws_toItemS.E n).ρ := ⟨T_ok, T_item, rho_cons (laws_toItem.fok) (fun _ _ h => nomatch h)⟩
theorem laws_toItemS.in0 : loopsOf ((findLoop 0 (bodyOf Try.f37)).getD .skip) = [] := by kernel_rfl
theorem laws_toItemS.lp0 (n : Nat)  : LoopOK Try.prog (laws_toItemS.E n) 0 ((findLoop 0 (bodyOf Try.f37)).getD .skip) := loop_ok (ks := laws_toItemS.keys0) (cs := []) (B := fun x => laws_toItemS_r0 x.1 x.2.1 x.2.2) (laws_toItemS.K n ) T.mixed rfl (fun x => laws_toItemS.round0 n x.1 x.2.1 x.2.2) (loops_of laws_toItemS.in0 (loops_nil))
theorem laws_toItemS.top : loopsOf (bodyOf Try.f37) = [(0, ((findLoop 0 (bodyOf Try.f37)).getD .skip))] := by kernel_rfl
theorem laws_toItemS.fin (n : Nat) : FunIn Try.prog (F := laws_toItemS.sig fun x => laws_toItemS n x) (laws_toItemS.E n) 37 (bodyOf Try.f37) [.tmp 2] := ⟨⟨Try.f37, Try.func37, by kernel_rfl, by kernel_rfl, rfl, by kernel_rfl⟩, Nat.le_of_ble_eq_true rfl, rfl, by kernel_rfl, by kernel_rfl, by kernel_rfl, rfl⟩
theorem laws_toItemS.fok (n : Nat)  : FOK Try.prog 37 (laws_toItemS.sig fun x => laws_toItemS n x) := fun_ok (laws_toItemS.fin n) (laws_toItemS.K n ) T.mixed (loops_of laws_toItemS.top (loops_cons (laws_toItemS.lp0 n ) (loops_nil))) (fun x => laws_toItemS.run n x)

def laws_toMatrix.sig (f : Dens [.mat] → Option (Dens [.mat])) : Fun := ⟨[.mat], [[]], [], [.mat], [[.ps, .ps, (.own true 0)]], f⟩
def laws_toMatrix.ρ (n : Nat) : Nat → Option Fun := getA [(37, laws_toItemS.sig fun x => laws_toItemS n x)]
def laws_toMatrix.E (n : Nat) : Env (Dens [.mat]) := ⟨T, laws_toMatrix.ρ n, 15, [0, 1, 2, 3], [], getA [], retOf [.cell 2 29] [.mat] [[.ps, .ps, (.own true 0)]]⟩
theorem laws_toMatrix.run (n : Nat) (a : Mat) : runF (laws_toMatrix.E n) (bodyOf Try.f11) (startOf [.mat] [[]] [] a) = laws_toMatrix n a := by kernel_rfl
theorem laws_toMatrix.K (n : Nat)  : TabsOK Try.prog (laws_toMatrix.E n).T (laws_toMatrix.E n).ρ := ⟨T_ok, T_item, rho_cons (laws_toItemS.fok n) (fun _ _ h => nomatch h)⟩
theorem laws_toMatrix.top : loopsOf (bodyOf Try.f11) = [] := by kernel_rfl
theorem laws_toMatrix.fin (n : Nat) : FunIn Try.prog (F := laws_toMatrix.sig fun x => laws_toMatrix n x) (laws_toMatrix.E n) 11 (bodyOf Try.f11) [.cell 2 29] := ⟨⟨Try.f11, Try.func11, by kernel_rfl, by kernel_rfl, rfl, by kernel_rfl⟩, Nat.le_of_ble_eq_true rfl, rfl, by kernel_rfl, by kernel_rfl, by kernel_rfl, rfl⟩
theorem laws_toMatrix.fok (n : Nat)  : FOK Try.prog 11 (laws_toMatrix.sig fun x => laws_toMatrix n x) := fun_ok (laws_toMatrix.fin n) (laws_toMatrix.K n ) T.mixed (loops_of laws_toMatrix.top (loops_nil)) (fun x => laws_toMatrix.run n x)

def impl_gcd.sig (f : Dens [(.int .i64), (.int .i64)] → Option (Dens [(.int .i64)])) : Fun := ⟨[(.int .i64), (.int .i64)], [[], []], [], [(.int .i64)], [[]], f⟩
def impl_gcd.ρ (_ : Nat) : Nat → Option Fun := getA []
def impl_gcd.keys0 : List KeyTy := [⟨.slot 0, (.int .i64), []⟩, ⟨.slot 1, (.int .i64), []⟩]
def impl_gcd.L0 (n : Nat) : Loop (Dens [(.int .i64)]) := keyLoop impl_gcd.keys0 [] (impl_gcd_l0 n)
def impl_gcd.E (n : Nat) : Env (Dens [(.int .i64)]) := ⟨T, impl_gcd.ρ n, 20, [0, 1, 4, 6, 10, 14], [], getA [(0, impl_gcd.L0 n)], retOf [.tmp 4] [(.int .i64)] [[]]⟩
theorem impl_gcd.round0 (n : Nat) (a_2 : Int) (b_2 : Int) : roundK (impl_gcd.E n) 0 (impl_gcd.L0 n) ((findLoop 0 (bodyOf Try.f77)).getD .skip) (a_2, b_2) = impl_gcd_r0 a_2 b_2 := by kernel_rfl
theorem impl_gcd.run (n : Nat) (a : Int) (b : Int) : runF (impl_gcd.E n) (bodyOf Try.f77) (startOf [(.int .i64), (.int .i64)] [[], []] [] (a, b)) = impl_gcd n a b := by kernel_rfl
theorem impl_gcd.K (n : Nat)  : TabsOK Try.prog (impl_gcd.E n).T (impl_gcd.E n).ρ := ⟨T_ok, T_item, fun _ _ h => nomatch h⟩
theorem impl_gcd.in0 : loopsOf ((findLoop 0 (bodyOf Try.f77)).getD .skip) = [] := by kernel_rfl
theorem impl_gcd.lp0 (n : Nat)  : LoopOK Try.prog (impl_gcd.E n) 0 ((findLoop 0 (bodyOf Try.f77)).getD .skip) := loop_ok (ks := impl_gcd.keys0) (cs := []) (B := fun x => impl_gcd_r0 x.1 x.2) (impl_gcd.K n ) T.mixed rfl (fun x => impl_gcd.round0 n x.1 x.2) (loops_of impl_gcd.in0 (loops_nil))
theorem impl_gcd.top : loopsOf (bodyOf Try.f77) = [(0, ((findLoop 0 (bodyOf Try.f77)).getD .skip))] := by kernel_rfl
theorem impl_gcd.fin (n : Nat) : FunIn Try.prog (F := impl_gcd.sig fun x => impl_gcd n x.1 x.2) (impl_gcd.E n) 77 (bodyOf Try.f77) [.tmp 4] := ⟨⟨Try.f77, Try.func77, by kernel_rfl, by kernel_rfl, rfl, by kernel_rfl⟩, Nat.le_of_ble_eq_true rfl, rfl, by kernel_rfl, by kernel_rfl, by kernel_rfl, rfl⟩
theorem impl_gcd.fok (n : Nat)  : FOK Try.prog 77 (impl_gcd.sig fun x => impl_gcd n x.1 x.2) := fun_ok (impl_gcd.fin n) (impl_gcd.K n ) T.mixed (loops_of impl_gcd.top (loops_cons (impl_gcd.lp0 n ) (loops_nil))) (fun x => impl_gcd.run n x.1 x.2)

def impl_IsNumber.sig (f : Dens [.item] → Option (Dens [.bool])) : Fun := ⟨[.item], [[]], [], [.bool], [[]], f⟩
def impl_IsNumber.ρ (n : Nat) : Nat → Option Fun := getA [(77, impl_gcd.sig fun x => impl_gcd n x.1 x.2)]
def impl_IsNumber.E (n : Nat) : Env (Dens [.bool]) := ⟨T, impl_IsNumber.ρ n, 34, [0, 1, 2], [], getA [], retOf [.tmp 2] [.bool] [[]]⟩
theorem impl_IsNumber.run (n : Nat) (x : Item) : runF (impl_IsNumber.E n) (bodyOf Try.f62) (startOf [.item] [[]] [] x) = impl_IsNumber n x := by kernel_rfl
theorem impl_IsNumber.K (n : Nat)  : TabsOK Try.prog (impl_IsNumber.E n).T (impl_IsNumber.E n).ρ := ⟨T_ok, T_item, rho_cons (impl_gcd.fok n) (fun _ _ h => nomatch h)⟩
theorem impl_IsNumber.top : loopsOf (bodyOf Try.f62) = [] := by kernel_rfl
theorem impl_IsNumber.fin (n : Nat) : FunIn Try.prog (F := impl_IsNumber.sig fun x => impl_IsNumber n x) (impl_IsNumber.E n) 62 (bodyOf Try.f62) [.tmp 2] := ⟨⟨Try.f62, Try.func62, by kernel_rfl, by kernel_rfl, rfl, by kernel_rfl⟩, Nat.le_of_ble_eq_true rfl, rfl, by kernel_rfl, by kernel_rfl, by kernel_rfl, rfl⟩
theorem impl_IsNumber.fok (n : Nat)  : FOK Try.prog 62 (impl_IsNumber.sig fun x => impl_IsNumber n x) := fun_ok (impl_IsNumber.fin n) (impl_IsNumber.K n ) T.mixed (loops_of impl_IsNumber.top (loops_nil)) (fun x => impl_IsNumber.run n x)

def impl_allNumbers.sig (f : Dens [(.sl .item)] → Option (Dens [.bool])) : Fun := ⟨[(.sl .item)], [[]], [], [.bool], [[]], f⟩
def impl_allNumbers.ρ (n : Nat) : Nat → Option Fun := getA [(62, impl_IsNumber.sig fun x => impl_IsNumber n x)]
def impl_allNumbers.keys0 : List KeyTy := [⟨.slot 5, (.sl .item), [.ps]⟩, ⟨.slot 6, (.int .i64), []⟩, ⟨.slot 7, (.int .i64), []⟩]
def impl_allNumbers.L0 (n : Nat) : Loop (Dens [.bool]) := keyLoop impl_allNumbers.keys0 [] (impl_allNumbers_l0 n)
def impl_allNumbers.E (n : Nat) : Env (Dens [.bool]) := ⟨T, impl_allNumbers.ρ n, 15, [0, 2, 4, 5, 6, 7, 8, 13], [5], getA [(0, impl_allNumbers.L0 n)], retOf [.tmp 2] [.bool] [[]]⟩
theorem impl_allNumbers.round0 (n : Nat) (t5 : (List Item)) (t6 : Int) (t7 : Int) : roundK (impl_allNumbers.E n) 0 (impl_allNumbers.L0 n) ((findLoop 0 (bodyOf Try.f38)).getD .skip) (t5, t6, t7) = impl_allNumbers_r0 n t5 t6 t7 := by kernel_rfl
theorem impl_allNumbers.run (n : Nat) (list : (List Item)) : runF (impl_allNumbers.E n) (bodyOf Try.f38) (startOf [(.sl .item)] [[]] [] list) = impl_allNumbers n list := by kernel_rfl
theorem impl_allNumbers.K (n : Nat)  : TabsOK Try.prog (impl_allNumbers.E n).T (impl_allNumbers.E n).ρ := ⟨T_ok, T_item, rho_cons (impl_IsNumber.fok n) (fun _ _ h => nomatch h)⟩
theorem impl_allNumbers.in0 : loopsOf ((findLoop 0 (bodyOf Try.f38)).getD .skip) = [] := by kernel_rfl
theorem impl_allNumbers.lp0 (n : Nat)  : LoopOK Try.prog (impl_allNumbers.E n) 0 ((findLoop 0 (bodyOf Try.f38)).getD .skip) := loop_ok (ks := impl_allNumbers.keys0) (cs := []) (B := fun x => impl_allNumbers_r0 n x.1 x.2.1 x.2.2) (impl_allNumbers.K n ) T.mixed rfl (fun x => impl_allNumbers.round0 n x.1 x.2.1 x.2.2) (loops_of impl_allNumbers.in0 (loops_nil))
theorem impl_allNumbers.top : loopsOf (bodyOf Try.f38) = [(0, ((findLoop 0 (bodyOf Try.f38)).getD .skip))] := by kernel_rfl
theorem impl_allNumbers.fin (n : Nat) : FunIn Try.prog (F := impl_allNumbers.sig fun x => impl_allNumbers n x) (impl_allNumbers.E n) 38 (bodyOf Try.f38) [.tmp 2] := ⟨⟨Try.f38, Try.func38, by kernel_rfl, by kernel_rfl, rfl, by kernel_rfl⟩, Nat.le_of_ble_eq_true rfl, rfl, by kernel_rfl, by kernel_rfl, by kernel_rfl, rfl⟩
theorem impl_allNumbers.fok (n : Nat)  : FOK Try.prog 38 (impl_allNumbers.sig fun x => impl_allNumbers n x) := fun_ok (impl_allNumbers.fin n) (impl_allNumbers.K n ) T.mixed (loops_of impl_allNumbers.top (loops_cons (impl_allNumbers.lp0 n ) (loops_nil))) (fun x => impl_allNumbers.run n x)

def impl_IsMatrix.sig (f : Dens [.mat] → Option (Dens [.bool])) : Fun := ⟨[.mat], [[]], [], [.bool], [[]], f⟩
def impl_IsMatrix.ρ (n : Nat) : Nat → Option Fun := getA [(38, impl_allNumbers.sig fun x => impl_allNumbers n x)]
def impl_IsMatrix.E (n : Nat) : Env (Dens [.bool]) := ⟨T, impl_IsMatrix.ρ n, 35, [0, 1, 2, 31], [], getA [], retOf [.tmp 2] [.bool] [[]]⟩
theorem impl_IsMatrix.run (n : Nat) (m : Mat) : runF (impl_IsMatrix.E n) (bodyOf Try.f12) (startOf [.mat] [[]] [] m) = impl_IsMatrix n m := by kernel_rfl
theorem impl_IsMatrix.K (n : Nat)  : TabsOK Try.prog (impl_IsMatrix.E n).T (impl_IsMatrix.E n).ρ := ⟨T_ok, T_item, rho_cons (impl_allNumbers.fok n) (fun _ _ h => nomatch h)⟩
theorem impl_IsMatrix.top : loopsOf (bodyOf Try.f12) = [] := by kernel_rfl
theorem impl_IsMatrix.fin (n : Nat) : FunIn Try.prog (F := impl_IsMatrix.sig fun x => impl_IsMatrix n x) (impl_IsMatrix.E n) 12 (bodyOf Try.f12) [.tmp 2] := ⟨⟨Try.f12, Try.func12, by kernel_rfl, by kernel_rfl, rfl, by kernel_rfl⟩, Nat.le_of_ble_eq_true rfl, rfl, by kernel_rfl, by kernel_rfl, by kernel_rfl, rfl⟩
theorem impl_IsMatrix.fok (n : Nat)  : FOK Try.prog 12 (impl_IsMatrix.sig fun x => impl_IsMatrix n x) := fun_ok (impl_IsMatrix.fin n) (impl_IsMatrix.K n ) T.mixed (loops_of impl_IsMatrix.top (loops_nil)) (fun x => impl_IsMatrix.run n x)

def laws_eqItem.sig (f : Dens [.item, .item] → Option (Dens [.bool])) : Fun := ⟨[.item, .item], [[], []], [], [.bool], [[]], f⟩
def laws_eqItem.ρ  : Nat → Option Fun := getA []
def laws_eqItem.E  : Env (Dens [.bool]) := ⟨T, laws_eqItem.ρ , 20, [0, 1, 2, 3, 4, 9, 14, 19], [], getA [], retOf [.tmp 4] [.bool] [[]]⟩
theorem laws_eqItem.run (a : Item) (b : Item) : runF (laws_eqItem.E ) (bodyOf Try.f63) (startOf [.item, .item] [[], []] [] (a, b)) = laws_eqItem a b := by kernel_rfl
theorem laws_eqItem.K   : TabsOK Try.prog (laws_eqItem.E ).T (laws_eqItem.E ).ρ := ⟨T_ok, T_item, fun _ _ h => nomatch h⟩
theorem laws_eqItem.top : loopsOf (bodyOf Try.f63) = [] := by kernel_rfl
theorem laws_eqItem.fin  : FunIn Try.prog (F := laws_eqItem.sig fun x => laws_eqItem x.1 x.2) (laws_eqItem.E ) 63 (bodyOf Try.f63) [.tmp 4] := ⟨⟨Try.f63, Try.func63, by kernel_rfl, by kernel_rfl, rfl, by kernel_rfl⟩, Nat.le_of_ble_eq_true rfl, rfl, by kernel_rfl, by kernel_rfl, by kernel_rfl, rfl⟩
theorem laws_eqItem.fok   : FOK Try.prog 63 (laws_eqItem.sig fun x => laws_eqItem x.1 x.2) := fun_ok (laws_eqItem.fin ) (laws_eqItem.K  ) T.mixed (loops_of laws_eqItem.top (loops_nil)) (fun x => laws_eqItem.run x.1 x.2)

def laws_eqItemS.sig (f : Dens [(.sl .item), (.sl .item)] → Option (Dens [.bool])) : Fun := ⟨[(.sl .item), (.sl .item)], [[], []], [], [.bool], [[]], f⟩
def laws_eqItemS.ρ (_ : Nat) : Nat → Option Fun := getA [(63, laws_eqItem.sig fun x => laws_eqItem x.1 x.2)]
def laws_eqItemS.keys0 : List KeyTy := [⟨.slot 0, (.sl .item), [.ps]⟩, ⟨.slot 1, (.sl .item), [.ps]⟩, ⟨.slot 5, (.int .i64), []⟩]
def laws_eqItemS.L0 (n : Nat) : Loop (Dens [.bool]) := keyLoop laws_eqItemS.keys0 [] (laws_eqItemS_l0 n)
def laws_eqItemS.E (n : Nat) : Env (Dens [.bool]) := ⟨T, laws_eqItemS.ρ n, 27, [0, 1, 4, 5, 10, 14, 26], [], getA [(0, laws_eqItemS.L0 n)], retOf [.tmp 4] [.bool] [[]]⟩
theorem laws_eqItemS.round0 (n : Nat) (a_1 : (List Item)) (b_1 : (List Item)) (i : Int) : roundK (laws_eqItemS.E n) 0 (laws_eqItemS.L0 n) ((findLoop 0 (bodyOf Try.f39)).getD .skip) (a_1, b_1, i) = laws_eqItemS_r0 a_1 b_1 i := by kernel_rfl
theorem laws_eqItemS.run (n : Nat) (a : (List Item)) (b : (List Item)) : runF (laws_eqItemS.E n) (bodyOf Try.f39) (startOf [(.sl .item), (.sl .item)] [[], []] [] (a, b)) = laws_eqItemS n a b := by kernel_rfl
theorem laws_eqItemS.K (n : Nat)  : TabsOK Try.prog (laws_eqItemS.E n).T (laws_eqItemS.E n).ρ := ⟨T_ok, T_item, rho_cons (laws_eqItem.fok) (fun _ _ h => nomatch h)⟩
theorem laws_eqItemS.in0 : loopsOf ((findLoop 0 (bodyOf Try.f39)).getD .skip) = [] := by kernel_rfl
theorem laws_eqItemS.lp0 (n : Nat)  : LoopOK Try.prog (laws_eqItemS.E n) 0 ((findLoop 0 (bodyOf Try.f39)).getD .skip) := loop_ok (ks := laws_eqItemS.keys0) (cs := []) (B := fun x => laws_eqItemS_r0 x.1 x.2.1 x.2.2) (laws_eqItemS.K n ) T.mixed rfl (fun x => laws_eqItemS.round0 n x.1 x.2.1 x.2.2) (loops_of laws_eqItemS.in0 (loops_nil))
theorem laws_eqItemS.top : loopsOf (bodyOf Try.f39) = [(0, ((findLoop 0 (bodyOf Try.f39)).getD .skip))] := by kernel_rfl
theorem laws_eqItemS.fin (n : Nat) : FunIn Try.prog (F := laws_eqItemS.sig fun x => laws_eqItemS n x.1 x.2) (laws_eqItemS.E n) 39 (bodyOf Try.f39) [.tmp 4] := ⟨⟨Try.f39, Try.func39, by kernel_rfl, by kernel_rfl, rfl, by kernel_rfl⟩, Nat.le_of_ble_eq_true rfl, rfl, by kernel_rfl, by kernel_rfl, by kernel_rfl, rfl⟩
theorem laws_eqItemS.fok (n : Nat)  : FOK Try.prog 39 (laws_eqItemS.sig fun x => laws_eqItemS n x.1 x.2) := fun_ok (laws_eqItemS.fin n) (laws_eqItemS.K n ) T.mixed (loops_of laws_eqItemS.top (loops_cons (laws_eqItemS.lp0 n ) (loops_nil))) (fun x => laws_eqItemS.run n x.1 x.2)

def laws_eqMatrix.sig (f : Dens [.mat, .mat] → Option (Dens [.bool])) : Fun := ⟨[.mat, .mat], [[], []], [], [.bool], [[]], f⟩
def laws_eqMatrix.ρ (n : Nat) : Nat → Option Fun := getA [(39, laws_eqItemS.sig fun x => laws_eqItemS n x.1 x.2)]
def laws_eqMatrix.E (n : Nat) : Env (Dens [.bool]) := ⟨T, laws_eqMatrix.ρ n, 21, [0, 1, 2, 3, 4, 9, 14, 20], [], getA [], retOf [.tmp 4] [.bool] [[]]⟩
theorem laws_eqMatrix.run (n : Nat) (a : Mat) (b : Mat) : runF (laws_eqMatrix.E n) (bodyOf Try.f13) (startOf [.mat, .mat] [[], []] [] (a, b)) = laws_eqMatrix n a b := by kernel_rfl
theorem laws_eqMatrix.K (n : Nat)  : TabsOK Try.prog (laws_eqMatrix.E n).T (laws_eqMatrix.E n).ρ := ⟨T_ok, T_item, rho_cons (laws_eqItemS.fok n) (fun _ _ h => nomatch h)⟩
theorem laws_eqMatrix.top : loopsOf (bodyOf Try.f13) = [] := by kernel_rfl
theorem laws_eqMatrix.fin (n : Nat) : FunIn Try.prog (F := laws_eqMatrix.sig fun x => laws_eqMatrix n x.1 x.2) (laws_eqMatrix.E n) 13 (bodyOf Try.f13) [.tmp 4] := ⟨⟨Try.f13, Try.func13, by kernel_rfl, by kernel_rfl, rfl, by kernel_rfl⟩, Nat.le_of_ble_eq_true rfl, rfl, by kernel_rfl, by kernel_rfl, by kernel_rfl, rfl⟩
theorem laws_eqMatrix.fok (n : Nat)  : FOK Try.prog 13 (laws_eqMatrix.sig fun x => laws_eqMatrix n x.1 x.2) := fun_ok (laws_eqMatrix.fin n) (laws_eqMatrix.K n ) T.mixed (loops_of laws_eqMatrix.top (loops_nil)) (fun x => laws_eqMatrix.run n x.1 x.2)

def laws_FnExactIsMatrix.sig (f : Dens [.mat] → Option (Dens [.bool])) : Fun := ⟨[.mat], [[]], [], [.bool], [[]], f⟩
def laws_FnExactIsMatrix.ρ (n : Nat) : Nat → Option Fun := getA [(9, laws_szMatrix.sig fun x => laws_szMatrix n x.1 x.2), (10, spec_IsMatrix.sig fun x => spec_IsMatrix n x), (11, laws_toMatrix.sig fun x => laws_toMatrix n x), (12, impl_IsMatrix.sig fun x => impl_IsMatrix n x), (13, laws_eqMatrix.sig fun x => laws_eqMatrix n x.1 x.2)]
def laws_FnExactIsMatrix.E (n : Nat) : Env (Dens [.bool]) := ⟨T, laws_FnExactIsMatrix.ρ n, 27, [0, 1, 2, 3, 4, 5, 6, 11, 21, 26], [], getA [], retOf [.tmp 2] [.bool] [[]]⟩
theorem laws_FnExactIsMatrix.run (n : Nat) (aM : Mat) : runF (laws_FnExactIsMatrix.E n) (bodyOf Try.f3) (startOf [.mat] [[]] [] aM) = laws_FnExactIsMatrix n aM := by kernel_rfl
theorem laws_FnExactIsMatrix.K (n : Nat)  : TabsOK Try.prog (laws_FnExactIsMatrix.E n).T (laws_FnExactIsMatrix.E n).ρ := ⟨T_ok, T_item, rho_cons (laws_szMatrix.fok n) (rho_cons (spec_IsMatrix.fok n) (rho_cons (laws_toMatrix.fok n) (rho_cons (impl_IsMatrix.fok n) (rho_cons (laws_eqMatrix.fok n) (fun _ _ h => nomatch h)))))⟩
theorem laws_FnExactIsMatrix.top : loopsOf (bodyOf Try.f3) = [] := by kernel_rfl
theorem laws_FnExactIsMatrix.fin (n : Nat) : FunIn Try.prog (F := laws_FnExactIsMatrix.sig fun x => laws_FnExactIsMatrix n x) (laws_FnExactIsMatrix.E n) 3 (bodyOf Try.f3) [.tmp 2] := ⟨⟨Try.f3, Try.func3, by kernel_rfl, by kernel_rfl, rfl, by kernel_rfl⟩, Nat.le_of_ble_eq_true rfl, rfl, by kernel_rfl, by kernel_rfl, by kernel_rfl, rfl⟩
theorem laws_FnExactIsMatrix.fok (n : Nat)  : FOK Try.prog 3 (laws_FnExactIsMatrix.sig fun x => laws_FnExactIsMatrix n x) := fun_ok (laws_FnExactIsMatrix.fin n) (laws_FnExactIsMatrix.K n ) T.mixed (loops_of laws_FnExactIsMatrix.top (loops_nil)) (fun x => laws_FnExactIsMatrix.run n x)


end Go.AM
