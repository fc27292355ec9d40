/- Each function that the law FnExactIsKey reaches does what its typed function says; no condition. -/
import Derived.Test.YtmnadhgepopefaaChecked
import Derived.KernelRfl
import Derived.Test.YtmnadhgepopefaaFuFnExactIsKey
set_option maxRecDepth 100000
namespace Go.AM
open Go.Proofs
def T : Tab := ⟨getA [(2, (.int .i64)), (3, (.int .i64)), (4, .bool), (5, (.int .u8)), (6, (.int .u8)), (9, .str), (10, .str), (11, .str), (12, (.int .u64)), (21, (.int .i32)), (22, (.sl .item)), (23, .mat), (24, .mat), (27, (.sl .item)), (28, .mat), (29, .mat), (33, (.sl .vec)), (34, (.sl .str)), (35, .vec), (36, .vec), (39, (.sl .vec)), (40, .vec), (41, .vec), (46, (.sl (.int .i64))), (68, .item), (69, .item), (76, .item), (86, (.sl (.int .u8))), (98, (.int .u32)), (99, (.int .u8)), (100, (.int .u8)), (103, (.int .i32)), (104, (.int .i32))]⟩
theorem T_ok : TabOK Try.prog T := tabOk (by kernel_rfl)
theorem T_item : ItemOK Try.prog T := itemOk (by kernel_rfl)
theorem T.mixed : Try.prog.follows .mixedOrders = true := by kernel_rfl
def laws_szItem.sig (f : Dens [.item, (.int .i64)] → Option (Dens [(.int .i64)])) : Fun := ⟨[.item, (.int .i64)], [[], []], [], [(.int .i64)], [[]], f⟩
def laws_szItem.ρ  : Nat → Option Fun := getA []
def laws_szItem.E  : Env (Dens [(.int .i64)]) := ⟨T, laws_szItem.ρ , 13, [0, 1, 2, 4, 11], [], getA [], retOf [.tmp 4] [(.int .i64)] [[]]⟩
theorem laws_szItem.run (a : Item) (left : Int) : runF (laws_szItem.E ) (bodyOf Try.f59) (startOf [.item, (.int .i64)] [[], []] [] (a, left)) = laws_szItem a left := by kernel_rfl
theorem laws_szItem.K   : TabsOK Try.prog (laws_szItem.E ).T (laws_szItem.E ).ρ := ⟨T_ok, T_item, fun _ _ h => nomatch h⟩
theorem laws_szItem.top : loopsOf (bodyOf Try.f59) = [] := by kernel_rfl
theorem laws_szItem.fin  : FunIn Try.prog (F := laws_szItem.sig fun x => laws_szItem x.1 x.2) (laws_szItem.E ) 59 (bodyOf Try.f59) [.tmp 4] := ⟨⟨Try.f59, Try.func59, by kernel_rfl, by kernel_rfl, rfl, by kernel_rfl⟩, Nat.le_of_ble_eq_true rfl, rfl, by kernel_rfl, by kernel_rfl, by kernel_rfl, rfl⟩
theorem laws_szItem.fok   : FOK Try.prog 59 (laws_szItem.sig fun x => laws_szItem x.1 x.2) := fun_ok (laws_szItem.fin ) (laws_szItem.K  ) T.mixed (loops_of laws_szItem.top (loops_nil)) (fun x => laws_szItem.run x.1 x.2)

def laws_szItemS.sig (f : Dens [(.sl .item), (.int .i64)] → Option (Dens [(.int .i64)])) : Fun := ⟨[(.sl .item), (.int .i64)], [[], []], [], [(.int .i64)], [[]], f⟩
def laws_szItemS.ρ (_ : Nat) : Nat → Option Fun := getA [(59, laws_szItem.sig fun x => laws_szItem x.1 x.2)]
def laws_szItemS.keys0 : List KeyTy := [⟨.slot 0, (.sl .item), [.ps]⟩, ⟨.slot 1, (.int .i64), []⟩, ⟨.slot 5, (.int .i64), []⟩]
def laws_szItemS.L0 (n : Nat) : Loop (Dens [(.int .i64)]) := keyLoop laws_szItemS.keys0 [] (laws_szItemS_l0 n)
def laws_szItemS.E (n : Nat) : Env (Dens [(.int .i64)]) := ⟨T, laws_szItemS.ρ n, 27, [0, 1, 4, 5, 11, 15, 25], [], getA [(0, laws_szItemS.L0 n)], retOf [.tmp 4] [(.int .i64)] [[]]⟩
theorem laws_szItemS.round0 (n : Nat) (a_1 : (List Item)) (left_1 : Int) (i : Int) : roundK (laws_szItemS.E n) 0 (laws_szItemS.L0 n) ((findLoop 0 (bodyOf Try.f34)).getD .skip) (a_1, left_1, i) = laws_szItemS_r0 a_1 left_1 i := by kernel_rfl
theorem laws_szItemS.run (n : Nat) (a : (List Item)) (left : Int) : runF (laws_szItemS.E n) (bodyOf Try.f34) (startOf [(.sl .item), (.int .i64)] [[], []] [] (a, left)) = laws_szItemS n a left := by kernel_rfl
theorem laws_szItemS.K (n : Nat)  : TabsOK Try.prog (laws_szItemS.E n).T (laws_szItemS.E n).ρ := ⟨T_ok, T_item, rho_cons (laws_szItem.fok) (fun _ _ h => nomatch h)⟩
theorem laws_szItemS.in0 : loopsOf ((findLoop 0 (bodyOf Try.f34)).getD .skip) = [] := by kernel_rfl
theorem laws_szItemS.lp0 (n : Nat)  : LoopOK Try.prog (laws_szItemS.E n) 0 ((findLoop 0 (bodyOf Try.f34)).getD .skip) := loop_ok (ks := laws_szItemS.keys0) (cs := []) (B := fun x => laws_szItemS_r0 x.1 x.2.1 x.2.2) (laws_szItemS.K n ) T.mixed rfl (fun x => laws_szItemS.round0 n x.1 x.2.1 x.2.2) (loops_of laws_szItemS.in0 (loops_nil))
theorem laws_szItemS.top : loopsOf (bodyOf Try.f34) = [(0, ((findLoop 0 (bodyOf Try.f34)).getD .skip))] := by kernel_rfl
theorem laws_szItemS.fin (n : Nat) : FunIn Try.prog (F := laws_szItemS.sig fun x => laws_szItemS n x.1 x.2) (laws_szItemS.E n) 34 (bodyOf Try.f34) [.tmp 4] := ⟨⟨Try.f34, Try.func34, by kernel_rfl, by kernel_rfl, rfl, by kernel_rfl⟩, Nat.le_of_ble_eq_true rfl, rfl, by kernel_rfl, by kernel_rfl, by kernel_rfl, rfl⟩
theorem laws_szItemS.fok (n : Nat)  : FOK Try.prog 34 (laws_szItemS.sig fun x => laws_szItemS n x.1 x.2) := fun_ok (laws_szItemS.fin n) (laws_szItemS.K n ) T.mixed (loops_of laws_szItemS.top (loops_cons (laws_szItemS.lp0 n ) (loops_nil))) (fun x => laws_szItemS.run n x.1 x.2)

def spec_l1In.sig (f : Dens [(.int .i64), (.int .i64), (.int .i64)] → Option (Dens [.bool])) : Fun := ⟨[(.int .i64), (.int .i64), (.int .i64)], [[], [], []], [], [.bool], [[]], f⟩
def spec_l1In.ρ  : Nat → Option Fun := getA []
def spec_l1In.E  : Env (Dens [.bool]) := ⟨T, spec_l1In.ρ , 15, [0, 1, 2, 6], [], getA [], retOf [.tmp 6] [.bool] [[]]⟩
theorem spec_l1In.run (x : Int) (low : Int) (high : Int) : runF (spec_l1In.E ) (bodyOf Try.f35) (startOf [(.int .i64), (.int .i64), (.int .i64)] [[], [], []] [] (x, low, high)) = spec_l1In x low high := by kernel_rfl
theorem spec_l1In.K   : TabsOK Try.prog (spec_l1In.E ).T (spec_l1In.E ).ρ := ⟨T_ok, T_item, fun _ _ h => nomatch h⟩
theorem spec_l1In.top : loopsOf (bodyOf Try.f35) = [] := by kernel_rfl
theorem spec_l1In.fin  : FunIn Try.prog (F := spec_l1In.sig fun x => spec_l1In x.1 x.2.1 x.2.2) (spec_l1In.E ) 35 (bodyOf Try.f35) [.tmp 6] := ⟨⟨Try.f35, Try.func35, by kernel_rfl, by kernel_rfl, rfl, by kernel_rfl⟩, Nat.le_of_ble_eq_true rfl, rfl, by kernel_rfl, by kernel_rfl, by kernel_rfl, rfl⟩
theorem spec_l1In.fok   : FOK Try.prog 35 (spec_l1In.sig fun x => spec_l1In x.1 x.2.1 x.2.2) := fun_ok (spec_l1In.fin ) (spec_l1In.K  ) T.mixed (loops_of spec_l1In.top (loops_nil)) (fun x => spec_l1In.run x.1 x.2.1 x.2.2)

def spec_l2Abs.sig (f : Dens [(.int .i64)] → Option (Dens [(.int .i64)])) : Fun := ⟨[(.int .i64)], [[]], [], [(.int .i64)], [[]], f⟩
def spec_l2Abs.ρ  : Nat → Option Fun := getA []
def spec_l2Abs.E  : Env (Dens [(.int .i64)]) := ⟨T, spec_l2Abs.ρ , 8, [0, 2, 4], [], getA [], retOf [.tmp 2] [(.int .i64)] [[]]⟩
theorem spec_l2Abs.run (n_ : Int) : runF (spec_l2Abs.E ) (bodyOf Try.f86) (startOf [(.int .i64)] [[]] [] n_) = spec_l2Abs n_ := by kernel_rfl
theorem spec_l2Abs.K   : TabsOK Try.prog (spec_l2Abs.E ).T (spec_l2Abs.E ).ρ := ⟨T_ok, T_item, fun _ _ h => nomatch h⟩
theorem spec_l2Abs.top : loopsOf (bodyOf Try.f86) = [] := by kernel_rfl
theorem spec_l2Abs.fin  : FunIn Try.prog (F := spec_l2Abs.sig fun x => spec_l2Abs x) (spec_l2Abs.E ) 86 (bodyOf Try.f86) [.tmp 2] := ⟨⟨Try.f86, Try.func86, by kernel_rfl, by kernel_rfl, rfl, by kernel_rfl⟩, Nat.le_of_ble_eq_true rfl, rfl, by kernel_rfl, by kernel_rfl, by kernel_rfl, rfl⟩
theorem spec_l2Abs.fok   : FOK Try.prog 86 (spec_l2Abs.sig fun x => spec_l2Abs x) := fun_ok (spec_l2Abs.fin ) (spec_l2Abs.K  ) T.mixed (loops_of spec_l2Abs.top (loops_nil)) (fun x => spec_l2Abs.run x)

def spec_l2Gcd.sig (f : Dens [(.int .i64), (.int .i64)] → Option (Dens [(.int .i64)])) : Fun := ⟨[(.int .i64), (.int .i64)], [[], []], [], [(.int .i64)], [[]], f⟩
def spec_l2Gcd.ρ (_ : Nat) : Nat → Option Fun := getA [(86, spec_l2Abs.sig fun x => spec_l2Abs x)]
def spec_l2Gcd.keys0 : List KeyTy := [⟨.slot 5, (.int .i64), []⟩, ⟨.slot 6, (.int .i64), []⟩]
def spec_l2Gcd.L0 (n : Nat) : Loop (Dens [(.int .i64)]) := keyLoop spec_l2Gcd.keys0 [] (spec_l2Gcd_l0 n)
def spec_l2Gcd.E (n : Nat) : Env (Dens [(.int .i64)]) := ⟨T, spec_l2Gcd.ρ n, 20, [0, 1, 4, 5, 6, 7, 13], [], getA [(0, spec_l2Gcd.L0 n)], retOf [.tmp 4] [(.int .i64)] [[]]⟩
theorem spec_l2Gcd.round0 (n : Nat) (x : Int) (y : Int) : roundK (spec_l2Gcd.E n) 0 (spec_l2Gcd.L0 n) ((findLoop 0 (bodyOf Try.f76)).getD .skip) (x, y) = spec_l2Gcd_r0 x y := by kernel_rfl
theorem spec_l2Gcd.run (n : Nat) (a : Int) (b : Int) : runF (spec_l2Gcd.E n) (bodyOf Try.f76) (startOf [(.int .i64), (.int .i64)] [[], []] [] (a, b)) = spec_l2Gcd n a b := by kernel_rfl
theorem spec_l2Gcd.K (n : Nat)  : TabsOK Try.prog (spec_l2Gcd.E n).T (spec_l2Gcd.E n).ρ := ⟨T_ok, T_item, rho_cons (spec_l2Abs.fok) (fun _ _ h => nomatch h)⟩
theorem spec_l2Gcd.in0 : loopsOf ((findLoop 0 (bodyOf Try.f76)).getD .skip) = [] := by kernel_rfl
theorem spec_l2Gcd.lp0 (n : Nat)  : LoopOK Try.prog (spec_l2Gcd.E n) 0 ((findLoop 0 (bodyOf Try.f76)).getD .skip) := loop_ok (ks := spec_l2Gcd.keys0) (cs := []) (B := fun x => spec_l2Gcd_r0 x.1 x.2) (spec_l2Gcd.K n ) T.mixed rfl (fun x => spec_l2Gcd.round0 n x.1 x.2) (loops_of spec_l2Gcd.in0 (loops_nil))
theorem spec_l2Gcd.top : loopsOf (bodyOf Try.f76) = [(0, ((findLoop 0 (bodyOf Try.f76)).getD .skip))] := by kernel_rfl
theorem spec_l2Gcd.fin (n : Nat) : FunIn Try.prog (F := spec_l2Gcd.sig fun x => spec_l2Gcd n x.1 x.2) (spec_l2Gcd.E n) 76 (bodyOf Try.f76) [.tmp 4] := ⟨⟨Try.f76, Try.func76, by kernel_rfl, by kernel_rfl, rfl, by kernel_rfl⟩, Nat.le_of_ble_eq_true rfl, rfl, by kernel_rfl, by kernel_rfl, by kernel_rfl, rfl⟩
theorem spec_l2Gcd.fok (n : Nat)  : FOK Try.prog 76 (spec_l2Gcd.sig fun x => spec_l2Gcd n x.1 x.2) := fun_ok (spec_l2Gcd.fin n) (spec_l2Gcd.K n ) T.mixed (loops_of spec_l2Gcd.top (loops_cons (spec_l2Gcd.lp0 n ) (loops_nil))) (fun x => spec_l2Gcd.run n x.1 x.2)

def spec_IsNumber.sig (f : Dens [.item] → Option (Dens [.bool])) : Fun := ⟨[.item], [[]], [], [.bool], [[]], f⟩
def spec_IsNumber.ρ (n : Nat) : Nat → Option Fun := getA [(35, spec_l1In.sig fun x => spec_l1In x.1 x.2.1 x.2.2), (76, spec_l2Gcd.sig fun x => spec_l2Gcd n x.1 x.2)]
def spec_IsNumber.E (n : Nat) : Env (Dens [.bool]) := ⟨T, spec_IsNumber.ρ n, 24, [0, 1, 2], [], getA [], retOf [.tmp 2] [.bool] [[]]⟩
theorem spec_IsNumber.run (n : Nat) (x : Item) : runF (spec_IsNumber.E n) (bodyOf Try.f60) (startOf [.item] [[]] [] x) = spec_IsNumber n x := by kernel_rfl
theorem spec_IsNumber.K (n : Nat)  : TabsOK Try.prog (spec_IsNumber.E n).T (spec_IsNumber.E n).ρ := ⟨T_ok, T_item, rho_cons (spec_l1In.fok) (rho_cons (spec_l2Gcd.fok n) (fun _ _ h => nomatch h))⟩
theorem spec_IsNumber.top : loopsOf (bodyOf Try.f60) = [] := by kernel_rfl
theorem spec_IsNumber.fin (n : Nat) : FunIn Try.prog (F := spec_IsNumber.sig fun x => spec_IsNumber n x) (spec_IsNumber.E n) 60 (bodyOf Try.f60) [.tmp 2] := ⟨⟨Try.f60, Try.func60, by kernel_rfl, by kernel_rfl, rfl, by kernel_rfl⟩, Nat.le_of_ble_eq_true rfl, rfl, by kernel_rfl, by kernel_rfl, by kernel_rfl, rfl⟩
theorem spec_IsNumber.fok (n : Nat)  : FOK Try.prog 60 (spec_IsNumber.sig fun x => spec_IsNumber n x) := fun_ok (spec_IsNumber.fin n) (spec_IsNumber.K n ) T.mixed (loops_of spec_IsNumber.top (loops_nil)) (fun x => spec_IsNumber.run n x)

def laws_toItem.sig (f : Dens [.item] → Option (Dens [.item])) : Fun := ⟨[.item], [[]], [], [.item], [[]], f⟩
def laws_toItem.ρ  : Nat → Option Fun := getA []
def laws_toItem.E  : Env (Dens [.item]) := ⟨T, laws_toItem.ρ , 14, [0, 1, 2, 3], [], getA [], retOf [.cell 2 69] [.item] [[]]⟩
theorem laws_toItem.run (a : Item) : runF (laws_toItem.E ) (bodyOf Try.f61) (startOf [.item] [[]] [] a) = laws_toItem a := by kernel_rfl
theorem laws_toItem.K   : TabsOK Try.prog (laws_toItem.E ).T (laws_toItem.E ).ρ := ⟨T_ok, T_item, fun _ _ h => nomatch h⟩
theorem laws_toItem.top : loopsOf (bodyOf Try.f61) = [] := by kernel_rfl
theorem laws_toItem.fin  : FunIn Try.prog (F := laws_toItem.sig fun x => laws_toItem x) (laws_toItem.E ) 61 (bodyOf Try.f61) [.cell 2 69] := ⟨⟨Try.f61, Try.func61, by kernel_rfl, by kernel_rfl, rfl, by kernel_rfl⟩, Nat.le_of_ble_eq_true rfl, rfl, by kernel_rfl, by kernel_rfl, by kernel_rfl, rfl⟩
theorem laws_toItem.fok   : FOK Try.prog 61 (laws_toItem.sig fun x => laws_toItem x) := fun_ok (laws_toItem.fin ) (laws_toItem.K  ) T.mixed (loops_of laws_toItem.top (loops_nil)) (fun x => laws_toItem.run x)

def laws_toItemS.sig (f : Dens [(.sl .item)] → Option (Dens [(.sl .item)])) : Fun := ⟨[(.sl .item)], [[]], [], [(.sl .item)], [[(.own true 0)]], f⟩
def laws_toItemS.ρ (_ : Nat) : Nat → Option Fun := getA [(61, laws_toItem.sig fun x => laws_toItem x)]
def laws_toItemS.keys0 : List KeyTy := [⟨.slot 0, (.sl .item), [.ps]⟩, ⟨.slot 3, (.sl .item), [(.own true 0)]⟩, ⟨.slot 4, (.int .i64), []⟩]
def laws_toItemS.L0 (n : Nat) : Loop (Dens [(.sl .item)]) := keyLoop laws_toItemS.keys0 [] (laws_toItemS_l0 n)
def laws_toItemS.E (n : Nat) : Env (Dens [(.sl .item)]) := ⟨T, laws_toItemS.ρ n, 23, [0, 2, 3, 4, 11], [], getA [(0, laws_toItemS.L0 n)], retOf [.tmp 2] [(.sl .item)] [[(.own true 0)]]⟩
theorem laws_toItemS.round0 (n : Nat) (a_1 : (List Item)) (out : (List Item)) (i : Int) : roundK (laws_toItemS.E n) 0 (laws_toItemS.L0 n) ((findLoop 0 (bodyOf Try.f37)).getD .skip) (a_1, out, i) = laws_toItemS_r0 a_1 out i := by kernel_rfl
theorem laws_toItemS.run (n : Nat) (a : (List Item)) : runF (laws_toItemS.E n) (bodyOf Try.f37) (startOf [(.sl .item)] [[]] [] a) = laws_toItemS n a := by kernel_rfl
theorem laws_toItemS.K (n : Nat)  : TabsOK Try.prog (laws_toItemS.E n).T (laws_toItemS.E n).ρ := ⟨T_ok, T_item, rho_cons (laws_toItem.fok) (fun _ _ h => nomatch h)⟩
theorem laws_toItemS.in0 : loopsOf ((findLoop 0 (bodyOf Try.f37)).getD .skip) = [] := by kernel_rfl
theorem laws_toItemS.lp0 (n : Nat)  : LoopOK Try.prog (laws_toItemS.E n) 0 ((findLoop 0 (bodyOf Try.f37)).getD .skip) := loop_ok (ks := laws_toItemS.keys0) (cs := []) (B := fun x => laws_toItemS_r0 x.1 x.2.1 x.2.2) (laws_toItemS.K n ) T.mixed rfl (fun x => laws_toItemS.round0 n x.1 x.2.1 x.2.2) (loops_of laws_toItemS.in0 (loops_nil))
theorem laws_toItemS.top : loopsOf (bodyOf Try.f37) = [(0, ((findLoop 0 (bodyOf Try.f37)).getD .skip))] := by kernel_rfl
theorem laws_toItemS.fin (n : Nat) : FunIn Try.prog (F := laws_toItemS.sig fun x => laws_toItemS n x) (laws_toItemS.E n) 37 (bodyOf Try.f37) [.tmp 2] := ⟨⟨Try.f37, Try.func37, by kernel_rfl, by kernel_rfl, rfl, by kernel_rfl⟩, Nat.le_of_ble_eq_true rfl, rfl, by kernel_rfl, by kernel_rfl, by kernel_rfl, rfl⟩
theorem laws_toItemS.fok (n : Nat)  : FOK Try.prog 37 (laws_toItemS.sig fun x => laws_toItemS n x) := fun_ok (laws_toItemS.fin n) (laws_toItemS.K n ) T.mixed (loops_of laws_toItemS.top (loops_cons (laws_toItemS.lp0 n ) (loops_nil))) (fun x => laws_toItemS.run n x)

def impl_gcd.sig (f : Dens [(.int .i64), (.int .i64)] → Option (Dens [(.int .i64)])) : Fun := ⟨[(.int .i64), (.int .i64)], [[], []], [], [(.int .i64)], [[]], f⟩
def impl_gcd.ρ (_ : Nat) : Nat → Option Fun := getA []
def impl_gcd.keys0 : List KeyTy := [⟨.slot 0, (.int .i64), []⟩, ⟨.slot 1, (.int .i64), []⟩]
def impl_gcd.L0 (n : Nat) : Loop (Dens [(.int .i64)]) := keyLoop impl_gcd.keys0 [] (impl_gcd_l0 n)
def impl_gcd.E (n : Nat) : Env (Dens [(.int .i64)]) := ⟨T, impl_gcd.ρ n, 20, [0, 1, 4, 6, 10, 14], [], getA [(0, impl_gcd.L0 n)], retOf [.tmp 4] [(.int .i64)] [[]]⟩
theorem impl_gcd.round0 (n : Nat) (a_2 : Int) (b_2 : Int) : roundK (impl_gcd.E n) 0 (impl_gcd.L0 n) ((findLoop 0 (bodyOf Try.f77)).getD .skip) (a_2, b_2) = impl_gcd_r0 a_2 b_2 := by kernel_rfl
theorem impl_gcd.run (n : Nat) (a : Int) (b : Int) : runF (impl_gcd.E n) (bodyOf Try.f77) (startOf [(.int .i64), (.int .i64)] [[], []] [] (a, b)) = impl_gcd n a b := by kernel_rfl
theorem impl_gcd.K (n : Nat)  : TabsOK Try.prog (impl_gcd.E n).T (impl_gcd.E n).ρ := ⟨T_ok, T_item, fun _ _ h => nomatch h⟩
theorem impl_gcd.in0 : loopsOf ((findLoop 0 (bodyOf Try.f77)).getD .skip) = [] := by kernel_rfl
theorem impl_gcd.lp0 (n : Nat)  : LoopOK Try.prog (impl_gcd.E n) 0 ((findLoop 0 (bodyOf Try.f77)).getD .skip) := loop_ok (ks := impl_gcd.keys0) (cs := []) (B := fun x => impl_gcd_r0 x.1 x.2) (impl_gcd.K n ) T.mixed rfl (fun x => impl_gcd.round0 n x.1 x.2) (loops_of impl_gcd.in0 (loops_nil))
theorem impl_gcd.top : loopsOf (bodyOf Try.f77) = [(0, ((findLoop 0 (bodyOf Try.f77)).getD .skip))] := by kernel_rfl
theorem impl_gcd.fin (n : Nat) : FunIn Try.prog (F := impl_gcd.sig fun x => impl_gcd n x.1 x.2) (impl_gcd.E n) 77 (bodyOf Try.f77) [.tmp 4] := ⟨⟨Try.f77, Try.func77, by kernel_rfl, by kernel_rfl, rfl, by kernel_rfl⟩, Nat.le_of_ble_eq_true rfl, rfl, by kernel_rfl, by kernel_rfl, by kernel_rfl, rfl⟩
theorem impl_gcd.fok (n : Nat)  : FOK Try.prog 77 (impl_gcd.sig fun x => impl_gcd n x.1 x.2) := fun_ok (impl_gcd.fin n) (impl_gcd.K n ) T.mixed (loops_of impl_gcd.top (loops_cons (impl_gcd.lp0 n ) (loops_nil))) (fun x => impl_gcd.run n x.1 x.2)

def impl_IsNumber.sig (f : Dens [.item] → Option (Dens [.bool])) : Fun := ⟨[.item], [[]], [], [.bool], [[]], f⟩
def impl_IsNumber.ρ (n : Nat) : Nat → Option Fun := getA [(77, impl_gcd.sig fun x => impl_gcd n x.1 x.2)]
def impl_IsNumber.E (n : Nat) : Env (Dens [.bool]) := ⟨T, impl_IsNumber.ρ n, 34, [0, 1, 2], [], getA [], retOf [.tmp 2] [.bool] [[]]⟩
theorem impl_IsNumber.run (n : Nat) (x : Item) : runF (impl_IsNumber.E n) (bodyOf Try.f62) (startOf [.item] [[]] [] x) = impl_IsNumber n x := by kernel_rfl
theorem impl_IsNumber.K (n : Nat)  : TabsOK Try.prog (impl_IsNumber.E n).T (impl_IsNumber.E n).ρ := ⟨T_ok, T_item, rho_cons (impl_gcd.fok n) (fun _ _ h => nomatch h)⟩
theorem impl_IsNumber.top : loopsOf (bodyOf Try.f62) = [] := by kernel_rfl
theorem impl_IsNumber.fin (n : Nat) : FunIn Try.prog (F := impl_IsNumber.sig fun x => impl_IsNumber n x) (impl_IsNumber.E n) 62 (bodyOf Try.f62) [.tmp 2] := ⟨⟨Try.f62, Try.func62, by kernel_rfl, by kernel_rfl, rfl, by kernel_rfl⟩, Nat.le_of_ble_eq_true rfl, rfl, by kernel_rfl, by kernel_rfl, by kernel_rfl, rfl⟩
theorem impl_IsNumber.fok (n : Nat)  : FOK Try.prog 62 (impl_IsNumber.sig fun x => impl_IsNumber n x) := fun_ok (impl_IsNumber.fin n) (impl_IsNumber.K n ) T.mixed (loops_of impl_IsNumber.top (loops_nil)) (fun x => impl_IsNumber.run n x)

def laws_eqItem.sig (f : Dens [.item, .item] → Option (Dens [.bool])) : Fun := ⟨[.item, .item], [[], []], [], [.bool], [[]], f⟩
def laws_eqItem.ρ  : Nat → Option Fun := getA []
def laws_eqItem.E  : Env (Dens [.bool]) := ⟨T, laws_eqItem.ρ , 20, [0, 1, 2, 3, 4, 9, 14, 19], [], getA [], retOf [.tmp 4] [.bool] [[]]⟩
theorem laws_eqItem.run (a : Item) (b : Item) : runF (laws_eqItem.E ) (bodyOf Try.f63) (startOf [.item, .item] [[], []] [] (a, b)) = laws_eqItem a b := by kernel_rfl
theorem laws_eqItem.K   : TabsOK Try.prog (laws_eqItem.E ).T (laws_eqItem.E ).ρ := ⟨T_ok, T_item, fun _ _ h => nomatch h⟩
theorem laws_eqItem.top : loopsOf (bodyOf Try.f63) = [] := by kernel_rfl
theorem laws_eqItem.fin  : FunIn Try.prog (F := laws_eqItem.sig fun x => laws_eqItem x.1 x.2) (laws_eqItem.E ) 63 (bodyOf Try.f63) [.tmp 4] := ⟨⟨Try.f63, Try.func63, by kernel_rfl, by kernel_rfl, rfl, by kernel_rfl⟩, Nat.le_of_ble_eq_true rfl, rfl, by kernel_rfl, by kernel_rfl, by kernel_rfl, rfl⟩
theorem laws_eqItem.fok   : FOK Try.prog 63 (laws_eqItem.sig fun x => laws_eqItem x.1 x.2) := fun_ok (laws_eqItem.fin ) (laws_eqItem.K  ) T.mixed (loops_of laws_eqItem.top (loops_nil)) (fun x => laws_eqItem.run x.1 x.2)

def laws_eqItemS.sig (f : Dens [(.sl .item), (.sl .item)] → Option (Dens [.bool])) : Fun := ⟨[(.sl .item), (.sl .item)], [[], []], [], [.bool], [[]], f⟩
def laws_eqItemS.ρ (_ : Nat) : Nat → Option Fun := getA [(63, laws_eqItem.sig fun x => laws_eqItem x.1 x.2)]
def laws_eqItemS.keys0 : List KeyTy := [⟨.slot 0, (.sl .item), [.ps]⟩, ⟨.slot 1, (.sl .item), [.ps]⟩, ⟨.slot 5, (.int .i64), []⟩]
def laws_eqItemS.L0 (n : Nat) : Loop (Dens [.bool]) := keyLoop laws_eqItemS.keys0 [] (laws_eqItemS_l0 n)
def laws_eqItemS.E (n : Nat) : Env (Dens [.bool]) := ⟨T, laws_eqItemS.ρ n, 27, [0, 1, 4, 5, 10, 14, 26], [], getA [(0, laws_eqItemS.L0 n)], retOf [.tmp 4] [.bool] [[]]⟩
theorem laws_eqItemS.round0 (n : Nat) (a_1 : (List Item)) (b_1 : (List Item)) (i : Int) : roundK (laws_eqItemS.E n) 0 (laws_eqItemS.L0 n) ((findLoop 0 (bodyOf Try.f39)).getD .skip) (a_1, b_1, i) = laws_eqItemS_r0 a_1 b_1 i := by kernel_rfl
theorem laws_eqItemS.run (n : Nat) (a : (List Item)) (b : (List Item)) : runF (laws_eqItemS.E n) (bodyOf Try.f39) (startOf [(.sl .item), (.sl .item)] [[], []] [] (a, b)) = laws_eqItemS n a b := by kernel_rfl
theorem laws_eqItemS.K (n : Nat)  : TabsOK Try.prog (laws_eqItemS.E n).T (laws_eqItemS.E n).ρ := ⟨T_ok, T_item, rho_cons (laws_eqItem.fok) (fun _ _ h => nomatch h)⟩
theorem laws_eqItemS.in0 : loopsOf ((findLoop 0 (bodyOf Try.f39)).getD .skip) = [] := by kernel_rfl
theorem laws_eqItemS.lp0 (n : Nat)  : LoopOK Try.prog (laws_eqItemS.E n) 0 ((findLoop 0 (bodyOf Try.f39)).getD .skip) := loop_ok (ks := laws_eqItemS.keys0) (cs := []) (B := fun x => laws_eqItemS_r0 x.1 x.2.1 x.2.2) (laws_eqItemS.K n ) T.mixed rfl (fun x => laws_eqItemS.round0 n x.1 x.2.1 x.2.2) (loops_of laws_eqItemS.in0 (loops_nil))
theorem laws_eqItemS.top : loopsOf (bodyOf Try.f39) = [(0, ((findLoop 0 (bodyOf Try.f39)).getD .skip))] := by kernel_rfl
theorem laws_eqItemS.fin (n : Nat) : FunIn Try.prog (F := laws_eqItemS.sig fun x => laws_eqItemS n x.1 x.2) (laws_eqItemS.E n) 39 (bodyOf Try.f39) [.tmp 4] := ⟨⟨Try.f39, Try.func39, by kernel_rfl, by kernel_rfl, rfl, by kernel_rfl⟩, Nat.le_of_ble_eq_true rfl, rfl, by kernel_rfl, by kernel_rfl, by kernel_rfl, rfl⟩
theorem laws_eqItemS.fok (n : Nat)  : FOK Try.prog 39 (laws_eqItemS.sig fun x => laws_eqItemS n x.1 x.2) := fun_ok (laws_eqItemS.fin n) (laws_eqItemS.K n ) T.mixed (loops_of laws_eqItemS.top (loops_cons (laws_eqItemS.lp0 n ) (loops_nil))) (fun x => laws_eqItemS.run n x.1 x.2)

def laws_szStringS.sig (f : Dens [(.sl .str), (.int .i64)] → Option (Dens [(.int .i64)])) : Fun := ⟨[(.sl .str), (.int .i64)], [[], []], [], [(.int .i64)], [[]], f⟩
def laws_szStringS.ρ (_ : Nat) : Nat → Option Fun := getA []
def laws_szStringS.keys0 : List KeyTy := [⟨.slot 0, (.sl .str), [.ps]⟩, ⟨.slot 1, (.int .i64), []⟩, ⟨.slot 5, (.int .i64), []⟩]
def laws_szStringS.L0 (n : Nat) : Loop (Dens [(.int .i64)]) := keyLoop laws_szStringS.keys0 [] (laws_szStringS_l0 n)
def laws_szStringS.E (n : Nat) : Env (Dens [(.int .i64)]) := ⟨T, laws_szStringS.ρ n, 28, [0, 1, 4, 5, 11, 15, 26], [], getA [(0, laws_szStringS.L0 n)], retOf [.tmp 4] [(.int .i64)] [[]]⟩
theorem laws_szStringS.round0 (n : Nat) (a_1 : (List ByteArray)) (left_1 : Int) (i : Int) : roundK (laws_szStringS.E n) 0 (laws_szStringS.L0 n) ((findLoop 0 (bodyOf Try.f29)).getD .skip) (a_1, left_1, i) = laws_szStringS_r0 a_1 left_1 i := by kernel_rfl
theorem laws_szStringS.run (n : Nat) (a : (List ByteArray)) (left : Int) : runF (laws_szStringS.E n) (bodyOf Try.f29) (startOf [(.sl .str), (.int .i64)] [[], []] [] (a, left)) = laws_szStringS n a left := by kernel_rfl
theorem laws_szStringS.K (n : Nat)  : TabsOK Try.prog (laws_szStringS.E n).T (laws_szStringS.E n).ρ := ⟨T_ok, T_item, fun _ _ h => nomatch h⟩
theorem laws_szStringS.in0 : loopsOf ((findLoop 0 (bodyOf Try.f29)).getD .skip) = [] := by kernel_rfl
theorem laws_szStringS.lp0 (n : Nat)  : LoopOK Try.prog (laws_szStringS.E n) 0 ((findLoop 0 (bodyOf Try.f29)).getD .skip) := loop_ok (ks := laws_szStringS.keys0) (cs := []) (B := fun x => laws_szStringS_r0 x.1 x.2.1 x.2.2) (laws_szStringS.K n ) T.mixed rfl (fun x => laws_szStringS.round0 n x.1 x.2.1 x.2.2) (loops_of laws_szStringS.in0 (loops_nil))
theorem laws_szStringS.top : loopsOf (bodyOf Try.f29) = [(0, ((findLoop 0 (bodyOf Try.f29)).getD .skip))] := by kernel_rfl
theorem laws_szStringS.fin (n : Nat) : FunIn Try.prog (F := laws_szStringS.sig fun x => laws_szStringS n x.1 x.2) (laws_szStringS.E n) 29 (bodyOf Try.f29) [.tmp 4] := ⟨⟨Try.f29, Try.func29, by kernel_rfl, by kernel_rfl, rfl, by kernel_rfl⟩, Nat.le_of_ble_eq_true rfl, rfl, by kernel_rfl, by kernel_rfl, by kernel_rfl, rfl⟩
theorem laws_szStringS.fok (n : Nat)  : FOK Try.prog 29 (laws_szStringS.sig fun x => laws_szStringS n x.1 x.2) := fun_ok (laws_szStringS.fin n) (laws_szStringS.K n ) T.mixed (loops_of laws_szStringS.top (loops_cons (laws_szStringS.lp0 n ) (loops_nil))) (fun x => laws_szStringS.run n x.1 x.2)

def laws_szVector.sig (f : Dens [.vec, (.int .i64)] → Option (Dens [(.int .i64)])) : Fun := ⟨[.vec, (.int .i64)], [[], []], [], [(.int .i64)], [[]], f⟩
def laws_szVectorS.sig (f : Dens [(.sl .vec), (.int .i64)] → Option (Dens [(.int .i64)])) : Fun := ⟨[(.sl .vec), (.int .i64)], [[], []], [], [(.int .i64)], [[]], f⟩
def laws_szVector.ρ (_ : (Vec → Int → Option Int)) (rec_laws_szVectorS : ((List Vec) → Int → Option Int)) (n : Nat) : Nat → Option Fun := getA [(29, laws_szStringS.sig fun x => laws_szStringS n x.1 x.2), (34, laws_szItemS.sig fun x => laws_szItemS n x.1 x.2), (40, laws_szVectorS.sig fun x => rec_laws_szVectorS x.1 x.2)]
def laws_szVector.E (rec_laws_szVector : (Vec → Int → Option Int)) (rec_laws_szVectorS : ((List Vec) → Int → Option Int)) (n : Nat) : Env (Dens [(.int .i64)]) := ⟨T, laws_szVector.ρ rec_laws_szVector rec_laws_szVectorS n, 36, [0, 1, 2, 4, 10, 16, 22, 28, 34], [], getA [], retOf [.tmp 4] [(.int .i64)] [[]]⟩
theorem laws_szVector.run (rec_laws_szVector : (Vec → Int → Option Int)) (rec_laws_szVectorS : ((List Vec) → Int → Option Int)) (n : Nat) (a : Vec) (left : Int) : runF (laws_szVector.E rec_laws_szVector rec_laws_szVectorS n) (bodyOf Try.f14) (startOf [.vec, (.int .i64)] [[], []] [] (a, left)) = laws_szVector_b rec_laws_szVector rec_laws_szVectorS n a left := by kernel_rfl
def laws_szVectorS.ρ (rec_laws_szVector : (Vec → Int → Option Int)) (_ : ((List Vec) → Int → Option Int)) (_ : Nat) : Nat → Option Fun := getA [(14, laws_szVector.sig fun x => rec_laws_szVector x.1 x.2)]
def laws_szVectorS.keys0 : List KeyTy := [⟨.slot 0, (.sl .vec), [.ps]⟩, ⟨.slot 1, (.int .i64), []⟩, ⟨.slot 5, (.int .i64), []⟩]
def laws_szVectorS.L0 (rec_laws_szVector : (Vec → Int → Option Int)) (_ : ((List Vec) → Int → Option Int)) (n : Nat) : Loop (Dens [(.int .i64)]) := keyLoop laws_szVectorS.keys0 [] (laws_szVectorS_l0 rec_laws_szVector n)
def laws_szVectorS.E (rec_laws_szVector : (Vec → Int → Option Int)) (rec_laws_szVectorS : ((List Vec) → Int → Option Int)) (n : Nat) : Env (Dens [(.int .i64)]) := ⟨T, laws_szVectorS.ρ rec_laws_szVector rec_laws_szVectorS n, 27, [0, 1, 4, 5, 11, 15, 25], [], getA [(0, laws_szVectorS.L0 rec_laws_szVector rec_laws_szVectorS n)], retOf [.tmp 4] [(.int .i64)] [[]]⟩
theorem laws_szVectorS.round0 (rec_laws_szVector : (Vec → Int → Option Int)) (rec_laws_szVectorS : ((List Vec) → Int → Option Int)) (n : Nat) (a_1 : (List Vec)) (left_1 : Int) (i : Int) : roundK (laws_szVectorS.E rec_laws_szVector rec_laws_szVectorS n) 0 (laws_szVectorS.L0 rec_laws_szVector rec_laws_szVectorS n) ((findLoop 0 (bodyOf Try.f40)).getD .skip) (a_1, left_1, i) = laws_szVectorS_r0 rec_laws_szVector a_1 left_1 i := by kernel_rfl
theorem laws_szVectorS.run (rec_laws_szVector : (Vec → Int → Option Int)) (rec_laws_szVectorS : ((List Vec) → Int → Option Int)) (n : Nat) (a : (List Vec)) (left : Int) : runF (laws_szVectorS.E rec_laws_szVector rec_laws_szVectorS n) (bodyOf Try.f40) (startOf [(.sl .vec), (.int .i64)] [[], []] [] (a, left)) = laws_szVectorS_b rec_laws_szVector rec_laws_szVectorS n a left := by kernel_rfl
theorem laws_szVector.K (rec_laws_szVector : (Vec → Int → Option Int)) (rec_laws_szVectorS : ((List Vec) → Int → Option Int)) (n : Nat) (_ : FOK Try.prog 14 (laws_szVector.sig fun x => rec_laws_szVector x.1 x.2)) (h_laws_szVectorS : FOK Try.prog 40 (laws_szVectorS.sig fun x => rec_laws_szVectorS x.1 x.2)) : TabsOK Try.prog (laws_szVector.E rec_laws_szVector rec_laws_szVectorS n).T (laws_szVector.E rec_laws_szVector rec_laws_szVectorS n).ρ := ⟨T_ok, T_item, rho_cons (laws_szStringS.fok n) (rho_cons (laws_szItemS.fok n) (rho_cons (h_laws_szVectorS) (fun _ _ h => nomatch h)))⟩
theorem laws_szVector.top : loopsOf (bodyOf Try.f14) = [] := by kernel_rfl
theorem laws_szVector.fin (rec_laws_szVector : (Vec → Int → Option Int)) (rec_laws_szVectorS : ((List Vec) → Int → Option Int)) (n : Nat) : FunIn Try.prog (F := laws_szVector.sig fun x => laws_szVector_b rec_laws_szVector rec_laws_szVectorS n x.1 x.2) (laws_szVector.E rec_laws_szVector rec_laws_szVectorS n) 14 (bodyOf Try.f14) [.tmp 4] := ⟨⟨Try.f14, Try.func14, by kernel_rfl, by kernel_rfl, rfl, by kernel_rfl⟩, Nat.le_of_ble_eq_true rfl, rfl, by kernel_rfl, by kernel_rfl, by kernel_rfl, rfl⟩
theorem laws_szVector.step (rec_laws_szVector : (Vec → Int → Option Int)) (rec_laws_szVectorS : ((List Vec) → Int → Option Int)) (n : Nat) (h_laws_szVector : FOK Try.prog 14 (laws_szVector.sig fun x => rec_laws_szVector x.1 x.2)) (h_laws_szVectorS : FOK Try.prog 40 (laws_szVectorS.sig fun x => rec_laws_szVectorS x.1 x.2)) : FOK Try.prog 14 (laws_szVector.sig fun x => laws_szVector_b rec_laws_szVector rec_laws_szVectorS n x.1 x.2) := fun_ok (laws_szVector.fin rec_laws_szVector rec_laws_szVectorS n) (laws_szVector.K rec_laws_szVector rec_laws_szVectorS n h_laws_szVector h_laws_szVectorS) T.mixed (loops_of laws_szVector.top (loops_nil)) (fun x => laws_szVector.run rec_laws_szVector rec_laws_szVectorS n x.1 x.2)
theorem laws_szVectorS.K (rec_laws_szVector : (Vec → Int → Option Int)) (rec_laws_szVectorS : ((List Vec) → Int → Option Int)) (n : Nat) (h_laws_szVector : FOK Try.prog 14 (laws_szVector.sig fun x => rec_laws_szVector x.1 x.2)) (_ : FOK Try.prog 40 (laws_szVectorS.sig fun x => rec_laws_szVectorS x.1 x.2)) : TabsOK Try.prog (laws_szVectorS.E rec_laws_szVector rec_laws_szVectorS n).T (laws_szVectorS.E rec_laws_szVector rec_laws_szVectorS n).ρ := ⟨T_ok, T_item, rho_cons (h_laws_szVector) (fun _ _ h => nomatch h)⟩
theorem laws_szVectorS.in0 : loopsOf ((findLoop 0 (bodyOf Try.f40)).getD .skip) = [] := by kernel_rfl
theorem laws_szVectorS.lp0 (rec_laws_szVector : (Vec → Int → Option Int)) (rec_laws_szVectorS : ((List Vec) → Int → Option Int)) (n : Nat) (h_laws_szVector : FOK Try.prog 14 (laws_szVector.sig fun x => rec_laws_szVector x.1 x.2)) (h_laws_szVectorS : FOK Try.prog 40 (laws_szVectorS.sig fun x => rec_laws_szVectorS x.1 x.2)) : LoopOK Try.prog (laws_szVectorS.E rec_laws_szVector rec_laws_szVectorS n) 0 ((findLoop 0 (bodyOf Try.f40)).getD .skip) := loop_ok (ks := laws_szVectorS.keys0) (cs := []) (B := fun x => laws_szVectorS_r0 rec_laws_szVector x.1 x.2.1 x.2.2) (laws_szVectorS.K rec_laws_szVector rec_laws_szVectorS n h_laws_szVector h_laws_szVectorS) T.mixed rfl (fun x => laws_szVectorS.round0 rec_laws_szVector rec_laws_szVectorS n x.1 x.2.1 x.2.2) (loops_of laws_szVectorS.in0 (loops_nil))
theorem laws_szVectorS.top : loopsOf (bodyOf Try.f40) = [(0, ((findLoop 0 (bodyOf Try.f40)).getD .skip))] := by kernel_rfl
theorem laws_szVectorS.fin (rec_laws_szVector : (Vec → Int → Option Int)) (rec_laws_szVectorS : ((List Vec) → Int → Option Int)) (n : Nat) : FunIn Try.prog (F := laws_szVectorS.sig fun x => laws_szVectorS_b rec_laws_szVector rec_laws_szVectorS n x.1 x.2) (laws_szVectorS.E rec_laws_szVector rec_laws_szVectorS n) 40 (bodyOf Try.f40) [.tmp 4] := ⟨⟨Try.f40, Try.func40, by kernel_rfl, by kernel_rfl, rfl, by kernel_rfl⟩, Nat.le_of_ble_eq_true rfl, rfl, by kernel_rfl, by kernel_rfl, by kernel_rfl, rfl⟩
theorem laws_szVectorS.step (rec_laws_szVector : (Vec → Int → Option Int)) (rec_laws_szVectorS : ((List Vec) → Int → Option Int)) (n : Nat) (h_laws_szVector : FOK Try.prog 14 (laws_szVector.sig fun x => rec_laws_szVector x.1 x.2)) (h_laws_szVectorS : FOK Try.prog 40 (laws_szVectorS.sig fun x => rec_laws_szVectorS x.1 x.2)) : FOK Try.prog 40 (laws_szVectorS.sig fun x => laws_szVectorS_b rec_laws_szVector rec_laws_szVectorS n x.1 x.2) := fun_ok (laws_szVectorS.fin rec_laws_szVector rec_laws_szVectorS n) (laws_szVectorS.K rec_laws_szVector rec_laws_szVectorS n h_laws_szVector h_laws_szVectorS) T.mixed (loops_of laws_szVectorS.top (loops_cons (laws_szVectorS.lp0 rec_laws_szVector rec_laws_szVectorS n h_laws_szVector h_laws_szVectorS) (loops_nil))) (fun x => laws_szVectorS.run rec_laws_szVector rec_laws_szVectorS n x.1 x.2)
theorem laws_szVector_laws_szVectorS.fok : ∀ n, FOK Try.prog 14 (laws_szVector.sig fun x => laws_szVector n x.1 x.2) ∧ FOK Try.prog 40 (laws_szVectorS.sig fun x => laws_szVectorS n x.1 x.2)
  | 0 => ⟨fok_none (laws_szVector.fin (fun _ _ => none) (fun _ _ => none) 0), fok_none (laws_szVectorS.fin (fun _ _ => none) (fun _ _ => none) 0)⟩
  | n + 1 => let h := laws_szVector_laws_szVectorS.fok n; ⟨laws_szVector.step (laws_szVector n) (laws_szVectorS n) n h.1 h.2, laws_szVectorS.step (laws_szVector n) (laws_szVectorS n) n h.1 h.2⟩
theorem laws_szVector.fok (n : Nat) : FOK Try.prog 14 (laws_szVector.sig fun x => laws_szVector n x.1 x.2) := (laws_szVector_laws_szVectorS.fok n).1
theorem laws_szVectorS.fok (n : Nat) : FOK Try.prog 40 (laws_szVectorS.sig fun x => laws_szVectorS n x.1 x.2) := (laws_szVector_laws_szVectorS.fok n).2

def spec_l1Find.sig (f : Dens [(.sl .str), .str] → Option (Dens [(.int .i64)])) : Fun := ⟨[(.sl .str), .str], [[], []], [], [(.int .i64)], [[]], f⟩
def spec_l1Find.ρ (_ : Nat) : Nat → Option Fun := getA []
def spec_l1Find.keys0 : List KeyTy := [⟨.slot 0, (.sl .str), [.ps]⟩, ⟨.slot 1, .str, []⟩, ⟨.slot 5, (.int .i64), []⟩]
def spec_l1Find.L0 (n : Nat) : Loop (Dens [(.int .i64)]) := keyLoop spec_l1Find.keys0 [] (spec_l1Find_l0 n)
def spec_l1Find.E (n : Nat) : Env (Dens [(.int .i64)]) := ⟨T, spec_l1Find.ρ n, 19, [0, 1, 4, 5, 9, 17], [], getA [(0, spec_l1Find.L0 n)], retOf [.tmp 4] [(.int .i64)] [[]]⟩
theorem spec_l1Find.round0 (n : Nat) (list_1 : (List ByteArray)) (s_1 : ByteArray) (i : Int) : roundK (spec_l1Find.E n) 0 (spec_l1Find.L0 n) ((findLoop 0 (bodyOf Try.f69)).getD .skip) (list_1, s_1, i) = spec_l1Find_r0 list_1 s_1 i := by kernel_rfl
theorem spec_l1Find.run (n : Nat) (list : (List ByteArray)) (s : ByteArray) : runF (spec_l1Find.E n) (bodyOf Try.f69) (startOf [(.sl .str), .str] [[], []] [] (list, s)) = spec_l1Find n list s := by kernel_rfl
theorem spec_l1Find.K (n : Nat)  : TabsOK Try.prog (spec_l1Find.E n).T (spec_l1Find.E n).ρ := ⟨T_ok, T_item, fun _ _ h => nomatch h⟩
theorem spec_l1Find.in0 : loopsOf ((findLoop 0 (bodyOf Try.f69)).getD .skip) = [] := by kernel_rfl
theorem spec_l1Find.lp0 (n : Nat)  : LoopOK Try.prog (spec_l1Find.E n) 0 ((findLoop 0 (bodyOf Try.f69)).getD .skip) := loop_ok (ks := spec_l1Find.keys0) (cs := []) (B := fun x => spec_l1Find_r0 x.1 x.2.1 x.2.2) (spec_l1Find.K n ) T.mixed rfl (fun x => spec_l1Find.round0 n x.1 x.2.1 x.2.2) (loops_of spec_l1Find.in0 (loops_nil))
theorem spec_l1Find.top : loopsOf (bodyOf Try.f69) = [(0, ((findLoop 0 (bodyOf Try.f69)).getD .skip))] := by kernel_rfl
theorem spec_l1Find.fin (n : Nat) : FunIn Try.prog (F := spec_l1Find.sig fun x => spec_l1Find n x.1 x.2) (spec_l1Find.E n) 69 (bodyOf Try.f69) [.tmp 4] := ⟨⟨Try.f69, Try.func69, by kernel_rfl, by kernel_rfl, rfl, by kernel_rfl⟩, Nat.le_of_ble_eq_true rfl, rfl, by kernel_rfl, by kernel_rfl, by kernel_rfl, rfl⟩
theorem spec_l1Find.fok (n : Nat)  : FOK Try.prog 69 (spec_l1Find.sig fun x => spec_l1Find n x.1 x.2) := fun_ok (spec_l1Find.fin n) (spec_l1Find.K n ) T.mixed (loops_of spec_l1Find.top (loops_cons (spec_l1Find.lp0 n ) (loops_nil))) (fun x => spec_l1Find.run n x.1 x.2)

def spec_l4Labels.sig (f : Dens [(.sl .str), (.int .i64)] → Option (Dens [.bool])) : Fun := ⟨[(.sl .str), (.int .i64)], [[], []], [], [.bool], [[]], f⟩
def spec_l4Labels.ρ (n : Nat) : Nat → Option Fun := getA [(69, spec_l1Find.sig fun x => spec_l1Find n x.1 x.2)]
def spec_l4Labels.keys0 : List KeyTy := [⟨.slot 0, (.sl .str), [.ps]⟩, ⟨.slot 1, (.int .i64), []⟩, ⟨.slot 5, (.int .i64), []⟩]
def spec_l4Labels.L0 (n : Nat) : Loop (Dens [.bool]) := keyLoop spec_l4Labels.keys0 [] (spec_l4Labels_l0 n)
def spec_l4Labels.E (n : Nat) : Env (Dens [.bool]) := ⟨T, spec_l4Labels.ρ n, 44, [0, 1, 4, 5, 14, 39], [], getA [(0, spec_l4Labels.L0 n)], retOf [.tmp 4] [.bool] [[]]⟩
theorem spec_l4Labels.round0 (n : Nat) (list_1 : (List ByteArray)) (most_1 : Int) (i : Int) : roundK (spec_l4Labels.E n) 0 (spec_l4Labels.L0 n) ((findLoop 0 (bodyOf Try.f45)).getD .skip) (list_1, most_1, i) = spec_l4Labels_r0 n list_1 most_1 i := by kernel_rfl
theorem spec_l4Labels.run (n : Nat) (list : (List ByteArray)) (most : Int) : runF (spec_l4Labels.E n) (bodyOf Try.f45) (startOf [(.sl .str), (.int .i64)] [[], []] [] (list, most)) = spec_l4Labels n list most := by kernel_rfl
theorem spec_l4Labels.K (n : Nat)  : TabsOK Try.prog (spec_l4Labels.E n).T (spec_l4Labels.E n).ρ := ⟨T_ok, T_item, rho_cons (spec_l1Find.fok n) (fun _ _ h => nomatch h)⟩
theorem spec_l4Labels.in0 : loopsOf ((findLoop 0 (bodyOf Try.f45)).getD .skip) = [] := by kernel_rfl
theorem spec_l4Labels.lp0 (n : Nat)  : LoopOK Try.prog (spec_l4Labels.E n) 0 ((findLoop 0 (bodyOf Try.f45)).getD .skip) := loop_ok (ks := spec_l4Labels.keys0) (cs := []) (B := fun x => spec_l4Labels_r0 n x.1 x.2.1 x.2.2) (spec_l4Labels.K n ) T.mixed rfl (fun x => spec_l4Labels.round0 n x.1 x.2.1 x.2.2) (loops_of spec_l4Labels.in0 (loops_nil))
theorem spec_l4Labels.top : loopsOf (bodyOf Try.f45) = [(0, ((findLoop 0 (bodyOf Try.f45)).getD .skip))] := by kernel_rfl
theorem spec_l4Labels.fin (n : Nat) : FunIn Try.prog (F := spec_l4Labels.sig fun x => spec_l4Labels n x.1 x.2) (spec_l4Labels.E n) 45 (bodyOf Try.f45) [.tmp 4] := ⟨⟨Try.f45, Try.func45, by kernel_rfl, by kernel_rfl, rfl, by kernel_rfl⟩, Nat.le_of_ble_eq_true rfl, rfl, by kernel_rfl, by kernel_rfl, by kernel_rfl, rfl⟩
theorem spec_l4Labels.fok (n : Nat)  : FOK Try.prog 45 (spec_l4Labels.sig fun x => spec_l4Labels n x.1 x.2) := fun_ok (spec_l4Labels.fin n) (spec_l4Labels.K n ) T.mixed (loops_of spec_l4Labels.top (loops_cons (spec_l4Labels.lp0 n ) (loops_nil))) (fun x => spec_l4Labels.run n x.1 x.2)

def spec_l4Len.sig (f : Dens [.vec] → Option (Dens [(.int .i64)])) : Fun := ⟨[.vec], [[]], [], [(.int .i64)], [[]], f⟩
def spec_l4Len.ρ  : Nat → Option Fun := getA []
def spec_l4Len.E  : Env (Dens [(.int .i64)]) := ⟨T, spec_l4Len.ρ , 13, [0, 1, 2, 5], [], getA [], retOf [.tmp 2] [(.int .i64)] [[]]⟩
theorem spec_l4Len.run (v : Vec) : runF (spec_l4Len.E ) (bodyOf Try.f78) (startOf [.vec] [[]] [] v) = spec_l4Len v := by kernel_rfl
theorem spec_l4Len.K   : TabsOK Try.prog (spec_l4Len.E ).T (spec_l4Len.E ).ρ := ⟨T_ok, T_item, fun _ _ h => nomatch h⟩
theorem spec_l4Len.top : loopsOf (bodyOf Try.f78) = [] := by kernel_rfl
theorem spec_l4Len.fin  : FunIn Try.prog (F := spec_l4Len.sig fun x => spec_l4Len x) (spec_l4Len.E ) 78 (bodyOf Try.f78) [.tmp 2] := ⟨⟨Try.f78, Try.func78, by kernel_rfl, by kernel_rfl, rfl, by kernel_rfl⟩, Nat.le_of_ble_eq_true rfl, rfl, by kernel_rfl, by kernel_rfl, by kernel_rfl, rfl⟩
theorem spec_l4Len.fok   : FOK Try.prog 78 (spec_l4Len.sig fun x => spec_l4Len x) := fun_ok (spec_l4Len.fin ) (spec_l4Len.K  ) T.mixed (loops_of spec_l4Len.top (loops_nil)) (fun x => spec_l4Len.run x)

def spec_l4Named.sig (f : Dens [(.sl .str)] → Option (Dens [.bool])) : Fun := ⟨[(.sl .str)], [[]], [], [.bool], [[]], f⟩
def spec_l4Named.ρ (_ : Nat) : Nat → Option Fun := getA []
def spec_l4Named.keys0 : List KeyTy := [⟨.slot 0, (.sl .str), [.ps]⟩, ⟨.slot 3, .bool, []⟩, ⟨.slot 4, (.int .i64), []⟩]
def spec_l4Named.L0 (n : Nat) : Loop (Dens [.bool]) := keyLoop spec_l4Named.keys0 [] (spec_l4Named_l0 n)
def spec_l4Named.E (n : Nat) : Env (Dens [.bool]) := ⟨T, spec_l4Named.ρ n, 29, [0, 2, 3, 4, 11, 19], [], getA [(0, spec_l4Named.L0 n)], retOf [.tmp 2] [.bool] [[]]⟩
theorem spec_l4Named.round0 (n : Nat) (list_1 : (List ByteArray)) (some_ : Bool) (i : Int) : roundK (spec_l4Named.E n) 0 (spec_l4Named.L0 n) ((findLoop 0 (bodyOf Try.f79)).getD .skip) (list_1, some_, i) = spec_l4Named_r0 list_1 some_ i := by kernel_rfl
theorem spec_l4Named.run (n : Nat) (list : (List ByteArray)) : runF (spec_l4Named.E n) (bodyOf Try.f79) (startOf [(.sl .str)] [[]] [] list) = spec_l4Named n list := by kernel_rfl
theorem spec_l4Named.K (n : Nat)  : TabsOK Try.prog (spec_l4Named.E n).T (spec_l4Named.E n).ρ := ⟨T_ok, T_item, fun _ _ h => nomatch h⟩
theorem spec_l4Named.in0 : loopsOf ((findLoop 0 (bodyOf Try.f79)).getD .skip) = [] := by kernel_rfl
theorem spec_l4Named.lp0 (n : Nat)  : LoopOK Try.prog (spec_l4Named.E n) 0 ((findLoop 0 (bodyOf Try.f79)).getD .skip) := loop_ok (ks := spec_l4Named.keys0) (cs := []) (B := fun x => spec_l4Named_r0 x.1 x.2.1 x.2.2) (spec_l4Named.K n ) T.mixed rfl (fun x => spec_l4Named.round0 n x.1 x.2.1 x.2.2) (loops_of spec_l4Named.in0 (loops_nil))
theorem spec_l4Named.top : loopsOf (bodyOf Try.f79) = [(0, ((findLoop 0 (bodyOf Try.f79)).getD .skip))] := by kernel_rfl
theorem spec_l4Named.fin (n : Nat) : FunIn Try.prog (F := spec_l4Named.sig fun x => spec_l4Named n x) (spec_l4Named.E n) 79 (bodyOf Try.f79) [.tmp 2] := ⟨⟨Try.f79, Try.func79, by kernel_rfl, by kernel_rfl, rfl, by kernel_rfl⟩, Nat.le_of_ble_eq_true rfl, rfl, by kernel_rfl, by kernel_rfl, by kernel_rfl, rfl⟩
theorem spec_l4Named.fok (n : Nat)  : FOK Try.prog 79 (spec_l4Named.sig fun x => spec_l4Named n x) := fun_ok (spec_l4Named.fin n) (spec_l4Named.K n ) T.mixed (loops_of spec_l4Named.top (loops_cons (spec_l4Named.lp0 n ) (loops_nil))) (fun x => spec_l4Named.run n x)

def spec_l4Item.sig (f : Dens [(.int .i64), .item] → Option (Dens [.bool])) : Fun := ⟨[(.int .i64), .item], [[], []], [], [.bool], [[]], f⟩
def spec_l4Item.ρ (n : Nat) : Nat → Option Fun := getA [(35, spec_l1In.sig fun x => spec_l1In x.1 x.2.1 x.2.2), (60, spec_IsNumber.sig fun x => spec_IsNumber n x)]
def spec_l4Item.E (n : Nat) : Env (Dens [.bool]) := ⟨T, spec_l4Item.ρ n, 46, [0, 1, 3, 4, 7, 8, 9, 24], [8], getA [], retOf [.tmp 4] [.bool] [[]]⟩
theorem spec_l4Item.run (n : Nat) (kind : Int) (x : Item) : runF (spec_l4Item.E n) (bodyOf Try.f80) (startOf [(.int .i64), .item] [[], []] [] (kind, x)) = spec_l4Item n kind x := by kernel_rfl
theorem spec_l4Item.K (n : Nat)  : TabsOK Try.prog (spec_l4Item.E n).T (spec_l4Item.E n).ρ := ⟨T_ok, T_item, rho_cons (spec_l1In.fok) (rho_cons (spec_IsNumber.fok n) (fun _ _ h => nomatch h))⟩
theorem spec_l4Item.top : loopsOf (bodyOf Try.f80) = [] := by kernel_rfl
theorem spec_l4Item.fin (n : Nat) : FunIn Try.prog (F := spec_l4Item.sig fun x => spec_l4Item n x.1 x.2) (spec_l4Item.E n) 80 (bodyOf Try.f80) [.tmp 4] := ⟨⟨Try.f80, Try.func80, by kernel_rfl, by kernel_rfl, rfl, by kernel_rfl⟩, Nat.le_of_ble_eq_true rfl, rfl, by kernel_rfl, by kernel_rfl, by kernel_rfl, rfl⟩
theorem spec_l4Item.fok (n : Nat)  : FOK Try.prog 80 (spec_l4Item.sig fun x => spec_l4Item n x.1 x.2) := fun_ok (spec_l4Item.fin n) (spec_l4Item.K n ) T.mixed (loops_of spec_l4Item.top (loops_nil)) (fun x => spec_l4Item.run n x.1 x.2)

def spec_l4Is.sig (f : Dens [.vec, (.int .i64)] → Option (Dens [.bool])) : Fun := ⟨[.vec, (.int .i64)], [[], []], [], [.bool], [[]], f⟩
def spec_l4Is.ρ (rec_spec_l4Is : (Vec → Int → Option Bool)) (n : Nat) : Nat → Option Fun := getA [(35, spec_l1In.sig fun x => spec_l1In x.1 x.2.1 x.2.2), (45, spec_l4Labels.sig fun x => spec_l4Labels n x.1 x.2), (64, spec_l4Is.sig fun x => rec_spec_l4Is x.1 x.2), (78, spec_l4Len.sig fun x => spec_l4Len x), (79, spec_l4Named.sig fun x => spec_l4Named n x), (80, spec_l4Item.sig fun x => spec_l4Item n x.1 x.2)]
def spec_l4Is.keys0 : List KeyTy := [⟨.slot 1, (.int .i64), []⟩, ⟨.box 2, .vec, [.ps, .ps, .ps, .ps, .ps, .ps, .ps, .ps]⟩, ⟨.slot 6, (.int .i64), []⟩]
def spec_l4Is.L0 (_ : (Vec → Int → Option Bool)) (n : Nat) : Loop (Dens [.bool]) := keyLoop spec_l4Is.keys0 [] (spec_l4Is_l0 n)
def spec_l4Is.keys2 : List KeyTy := [⟨.slot 1, (.int .i64), []⟩, ⟨.box 2, .vec, [.ps, .ps, .ps, .ps, .ps, .ps, .ps, .ps]⟩, ⟨.slot 8, (.int .i64), []⟩]
def spec_l4Is.L2 (rec_spec_l4Is : (Vec → Int → Option Bool)) (n : Nat) : Loop (Dens [.bool]) := keyLoop spec_l4Is.keys2 [] (spec_l4Is_l2 rec_spec_l4Is n)
def spec_l4Is.E (rec_spec_l4Is : (Vec → Int → Option Bool)) (n : Nat) : Env (Dens [.bool]) := ⟨T, spec_l4Is.ρ rec_spec_l4Is n, 190, [0, 1, 2, 4, 5, 6, 7, 8, 49, 84, 87, 110, 127, 132, 169, 174, 189], [], getA [(0, spec_l4Is.L0 rec_spec_l4Is n), (2, spec_l4Is.L2 rec_spec_l4Is n)], retOf [.tmp 4] [.bool] [[]]⟩
theorem spec_l4Is.round0 (rec_spec_l4Is : (Vec → Int → Option Bool)) (n : Nat) (nest_1 : Int) (v_1 : Vec) (i : Int) : roundK (spec_l4Is.E rec_spec_l4Is n) 0 (spec_l4Is.L0 rec_spec_l4Is n) ((findLoop 0 (bodyOf Try.f64)).getD .skip) (nest_1, v_1, i) = spec_l4Is_r0 n nest_1 v_1 i := by kernel_rfl
theorem spec_l4Is.round2 (rec_spec_l4Is : (Vec → Int → Option Bool)) (n : Nat) (nest_2 : Int) (v_2 : Vec) (i_1 : Int) : roundK (spec_l4Is.E rec_spec_l4Is n) 2 (spec_l4Is.L2 rec_spec_l4Is n) ((findLoop 2 (bodyOf Try.f64)).getD .skip) (nest_2, v_2, i_1) = spec_l4Is_r2 rec_spec_l4Is nest_2 v_2 i_1 := by kernel_rfl
theorem spec_l4Is.run (rec_spec_l4Is : (Vec → Int → Option Bool)) (n : Nat) (v : Vec) (nest : Int) : runF (spec_l4Is.E rec_spec_l4Is n) (bodyOf Try.f64) (startOf [.vec, (.int .i64)] [[], []] [] (v, nest)) = spec_l4Is_b rec_spec_l4Is n v nest := by kernel_rfl
theorem spec_l4Is.K (rec_spec_l4Is : (Vec → Int → Option Bool)) (n : Nat) (h_spec_l4Is : FOK Try.prog 64 (spec_l4Is.sig fun x => rec_spec_l4Is x.1 x.2)) : TabsOK Try.prog (spec_l4Is.E rec_spec_l4Is n).T (spec_l4Is.E rec_spec_l4Is n).ρ := ⟨T_ok, T_item, rho_cons (spec_l1In.fok) (rho_cons (spec_l4Labels.fok n) (rho_cons (h_spec_l4Is) (rho_cons (spec_l4Len.fok) (rho_cons (spec_l4Named.fok n) (rho_cons (spec_l4Item.fok n) (fun _ _ h => nomatch h))))))⟩
theorem spec_l4Is.in0 : loopsOf ((findLoop 0 (bodyOf Try.f64)).getD .skip) = [] := by kernel_rfl
theorem spec_l4Is.lp0 (rec_spec_l4Is : (Vec → Int → Option Bool)) (n : Nat) (h_spec_l4Is : FOK Try.prog 64 (spec_l4Is.sig fun x => rec_spec_l4Is x.1 x.2)) : LoopOK Try.prog (spec_l4Is.E rec_spec_l4Is n) 0 ((findLoop 0 (bodyOf Try.f64)).getD .skip) := loop_ok (ks := spec_l4Is.keys0) (cs := []) (B := fun x => spec_l4Is_r0 n x.1 x.2.1 x.2.2) (spec_l4Is.K rec_spec_l4Is n h_spec_l4Is) T.mixed rfl (fun x => spec_l4Is.round0 rec_spec_l4Is n x.1 x.2.1 x.2.2) (loops_of spec_l4Is.in0 (loops_nil))
theorem spec_l4Is.in2 : loopsOf ((findLoop 2 (bodyOf Try.f64)).getD .skip) = [] := by kernel_rfl
theorem spec_l4Is.lp2 (rec_spec_l4Is : (Vec → Int → Option Bool)) (n : Nat) (h_spec_l4Is : FOK Try.prog 64 (spec_l4Is.sig fun x => rec_spec_l4Is x.1 x.2)) : LoopOK Try.prog (spec_l4Is.E rec_spec_l4Is n) 2 ((findLoop 2 (bodyOf Try.f64)).getD .skip) := loop_ok (ks := spec_l4Is.keys2) (cs := []) (B := fun x => spec_l4Is_r2 rec_spec_l4Is x.1 x.2.1 x.2.2) (spec_l4Is.K rec_spec_l4Is n h_spec_l4Is) T.mixed rfl (fun x => spec_l4Is.round2 rec_spec_l4Is n x.1 x.2.1 x.2.2) (loops_of spec_l4Is.in2 (loops_nil))
theorem spec_l4Is.top : loopsOf (bodyOf Try.f64) = [(0, ((findLoop 0 (bodyOf Try.f64)).getD .skip)), (2, ((findLoop 2 (bodyOf Try.f64)).getD .skip))] := by kernel_rfl
theorem spec_l4Is.fin (rec_spec_l4Is : (Vec → Int → Option Bool)) (n : Nat) : FunIn Try.prog (F := spec_l4Is.sig fun x => spec_l4Is_b rec_spec_l4Is n x.1 x.2) (spec_l4Is.E rec_spec_l4Is n) 64 (bodyOf Try.f64) [.tmp 4] := ⟨⟨Try.f64, Try.func64, by kernel_rfl, by kernel_rfl, rfl, by kernel_rfl⟩, Nat.le_of_ble_eq_true rfl, rfl, by kernel_rfl, by kernel_rfl, by kernel_rfl, rfl⟩
theorem spec_l4Is.step (rec_spec_l4Is : (Vec → Int → Option Bool)) (n : Nat) (h_spec_l4Is : FOK Try.prog 64 (spec_l4Is.sig fun x => rec_spec_l4Is x.1 x.2)) : FOK Try.prog 64 (spec_l4Is.sig fun x => spec_l4Is_b rec_spec_l4Is n x.1 x.2) := fun_ok (spec_l4Is.fin rec_spec_l4Is n) (spec_l4Is.K rec_spec_l4Is n h_spec_l4Is) T.mixed (loops_of spec_l4Is.top (loops_cons (spec_l4Is.lp0 rec_spec_l4Is n h_spec_l4Is) (loops_cons (spec_l4Is.lp2 rec_spec_l4Is n h_spec_l4Is) (loops_nil)))) (fun x => spec_l4Is.run rec_spec_l4Is n x.1 x.2)
theorem spec_l4Is.fok : ∀ n, FOK Try.prog 64 (spec_l4Is.sig fun x => spec_l4Is n x.1 x.2)
  | 0 => fok_none (spec_l4Is.fin (fun _ _ => none) 0)
  | n + 1 => spec_l4Is.step (spec_l4Is n) n (spec_l4Is.fok n)

def spec_l4Cells.sig (f : Dens [.vec] → Option (Dens [(.int .i64)])) : Fun := ⟨[.vec], [[]], [], [(.int .i64)], [[]], f⟩
def spec_l4Cells.ρ (rec_spec_l4Cells : (Vec → Option Int)) (_ : Nat) : Nat → Option Fun := getA [(65, spec_l4Cells.sig fun x => rec_spec_l4Cells x), (78, spec_l4Len.sig fun x => spec_l4Len x)]
def spec_l4Cells.keys0 : List KeyTy := [⟨.box 1, .vec, [.ps, .ps, .ps, .ps, .ps, .ps, .ps, .ps]⟩, ⟨.slot 3, (.int .i64), []⟩, ⟨.slot 4, (.int .i64), []⟩]
def spec_l4Cells.L0 (rec_spec_l4Cells : (Vec → Option Int)) (n : Nat) : Loop (Dens [(.int .i64)]) := keyLoop spec_l4Cells.keys0 [] (spec_l4Cells_l0 rec_spec_l4Cells n)
def spec_l4Cells.E (rec_spec_l4Cells : (Vec → Option Int)) (n : Nat) : Env (Dens [(.int .i64)]) := ⟨T, spec_l4Cells.ρ rec_spec_l4Cells n, 23, [0, 1, 2, 3, 4, 11], [], getA [(0, spec_l4Cells.L0 rec_spec_l4Cells n)], retOf [.tmp 2] [(.int .i64)] [[]]⟩
theorem spec_l4Cells.round0 (rec_spec_l4Cells : (Vec → Option Int)) (n : Nat) (v_1 : Vec) (n_ : Int) (i : Int) : roundK (spec_l4Cells.E rec_spec_l4Cells n) 0 (spec_l4Cells.L0 rec_spec_l4Cells n) ((findLoop 0 (bodyOf Try.f65)).getD .skip) (v_1, n_, i) = spec_l4Cells_r0 rec_spec_l4Cells v_1 n_ i := by kernel_rfl
theorem spec_l4Cells.run (rec_spec_l4Cells : (Vec → Option Int)) (n : Nat) (v : Vec) : runF (spec_l4Cells.E rec_spec_l4Cells n) (bodyOf Try.f65) (startOf [.vec] [[]] [] v) = spec_l4Cells_b rec_spec_l4Cells n v := by kernel_rfl
theorem spec_l4Cells.K (rec_spec_l4Cells : (Vec → Option Int)) (n : Nat) (h_spec_l4Cells : FOK Try.prog 65 (spec_l4Cells.sig fun x => rec_spec_l4Cells x)) : TabsOK Try.prog (spec_l4Cells.E rec_spec_l4Cells n).T (spec_l4Cells.E rec_spec_l4Cells n).ρ := ⟨T_ok, T_item, rho_cons (h_spec_l4Cells) (rho_cons (spec_l4Len.fok) (fun _ _ h => nomatch h))⟩
theorem spec_l4Cells.in0 : loopsOf ((findLoop 0 (bodyOf Try.f65)).getD .skip) = [] := by kernel_rfl
theorem spec_l4Cells.lp0 (rec_spec_l4Cells : (Vec → Option Int)) (n : Nat) (h_spec_l4Cells : FOK Try.prog 65 (spec_l4Cells.sig fun x => rec_spec_l4Cells x)) : LoopOK Try.prog (spec_l4Cells.E rec_spec_l4Cells n) 0 ((findLoop 0 (bodyOf Try.f65)).getD .skip) := loop_ok (ks := spec_l4Cells.keys0) (cs := []) (B := fun x => spec_l4Cells_r0 rec_spec_l4Cells x.1 x.2.1 x.2.2) (spec_l4Cells.K rec_spec_l4Cells n h_spec_l4Cells) T.mixed rfl (fun x => spec_l4Cells.round0 rec_spec_l4Cells n x.1 x.2.1 x.2.2) (loops_of spec_l4Cells.in0 (loops_nil))
theorem spec_l4Cells.top : loopsOf (bodyOf Try.f65) = [(0, ((findLoop 0 (bodyOf Try.f65)).getD .skip))] := by kernel_rfl
theorem spec_l4Cells.fin (rec_spec_l4Cells : (Vec → Option Int)) (n : Nat) : FunIn Try.prog (F := spec_l4Cells.sig fun x => spec_l4Cells_b rec_spec_l4Cells n x) (spec_l4Cells.E rec_spec_l4Cells n) 65 (bodyOf Try.f65) [.tmp 2] := ⟨⟨Try.f65, Try.func65, by kernel_rfl, by kernel_rfl, rfl, by kernel_rfl⟩, Nat.le_of_ble_eq_true rfl, rfl, by kernel_rfl, by kernel_rfl, by kernel_rfl, rfl⟩
theorem spec_l4Cells.step (rec_spec_l4Cells : (Vec → Option Int)) (n : Nat) (h_spec_l4Cells : FOK Try.prog 65 (spec_l4Cells.sig fun x => rec_spec_l4Cells x)) : FOK Try.prog 65 (spec_l4Cells.sig fun x => spec_l4Cells_b rec_spec_l4Cells n x) := fun_ok (spec_l4Cells.fin rec_spec_l4Cells n) (spec_l4Cells.K rec_spec_l4Cells n h_spec_l4Cells) T.mixed (loops_of spec_l4Cells.top (loops_cons (spec_l4Cells.lp0 rec_spec_l4Cells n h_spec_l4Cells) (loops_nil))) (fun x => spec_l4Cells.run rec_spec_l4Cells n x)
theorem spec_l4Cells.fok : ∀ n, FOK Try.prog 65 (spec_l4Cells.sig fun x => spec_l4Cells n x)
  | 0 => fok_none (spec_l4Cells.fin (fun _ => none) 0)
  | n + 1 => spec_l4Cells.step (spec_l4Cells n) n (spec_l4Cells.fok n)

def spec_IsVector.sig (f : Dens [.vec] → Option (Dens [.bool])) : Fun := ⟨[.vec], [[]], [], [.bool], [[]], f⟩
def spec_IsVector.ρ (n : Nat) : Nat → Option Fun := getA [(64, spec_l4Is.sig fun x => spec_l4Is n x.1 x.2), (65, spec_l4Cells.sig fun x => spec_l4Cells n x)]
def spec_IsVector.E (n : Nat) : Env (Dens [.bool]) := ⟨T, spec_IsVector.ρ n, 10, [0, 1, 2], [], getA [], retOf [.tmp 2] [.bool] [[]]⟩
theorem spec_IsVector.run (n : Nat) (v : Vec) : runF (spec_IsVector.E n) (bodyOf Try.f41) (startOf [.vec] [[]] [] v) = spec_IsVector n v := by kernel_rfl
theorem spec_IsVector.K (n : Nat)  : TabsOK Try.prog (spec_IsVector.E n).T (spec_IsVector.E n).ρ := ⟨T_ok, T_item, rho_cons (spec_l4Is.fok n) (rho_cons (spec_l4Cells.fok n) (fun _ _ h => nomatch h))⟩
theorem spec_IsVector.top : loopsOf (bodyOf Try.f41) = [] := by kernel_rfl
theorem spec_IsVector.fin (n : Nat) : FunIn Try.prog (F := spec_IsVector.sig fun x => spec_IsVector n x) (spec_IsVector.E n) 41 (bodyOf Try.f41) [.tmp 2] := ⟨⟨Try.f41, Try.func41, by kernel_rfl, by kernel_rfl, rfl, by kernel_rfl⟩, Nat.le_of_ble_eq_true rfl, rfl, by kernel_rfl, by kernel_rfl, by kernel_rfl, rfl⟩
theorem spec_IsVector.fok (n : Nat)  : FOK Try.prog 41 (spec_IsVector.sig fun x => spec_IsVector n x) := fun_ok (spec_IsVector.fin n) (spec_IsVector.K n ) T.mixed (loops_of spec_IsVector.top (loops_nil)) (fun x => spec_IsVector.run n x)

def spec_IsFactor.sig (f : Dens [.vec] → Option (Dens [.bool])) : Fun := ⟨[.vec], [[]], [], [.bool], [[]], f⟩
def spec_IsFactor.ρ (n : Nat) : Nat → Option Fun := getA [(41, spec_IsVector.sig fun x => spec_IsVector n x)]
def spec_IsFactor.E (n : Nat) : Env (Dens [.bool]) := ⟨T, spec_IsFactor.ρ n, 24, [0, 1, 2], [], getA [], retOf [.tmp 2] [.bool] [[]]⟩
theorem spec_IsFactor.run (n : Nat) (v : Vec) : runF (spec_IsFactor.E n) (bodyOf Try.f15) (startOf [.vec] [[]] [] v) = spec_IsFactor n v := by kernel_rfl
theorem spec_IsFactor.K (n : Nat)  : TabsOK Try.prog (spec_IsFactor.E n).T (spec_IsFactor.E n).ρ := ⟨T_ok, T_item, rho_cons (spec_IsVector.fok n) (fun _ _ h => nomatch h)⟩
theorem spec_IsFactor.top : loopsOf (bodyOf Try.f15) = [] := by kernel_rfl
theorem spec_IsFactor.fin (n : Nat) : FunIn Try.prog (F := spec_IsFactor.sig fun x => spec_IsFactor n x) (spec_IsFactor.E n) 15 (bodyOf Try.f15) [.tmp 2] := ⟨⟨Try.f15, Try.func15, by kernel_rfl, by kernel_rfl, rfl, by kernel_rfl⟩, Nat.le_of_ble_eq_true rfl, rfl, by kernel_rfl, by kernel_rfl, by kernel_rfl, rfl⟩
theorem spec_IsFactor.fok (n : Nat)  : FOK Try.prog 15 (spec_IsFactor.sig fun x => spec_IsFactor n x) := fun_ok (spec_IsFactor.fin n) (spec_IsFactor.K n ) T.mixed (loops_of spec_IsFactor.top (loops_nil)) (fun x => spec_IsFactor.run n x)

def laws_toStringS.sig (f : Dens [(.sl .str)] → Option (Dens [(.sl .str)])) : Fun := ⟨[(.sl .str)], [[]], [], [(.sl .str)], [[(.own true 0)]], f⟩
def laws_toStringS.ρ (_ : Nat) : Nat → Option Fun := getA []
def laws_toStringS.keys0 : List KeyTy := [⟨.slot 0, (.sl .str), [.ps]⟩, ⟨.slot 3, (.sl .str), [(.own true 0)]⟩, ⟨.slot 4, (.int .i64), []⟩]
def laws_toStringS.L0 (n : Nat) : Loop (Dens [(.sl .str)]) := keyLoop laws_toStringS.keys0 [] (laws_toStringS_l0 n)
def laws_toStringS.E (n : Nat) : Env (Dens [(.sl .str)]) := ⟨T, laws_toStringS.ρ n, 22, [0, 2, 3, 4, 11], [], getA [(0, laws_toStringS.L0 n)], retOf [.tmp 2] [(.sl .str)] [[(.own true 0)]]⟩
theorem laws_toStringS.round0 (n : Nat) (a_1 : (List ByteArray)) (out : (List ByteArray)) (i : Int) : roundK (laws_toStringS.E n) 0 (laws_toStringS.L0 n) ((findLoop 0 (bodyOf Try.f31)).getD .skip) (a_1, out, i) = laws_toStringS_r0 a_1 out i := by kernel_rfl
theorem laws_toStringS.run (n : Nat) (a : (List ByteArray)) : runF (laws_toStringS.E n) (bodyOf Try.f31) (startOf [(.sl .str)] [[]] [] a) = laws_toStringS n a := by kernel_rfl
theorem laws_toStringS.K (n : Nat)  : TabsOK Try.prog (laws_toStringS.E n).T (laws_toStringS.E n).ρ := ⟨T_ok, T_item, fun _ _ h => nomatch h⟩
theorem laws_toStringS.in0 : loopsOf ((findLoop 0 (bodyOf Try.f31)).getD .skip) = [] := by kernel_rfl
theorem laws_toStringS.lp0 (n : Nat)  : LoopOK Try.prog (laws_toStringS.E n) 0 ((findLoop 0 (bodyOf Try.f31)).getD .skip) := loop_ok (ks := laws_toStringS.keys0) (cs := []) (B := fun x => laws_toStringS_r0 x.1 x.2.1 x.2.2) (laws_toStringS.K n ) T.mixed rfl (fun x => laws_toStringS.round0 n x.1 x.2.1 x.2.2) (loops_of laws_toStringS.in0 (loops_nil))
theorem laws_toStringS.top : loopsOf (bodyOf Try.f31) = [(0, ((findLoop 0 (bodyOf Try.f31)).getD .skip))] := by kernel_rfl
theorem laws_toStringS.fin (n : Nat) : FunIn Try.prog (F := laws_toStringS.sig fun x => laws_toStringS n x) (laws_toStringS.E n) 31 (bodyOf Try.f31) [.tmp 2] := ⟨⟨Try.f31, Try.func31, by kernel_rfl, by kernel_rfl, rfl, by kernel_rfl⟩, Nat.le_of_ble_eq_true rfl, rfl, by kernel_rfl, by kernel_rfl, by kernel_rfl, rfl⟩
theorem laws_toStringS.fok (n : Nat)  : FOK Try.prog 31 (laws_toStringS.sig fun x => laws_toStringS n x) := fun_ok (laws_toStringS.fin n) (laws_toStringS.K n ) T.mixed (loops_of laws_toStringS.top (loops_cons (laws_toStringS.lp0 n ) (loops_nil))) (fun x => laws_toStringS.run n x)

def laws_toVector.sig (f : Dens [.vec] → Option (Dens [.vec])) : Fun := ⟨[.vec], [[]], [], [.vec], [[.ps, (.own true 0), (.own true 0), (.own true 0), (.own true 0), (.own true 0), .ps, .ps]], f⟩
def laws_toVectorS.sig (f : Dens [(.sl .vec)] → Option (Dens [(.sl .vec)])) : Fun := ⟨[(.sl .vec)], [[]], [], [(.sl .vec)], [[(.own true 0)]], f⟩
def laws_toVector.ρ (_ : (Vec → Option Vec)) (rec_laws_toVectorS : ((List Vec) → Option (List Vec))) (n : Nat) : Nat → Option Fun := getA [(31, laws_toStringS.sig fun x => laws_toStringS n x), (37, laws_toItemS.sig fun x => laws_toItemS n x), (42, laws_toVectorS.sig fun x => rec_laws_toVectorS x)]
def laws_toVector.E (rec_laws_toVector : (Vec → Option Vec)) (rec_laws_toVectorS : ((List Vec) → Option (List Vec))) (n : Nat) : Env (Dens [.vec]) := ⟨T, laws_toVector.ρ rec_laws_toVector rec_laws_toVectorS n, 34, [0, 1, 2, 3], [], getA [], retOf [.cell 2 41] [.vec] [[.ps, (.own true 0), (.own true 0), (.own true 0), (.own true 0), (.own true 0), .ps, .ps]]⟩
theorem laws_toVector.run (rec_laws_toVector : (Vec → Option Vec)) (rec_laws_toVectorS : ((List Vec) → Option (List Vec))) (n : Nat) (a : Vec) : runF (laws_toVector.E rec_laws_toVector rec_laws_toVectorS n) (bodyOf Try.f16) (startOf [.vec] [[]] [] a) = laws_toVector_b rec_laws_toVector rec_laws_toVectorS n a := by kernel_rfl
def laws_toVectorS.ρ (rec_laws_toVector : (Vec → Option Vec)) (_ : ((List Vec) → Option (List Vec))) (_ : Nat) : Nat → Option Fun := getA [(16, laws_toVector.sig fun x => rec_laws_toVector x)]
def laws_toVectorS.keys0 : List KeyTy := [⟨.slot 0, (.sl .vec), [.ps]⟩, ⟨.slot 3, (.sl .vec), [(.own true 0)]⟩, ⟨.slot 4, (.int .i64), []⟩]
def laws_toVectorS.L0 (rec_laws_toVector : (Vec → Option Vec)) (_ : ((List Vec) → Option (List Vec))) (n : Nat) : Loop (Dens [(.sl .vec)]) := keyLoop laws_toVectorS.keys0 [] (laws_toVectorS_l0 rec_laws_toVector n)
def laws_toVectorS.E (rec_laws_toVector : (Vec → Option Vec)) (rec_laws_toVectorS : ((List Vec) → Option (List Vec))) (n : Nat) : Env (Dens [(.sl .vec)]) := ⟨T, laws_toVectorS.ρ rec_laws_toVector rec_laws_toVectorS n, 23, [0, 2, 3, 4, 11], [], getA [(0, laws_toVectorS.L0 rec_laws_toVector rec_laws_toVectorS n)], retOf [.tmp 2] [(.sl .vec)] [[(.own true 0)]]⟩
theorem laws_toVectorS.round0 (rec_laws_toVector : (Vec → Option Vec)) (rec_laws_toVectorS : ((List Vec) → Option (List Vec))) (n : Nat) (a_1 : (List Vec)) (out : (List Vec)) (i : Int) : roundK (laws_toVectorS.E rec_laws_toVector rec_laws_toVectorS n) 0 (laws_toVectorS.L0 rec_laws_toVector rec_laws_toVectorS n) ((findLoop 0 (bodyOf Try.f42)).getD .skip) (a_1, out, i) = laws_toVectorS_r0 rec_laws_toVector a_1 out i := by kernel_rfl
theorem laws_toVectorS.run (rec_laws_toVector : (Vec → Option Vec)) (rec_laws_toVectorS : ((List Vec) → Option (List Vec))) (n : Nat) (a : (List Vec)) : runF (laws_toVectorS.E rec_laws_toVector rec_laws_toVectorS n) (bodyOf Try.f42) (startOf [(.sl .vec)] [[]] [] a) = laws_toVectorS_b rec_laws_toVector rec_laws_toVectorS n a := by kernel_rfl
theorem laws_toVector.K (rec_laws_toVector : (Vec → Option Vec)) (rec_laws_toVectorS : ((List Vec) → Option (List Vec))) (n : Nat) (_ : FOK Try.prog 16 (laws_toVector.sig fun x => rec_laws_toVector x)) (h_laws_toVectorS : FOK Try.prog 42 (laws_toVectorS.sig fun x => rec_laws_toVectorS x)) : TabsOK Try.prog (laws_toVector.E rec_laws_toVector rec_laws_toVectorS n).T (laws_toVector.E rec_laws_toVector rec_laws_toVectorS n).ρ := ⟨T_ok, T_item, rho_cons (laws_toStringS.fok n) (rho_cons (laws_toItemS.fok n) (rho_cons (h_laws_toVectorS) (fun _ _ h => nomatch h)))⟩
theorem laws_toVector.top : loopsOf (bodyOf Try.f16) = [] := by kernel_rfl
theorem laws_toVector.fin (rec_laws_toVector : (Vec → Option Vec)) (rec_laws_toVectorS : ((List Vec) → Option (List Vec))) (n : Nat) : FunIn Try.prog (F := laws_toVector.sig fun x => laws_toVector_b rec_laws_toVector rec_laws_toVectorS n x) (laws_toVector.E rec_laws_toVector rec_laws_toVectorS n) 16 (bodyOf Try.f16) [.cell 2 41] := ⟨⟨Try.f16, Try.func16, by kernel_rfl, by kernel_rfl, rfl, by kernel_rfl⟩, Nat.le_of_ble_eq_true rfl, rfl, by kernel_rfl, by kernel_rfl, by kernel_rfl, rfl⟩
theorem laws_toVector.step (rec_laws_toVector : (Vec → Option Vec)) (rec_laws_toVectorS : ((List Vec) → Option (List Vec))) (n : Nat) (h_laws_toVector : FOK Try.prog 16 (laws_toVector.sig fun x => rec_laws_toVector x)) (h_laws_toVectorS : FOK Try.prog 42 (laws_toVectorS.sig fun x => rec_laws_toVectorS x)) : FOK Try.prog 16 (laws_toVector.sig fun x => laws_toVector_b rec_laws_toVector rec_laws_toVectorS n x) := fun_ok (laws_toVector.fin rec_laws_toVector rec_laws_toVectorS n) (laws_toVector.K rec_laws_toVector rec_laws_toVectorS n h_laws_toVector h_laws_toVectorS) T.mixed (loops_of laws_toVector.top (loops_nil)) (fun x => laws_toVector.run rec_laws_toVector rec_laws_toVectorS n x)
theorem laws_toVectorS.K (rec_laws_toVector : (Vec → Option Vec)) (rec_laws_toVectorS : ((List Vec) → Option (List Vec))) (n : Nat) (h_laws_toVector : FOK Try.prog 16 (laws_toVector.sig fun x => rec_laws_toVector x)) (_ : FOK Try.prog 42 (laws_toVectorS.sig fun x => rec_laws_toVectorS x)) : TabsOK Try.prog (laws_toVectorS.E rec_laws_toVector rec_laws_toVectorS n).T (laws_toVectorS.E rec_laws_toVector rec_laws_toVectorS n).ρ := ⟨T_ok, T_item, rho_cons (h_laws_toVector) (fun _ _ h => nomatch h)⟩
theorem laws_toVectorS.in0 : loopsOf ((findLoop 0 (bodyOf Try.f42)).getD .skip) = [] := by kernel_rfl
theorem laws_toVectorS.lp0 (rec_laws_toVector : (Vec → Option Vec)) (rec_laws_toVectorS : ((List Vec) → Option (List Vec))) (n : Nat) (h_laws_toVector : FOK Try.prog 16 (laws_toVector.sig fun x => rec_laws_toVector x)) (h_laws_toVectorS : FOK Try.prog 42 (laws_toVectorS.sig fun x => rec_laws_toVectorS x)) : LoopOK Try.prog (laws_toVectorS.E rec_laws_toVector rec_laws_toVectorS n) 0 ((findLoop 0 (bodyOf Try.f42)).getD .skip) := loop_ok (ks := laws_toVectorS.keys0) (cs := []) (B := fun x => laws_toVectorS_r0 rec_laws_toVector x.1 x.2.1 x.2.2) (laws_toVectorS.K rec_laws_toVector rec_laws_toVectorS n h_laws_toVector h_laws_toVectorS) T.mixed rfl (fun x => laws_toVectorS.round0 rec_laws_toVector rec_laws_toVectorS n x.1 x.2.1 x.2.2) (loops_of laws_toVectorS.in0 (loops_nil))
theorem laws_toVectorS.top : loopsOf (bodyOf Try.f42) = [(0, ((findLoop 0 (bodyOf Try.f42)).getD .skip))] := by kernel_rfl
theorem laws_toVectorS.fin (rec_laws_toVector : (Vec → Option Vec)) (rec_laws_toVectorS : ((List Vec) → Option (List Vec))) (n : Nat) : FunIn Try.prog (F := laws_toVectorS.sig fun x => laws_toVectorS_b rec_laws_toVector rec_laws_toVectorS n x) (laws_toVectorS.E rec_laws_toVector rec_laws_toVectorS n) 42 (bodyOf Try.f42) [.tmp 2] := ⟨⟨Try.f42, Try.func42, by kernel_rfl, by kernel_rfl, rfl, by kernel_rfl⟩, Nat.le_of_ble_eq_true rfl, rfl, by kernel_rfl, by kernel_rfl, by kernel_rfl, rfl⟩
theorem laws_toVectorS.step (rec_laws_toVector : (Vec → Option Vec)) (rec_laws_toVectorS : ((List Vec) → Option (List Vec))) (n : Nat) (h_laws_toVector : FOK Try.prog 16 (laws_toVector.sig fun x => rec_laws_toVector x)) (h_laws_toVectorS : FOK Try.prog 42 (laws_toVectorS.sig fun x => rec_laws_toVectorS x)) : FOK Try.prog 42 (laws_toVectorS.sig fun x => laws_toVectorS_b rec_laws_toVector rec_laws_toVectorS n x) := fun_ok (laws_toVectorS.fin rec_laws_toVector rec_laws_toVectorS n) (laws_toVectorS.K rec_laws_toVector rec_laws_toVectorS n h_laws_toVector h_laws_toVectorS) T.mixed (loops_of laws_toVectorS.top (loops_cons (laws_toVectorS.lp0 rec_laws_toVector rec_laws_toVectorS n h_laws_toVector h_laws_toVectorS) (loops_nil))) (fun x => laws_toVectorS.run rec_laws_toVector rec_laws_toVectorS n x)
theorem laws_toVector_laws_toVectorS.fok : ∀ n, FOK Try.prog 16 (laws_toVector.sig fun x => laws_toVector n x) ∧ FOK Try.prog 42 (laws_toVectorS.sig fun x => laws_toVectorS n x)
  | 0 => ⟨fok_none (laws_toVector.fin (fun _ => none) (fun _ => none) 0), fok_none (laws_toVectorS.fin (fun _ => none) (fun _ => none) 0)⟩
  | n + 1 => let h := laws_toVector_laws_toVectorS.fok n; ⟨laws_toVector.step (laws_toVector n) (laws_toVectorS n) n h.1 h.2, laws_toVectorS.step (laws_toVector n) (laws_toVectorS n) n h.1 h.2⟩
theorem laws_toVector.fok (n : Nat) : FOK Try.prog 16 (laws_toVector.sig fun x => laws_toVector n x) := (laws_toVector_laws_toVectorS.fok n).1
theorem laws_toVectorS.fok (n : Nat) : FOK Try.prog 42 (laws_toVectorS.sig fun x => laws_toVectorS n x) := (laws_toVector_laws_toVectorS.fok n).2

def impl_nest.sig (f : Dens [.vec, (.int .i64)] → Option (Dens [(.int .i64)])) : Fun := ⟨[.vec, (.int .i64)], [[], []], [], [(.int .i64)], [[]], f⟩
def impl_nest.ρ (rec_impl_nest : (Vec → Int → Option Int)) (_ : Nat) : Nat → Option Fun := getA [(66, impl_nest.sig fun x => rec_impl_nest x.1 x.2)]
def impl_nest.keys0 : List KeyTy := [⟨.slot 1, (.int .i64), []⟩, ⟨.slot 5, (.int .i64), []⟩, ⟨.slot 11, (.sl .vec), [.ps]⟩, ⟨.slot 12, (.int .i64), []⟩, ⟨.slot 13, (.int .i64), []⟩]
def impl_nest.L0 (rec_impl_nest : (Vec → Int → Option Int)) (n : Nat) : Loop (Dens [(.int .i64)]) := keyLoop impl_nest.keys0 [] (impl_nest_l0 rec_impl_nest n)
def impl_nest.E (rec_impl_nest : (Vec → Int → Option Int)) (n : Nat) : Env (Dens [(.int .i64)]) := ⟨T, impl_nest.ρ rec_impl_nest n, 26, [0, 1, 2, 4, 5, 7, 9, 11, 12, 13, 14], [11], getA [(0, impl_nest.L0 rec_impl_nest n)], retOf [.tmp 4] [(.int .i64)] [[]]⟩
theorem impl_nest.round0 (rec_impl_nest : (Vec → Int → Option Int)) (n : Nat) (room_1 : Int) (out : Int) (t11 : (List Vec)) (t12 : Int) (t13 : Int) : roundK (impl_nest.E rec_impl_nest n) 0 (impl_nest.L0 rec_impl_nest n) ((findLoop 0 (bodyOf Try.f66)).getD .skip) (room_1, out, t11, t12, t13) = impl_nest_r0 rec_impl_nest room_1 out t11 t12 t13 := by kernel_rfl
theorem impl_nest.run (rec_impl_nest : (Vec → Int → Option Int)) (n : Nat) (v : Vec) (room : Int) : runF (impl_nest.E rec_impl_nest n) (bodyOf Try.f66) (startOf [.vec, (.int .i64)] [[], []] [] (v, room)) = impl_nest_b rec_impl_nest n v room := by kernel_rfl
theorem impl_nest.K (rec_impl_nest : (Vec → Int → Option Int)) (n : Nat) (h_impl_nest : FOK Try.prog 66 (impl_nest.sig fun x => rec_impl_nest x.1 x.2)) : TabsOK Try.prog (impl_nest.E rec_impl_nest n).T (impl_nest.E rec_impl_nest n).ρ := ⟨T_ok, T_item, rho_cons (h_impl_nest) (fun _ _ h => nomatch h)⟩
theorem impl_nest.in0 : loopsOf ((findLoop 0 (bodyOf Try.f66)).getD .skip) = [] := by kernel_rfl
theorem impl_nest.lp0 (rec_impl_nest : (Vec → Int → Option Int)) (n : Nat) (h_impl_nest : FOK Try.prog 66 (impl_nest.sig fun x => rec_impl_nest x.1 x.2)) : LoopOK Try.prog (impl_nest.E rec_impl_nest n) 0 ((findLoop 0 (bodyOf Try.f66)).getD .skip) := loop_ok (ks := impl_nest.keys0) (cs := []) (B := fun x => impl_nest_r0 rec_impl_nest x.1 x.2.1 x.2.2.1 x.2.2.2.1 x.2.2.2.2) (impl_nest.K rec_impl_nest n h_impl_nest) T.mixed rfl (fun x => impl_nest.round0 rec_impl_nest n x.1 x.2.1 x.2.2.1 x.2.2.2.1 x.2.2.2.2) (loops_of impl_nest.in0 (loops_nil))
theorem impl_nest.top : loopsOf (bodyOf Try.f66) = [(0, ((findLoop 0 (bodyOf Try.f66)).getD .skip))] := by kernel_rfl
theorem impl_nest.fin (rec_impl_nest : (Vec → Int → Option Int)) (n : Nat) : FunIn Try.prog (F := impl_nest.sig fun x => impl_nest_b rec_impl_nest n x.1 x.2) (impl_nest.E rec_impl_nest n) 66 (bodyOf Try.f66) [.tmp 4] := ⟨⟨Try.f66, Try.func66, by kernel_rfl, by kernel_rfl, rfl, by kernel_rfl⟩, Nat.le_of_ble_eq_true rfl, rfl, by kernel_rfl, by kernel_rfl, by kernel_rfl, rfl⟩
theorem impl_nest.step (rec_impl_nest : (Vec → Int → Option Int)) (n : Nat) (h_impl_nest : FOK Try.prog 66 (impl_nest.sig fun x => rec_impl_nest x.1 x.2)) : FOK Try.prog 66 (impl_nest.sig fun x => impl_nest_b rec_impl_nest n x.1 x.2) := fun_ok (impl_nest.fin rec_impl_nest n) (impl_nest.K rec_impl_nest n h_impl_nest) T.mixed (loops_of impl_nest.top (loops_cons (impl_nest.lp0 rec_impl_nest n h_impl_nest) (loops_nil))) (fun x => impl_nest.run rec_impl_nest n x.1 x.2)
theorem impl_nest.fok : ∀ n, FOK Try.prog 66 (impl_nest.sig fun x => impl_nest n x.1 x.2)
  | 0 => fok_none (impl_nest.fin (fun _ _ => none) 0)
  | n + 1 => impl_nest.step (impl_nest n) n (impl_nest.fok n)

def impl_isAtomic.sig (f : Dens [.vec] → Option (Dens [.bool])) : Fun := ⟨[.vec], [[]], [], [.bool], [[]], f⟩
def impl_isAtomic.ρ  : Nat → Option Fun := getA []
def impl_isAtomic.E  : Env (Dens [.bool]) := ⟨T, impl_isAtomic.ρ , 16, [0, 1, 2], [], getA [], retOf [.tmp 2] [.bool] [[]]⟩
theorem impl_isAtomic.run (v : Vec) : runF (impl_isAtomic.E ) (bodyOf Try.f48) (startOf [.vec] [[]] [] v) = impl_isAtomic v := by kernel_rfl
theorem impl_isAtomic.K   : TabsOK Try.prog (impl_isAtomic.E ).T (impl_isAtomic.E ).ρ := ⟨T_ok, T_item, fun _ _ h => nomatch h⟩
theorem impl_isAtomic.top : loopsOf (bodyOf Try.f48) = [] := by kernel_rfl
theorem impl_isAtomic.fin  : FunIn Try.prog (F := impl_isAtomic.sig fun x => impl_isAtomic x) (impl_isAtomic.E ) 48 (bodyOf Try.f48) [.tmp 2] := ⟨⟨Try.f48, Try.func48, by kernel_rfl, by kernel_rfl, rfl, by kernel_rfl⟩, Nat.le_of_ble_eq_true rfl, rfl, by kernel_rfl, by kernel_rfl, by kernel_rfl, rfl⟩
theorem impl_isAtomic.fok   : FOK Try.prog 48 (impl_isAtomic.sig fun x => impl_isAtomic x) := fun_ok (impl_isAtomic.fin ) (impl_isAtomic.K  ) T.mixed (loops_of impl_isAtomic.top (loops_nil)) (fun x => impl_isAtomic.run x)

def impl_length.sig (f : Dens [.vec] → Option (Dens [(.int .i64)])) : Fun := ⟨[.vec], [[]], [], [(.int .i64)], [[]], f⟩
def impl_length.ρ  : Nat → Option Fun := getA []
def impl_length.E  : Env (Dens [(.int .i64)]) := ⟨T, impl_length.ρ , 13, [0, 1, 2, 5], [], getA [], retOf [.tmp 2] [(.int .i64)] [[]]⟩
theorem impl_length.run (v : Vec) : runF (impl_length.E ) (bodyOf Try.f49) (startOf [.vec] [[]] [] v) = impl_length v := by kernel_rfl
theorem impl_length.K   : TabsOK Try.prog (impl_length.E ).T (impl_length.E ).ρ := ⟨T_ok, T_item, fun _ _ h => nomatch h⟩
theorem impl_length.top : loopsOf (bodyOf Try.f49) = [] := by kernel_rfl
theorem impl_length.fin  : FunIn Try.prog (F := impl_length.sig fun x => impl_length x) (impl_length.E ) 49 (bodyOf Try.f49) [.tmp 2] := ⟨⟨Try.f49, Try.func49, by kernel_rfl, by kernel_rfl, rfl, by kernel_rfl⟩, Nat.le_of_ble_eq_true rfl, rfl, by kernel_rfl, by kernel_rfl, by kernel_rfl, rfl⟩
theorem impl_length.fok   : FOK Try.prog 49 (impl_length.sig fun x => impl_length x) := fun_ok (impl_length.fin ) (impl_length.K  ) T.mixed (loops_of impl_length.top (loops_nil)) (fun x => impl_length.run x)

def impl_isMissing.sig (f : Dens [.item] → Option (Dens [.bool])) : Fun := ⟨[.item], [[]], [], [.bool], [[]], f⟩
def impl_isMissing.ρ  : Nat → Option Fun := getA []
def impl_isMissing.E  : Env (Dens [.bool]) := ⟨T, impl_isMissing.ρ , 6, [0, 1, 2], [], getA [], retOf [.tmp 2] [.bool] [[]]⟩
theorem impl_isMissing.run (x : Item) : runF (impl_isMissing.E ) (bodyOf Try.f52) (startOf [.item] [[]] [] x) = impl_isMissing x := by kernel_rfl
theorem impl_isMissing.K   : TabsOK Try.prog (impl_isMissing.E ).T (impl_isMissing.E ).ρ := ⟨T_ok, T_item, fun _ _ h => nomatch h⟩
theorem impl_isMissing.top : loopsOf (bodyOf Try.f52) = [] := by kernel_rfl
theorem impl_isMissing.fin  : FunIn Try.prog (F := impl_isMissing.sig fun x => impl_isMissing x) (impl_isMissing.E ) 52 (bodyOf Try.f52) [.tmp 2] := ⟨⟨Try.f52, Try.func52, by kernel_rfl, by kernel_rfl, rfl, by kernel_rfl⟩, Nat.le_of_ble_eq_true rfl, rfl, by kernel_rfl, by kernel_rfl, by kernel_rfl, rfl⟩
theorem impl_isMissing.fok   : FOK Try.prog 52 (impl_isMissing.sig fun x => impl_isMissing x) := fun_ok (impl_isMissing.fin ) (impl_isMissing.K  ) T.mixed (loops_of impl_isMissing.top (loops_nil)) (fun x => impl_isMissing.run x)

def impl_textIndex.sig (f : Dens [(.sl .str), .str] → Option (Dens [(.int .i64)])) : Fun := ⟨[(.sl .str), .str], [[], []], [], [(.int .i64)], [[]], f⟩
def impl_textIndex.ρ (_ : Nat) : Nat → Option Fun := getA []
def impl_textIndex.keys0 : List KeyTy := [⟨.slot 1, .str, []⟩, ⟨.slot 7, (.sl .str), [.ps]⟩, ⟨.slot 8, (.int .i64), []⟩, ⟨.slot 9, (.int .i64), []⟩]
def impl_textIndex.L0 (n : Nat) : Loop (Dens [(.int .i64)]) := keyLoop impl_textIndex.keys0 [] (impl_textIndex_l0 n)
def impl_textIndex.E (n : Nat) : Env (Dens [(.int .i64)]) := ⟨T, impl_textIndex.ρ n, 19, [0, 1, 4, 5, 6, 7, 8, 9, 10, 16], [7], getA [(0, impl_textIndex.L0 n)], retOf [.tmp 4] [(.int .i64)] [[]]⟩
theorem impl_textIndex.round0 (n : Nat) (s_1 : ByteArray) (t7 : (List ByteArray)) (t8 : Int) (t9 : Int) : roundK (impl_textIndex.E n) 0 (impl_textIndex.L0 n) ((findLoop 0 (bodyOf Try.f70)).getD .skip) (s_1, t7, t8, t9) = impl_textIndex_r0 s_1 t7 t8 t9 := by kernel_rfl
theorem impl_textIndex.run (n : Nat) (list : (List ByteArray)) (s : ByteArray) : runF (impl_textIndex.E n) (bodyOf Try.f70) (startOf [(.sl .str), .str] [[], []] [] (list, s)) = impl_textIndex n list s := by kernel_rfl
theorem impl_textIndex.K (n : Nat)  : TabsOK Try.prog (impl_textIndex.E n).T (impl_textIndex.E n).ρ := ⟨T_ok, T_item, fun _ _ h => nomatch h⟩
theorem impl_textIndex.in0 : loopsOf ((findLoop 0 (bodyOf Try.f70)).getD .skip) = [] := by kernel_rfl
theorem impl_textIndex.lp0 (n : Nat)  : LoopOK Try.prog (impl_textIndex.E n) 0 ((findLoop 0 (bodyOf Try.f70)).getD .skip) := loop_ok (ks := impl_textIndex.keys0) (cs := []) (B := fun x => impl_textIndex_r0 x.1 x.2.1 x.2.2.1 x.2.2.2) (impl_textIndex.K n ) T.mixed rfl (fun x => impl_textIndex.round0 n x.1 x.2.1 x.2.2.1 x.2.2.2) (loops_of impl_textIndex.in0 (loops_nil))
theorem impl_textIndex.top : loopsOf (bodyOf Try.f70) = [(0, ((findLoop 0 (bodyOf Try.f70)).getD .skip))] := by kernel_rfl
theorem impl_textIndex.fin (n : Nat) : FunIn Try.prog (F := impl_textIndex.sig fun x => impl_textIndex n x.1 x.2) (impl_textIndex.E n) 70 (bodyOf Try.f70) [.tmp 4] := ⟨⟨Try.f70, Try.func70, by kernel_rfl, by kernel_rfl, rfl, by kernel_rfl⟩, Nat.le_of_ble_eq_true rfl, rfl, by kernel_rfl, by kernel_rfl, by kernel_rfl, rfl⟩
theorem impl_textIndex.fok (n : Nat)  : FOK Try.prog 70 (impl_textIndex.sig fun x => impl_textIndex n x.1 x.2) := fun_ok (impl_textIndex.fin n) (impl_textIndex.K n ) T.mixed (loops_of impl_textIndex.top (loops_cons (impl_textIndex.lp0 n ) (loops_nil))) (fun x => impl_textIndex.run n x.1 x.2)

def impl_hasText.sig (f : Dens [(.sl .str), .str] → Option (Dens [.bool])) : Fun := ⟨[(.sl .str), .str], [[], []], [], [.bool], [[]], f⟩
def impl_hasText.ρ (n : Nat) : Nat → Option Fun := getA [(70, impl_textIndex.sig fun x => impl_textIndex n x.1 x.2)]
def impl_hasText.E (n : Nat) : Env (Dens [.bool]) := ⟨T, impl_hasText.ρ n, 9, [0, 1, 4], [], getA [], retOf [.tmp 4] [.bool] [[]]⟩
theorem impl_hasText.run (n : Nat) (list : (List ByteArray)) (s : ByteArray) : runF (impl_hasText.E n) (bodyOf Try.f47) (startOf [(.sl .str), .str] [[], []] [] (list, s)) = impl_hasText n list s := by kernel_rfl
theorem impl_hasText.K (n : Nat)  : TabsOK Try.prog (impl_hasText.E n).T (impl_hasText.E n).ρ := ⟨T_ok, T_item, rho_cons (impl_textIndex.fok n) (fun _ _ h => nomatch h)⟩
theorem impl_hasText.top : loopsOf (bodyOf Try.f47) = [] := by kernel_rfl
theorem impl_hasText.fin (n : Nat) : FunIn Try.prog (F := impl_hasText.sig fun x => impl_hasText n x.1 x.2) (impl_hasText.E n) 47 (bodyOf Try.f47) [.tmp 4] := ⟨⟨Try.f47, Try.func47, by kernel_rfl, by kernel_rfl, rfl, by kernel_rfl⟩, Nat.le_of_ble_eq_true rfl, rfl, by kernel_rfl, by kernel_rfl, by kernel_rfl, rfl⟩
theorem impl_hasText.fok (n : Nat)  : FOK Try.prog 47 (impl_hasText.sig fun x => impl_hasText n x.1 x.2) := fun_ok (impl_hasText.fin n) (impl_hasText.K n ) T.mixed (loops_of impl_hasText.top (loops_nil)) (fun x => impl_hasText.run n x.1 x.2)

def impl_labelsValid.sig (f : Dens [(.sl .str), (.int .i64)] → Option (Dens [.bool])) : Fun := ⟨[(.sl .str), (.int .i64)], [[], []], [], [.bool], [[]], f⟩
def impl_labelsValid.ρ (n : Nat) : Nat → Option Fun := getA [(47, impl_hasText.sig fun x => impl_hasText n x.1 x.2)]
def impl_labelsValid.keys0 : List KeyTy := [⟨.slot 0, (.sl .str), [.ps]⟩, ⟨.slot 11, (.sl .str), [.ps]⟩, ⟨.slot 12, (.int .i64), []⟩, ⟨.slot 13, (.int .i64), []⟩]
def impl_labelsValid.L0 (n : Nat) : Loop (Dens [.bool]) := keyLoop impl_labelsValid.keys0 [] (impl_labelsValid_l0 n)
def impl_labelsValid.E (n : Nat) : Env (Dens [.bool]) := ⟨T, impl_labelsValid.ρ n, 33, [0, 1, 4, 5, 6, 10, 11, 12, 13, 14, 31], [11], getA [(0, impl_labelsValid.L0 n)], retOf [.tmp 4] [.bool] [[]]⟩
theorem impl_labelsValid.round0 (n : Nat) (list_1 : (List ByteArray)) (t11 : (List ByteArray)) (t12 : Int) (t13 : Int) : roundK (impl_labelsValid.E n) 0 (impl_labelsValid.L0 n) ((findLoop 0 (bodyOf Try.f87)).getD .skip) (list_1, t11, t12, t13) = impl_labelsValid_r0 n list_1 t11 t12 t13 := by kernel_rfl
theorem impl_labelsValid.run (n : Nat) (list : (List ByteArray)) (most : Int) : runF (impl_labelsValid.E n) (bodyOf Try.f87) (startOf [(.sl .str), (.int .i64)] [[], []] [] (list, most)) = impl_labelsValid n list most := by kernel_rfl
theorem impl_labelsValid.K (n : Nat)  : TabsOK Try.prog (impl_labelsValid.E n).T (impl_labelsValid.E n).ρ := ⟨T_ok, T_item, rho_cons (impl_hasText.fok n) (fun _ _ h => nomatch h)⟩
theorem impl_labelsValid.in0 : loopsOf ((findLoop 0 (bodyOf Try.f87)).getD .skip) = [] := by kernel_rfl
theorem impl_labelsValid.lp0 (n : Nat)  : LoopOK Try.prog (impl_labelsValid.E n) 0 ((findLoop 0 (bodyOf Try.f87)).getD .skip) := loop_ok (ks := impl_labelsValid.keys0) (cs := []) (B := fun x => impl_labelsValid_r0 n x.1 x.2.1 x.2.2.1 x.2.2.2) (impl_labelsValid.K n ) T.mixed rfl (fun x => impl_labelsValid.round0 n x.1 x.2.1 x.2.2.1 x.2.2.2) (loops_of impl_labelsValid.in0 (loops_nil))
theorem impl_labelsValid.top : loopsOf (bodyOf Try.f87) = [(0, ((findLoop 0 (bodyOf Try.f87)).getD .skip))] := by kernel_rfl
theorem impl_labelsValid.fin (n : Nat) : FunIn Try.prog (F := impl_labelsValid.sig fun x => impl_labelsValid n x.1 x.2) (impl_labelsValid.E n) 87 (bodyOf Try.f87) [.tmp 4] := ⟨⟨Try.f87, Try.func87, by kernel_rfl, by kernel_rfl, rfl, by kernel_rfl⟩, Nat.le_of_ble_eq_true rfl, rfl, by kernel_rfl, by kernel_rfl, by kernel_rfl, rfl⟩
theorem impl_labelsValid.fok (n : Nat)  : FOK Try.prog 87 (impl_labelsValid.sig fun x => impl_labelsValid n x.1 x.2) := fun_ok (impl_labelsValid.fin n) (impl_labelsValid.K n ) T.mixed (loops_of impl_labelsValid.top (loops_cons (impl_labelsValid.lp0 n ) (loops_nil))) (fun x => impl_labelsValid.run n x.1 x.2)

def impl_allEmpty.sig (f : Dens [(.sl .str)] → Option (Dens [.bool])) : Fun := ⟨[(.sl .str)], [[]], [], [.bool], [[]], f⟩
def impl_allEmpty.ρ (_ : Nat) : Nat → Option Fun := getA []
def impl_allEmpty.keys0 : List KeyTy := [⟨.slot 5, (.sl .str), [.ps]⟩, ⟨.slot 6, (.int .i64), []⟩, ⟨.slot 7, (.int .i64), []⟩]
def impl_allEmpty.L0 (n : Nat) : Loop (Dens [.bool]) := keyLoop impl_allEmpty.keys0 [] (impl_allEmpty_l0 n)
def impl_allEmpty.E (n : Nat) : Env (Dens [.bool]) := ⟨T, impl_allEmpty.ρ n, 14, [0, 2, 4, 5, 6, 7, 8, 12], [5], getA [(0, impl_allEmpty.L0 n)], retOf [.tmp 2] [.bool] [[]]⟩
theorem impl_allEmpty.round0 (n : Nat) (t5 : (List ByteArray)) (t6 : Int) (t7 : Int) : roundK (impl_allEmpty.E n) 0 (impl_allEmpty.L0 n) ((findLoop 0 (bodyOf Try.f88)).getD .skip) (t5, t6, t7) = impl_allEmpty_r0 t5 t6 t7 := by kernel_rfl
theorem impl_allEmpty.run (n : Nat) (list : (List ByteArray)) : runF (impl_allEmpty.E n) (bodyOf Try.f88) (startOf [(.sl .str)] [[]] [] list) = impl_allEmpty n list := by kernel_rfl
theorem impl_allEmpty.K (n : Nat)  : TabsOK Try.prog (impl_allEmpty.E n).T (impl_allEmpty.E n).ρ := ⟨T_ok, T_item, fun _ _ h => nomatch h⟩
theorem impl_allEmpty.in0 : loopsOf ((findLoop 0 (bodyOf Try.f88)).getD .skip) = [] := by kernel_rfl
theorem impl_allEmpty.lp0 (n : Nat)  : LoopOK Try.prog (impl_allEmpty.E n) 0 ((findLoop 0 (bodyOf Try.f88)).getD .skip) := loop_ok (ks := impl_allEmpty.keys0) (cs := []) (B := fun x => impl_allEmpty_r0 x.1 x.2.1 x.2.2) (impl_allEmpty.K n ) T.mixed rfl (fun x => impl_allEmpty.round0 n x.1 x.2.1 x.2.2) (loops_of impl_allEmpty.in0 (loops_nil))
theorem impl_allEmpty.top : loopsOf (bodyOf Try.f88) = [(0, ((findLoop 0 (bodyOf Try.f88)).getD .skip))] := by kernel_rfl
theorem impl_allEmpty.fin (n : Nat) : FunIn Try.prog (F := impl_allEmpty.sig fun x => impl_allEmpty n x) (impl_allEmpty.E n) 88 (bodyOf Try.f88) [.tmp 2] := ⟨⟨Try.f88, Try.func88, by kernel_rfl, by kernel_rfl, rfl, by kernel_rfl⟩, Nat.le_of_ble_eq_true rfl, rfl, by kernel_rfl, by kernel_rfl, by kernel_rfl, rfl⟩
theorem impl_allEmpty.fok (n : Nat)  : FOK Try.prog 88 (impl_allEmpty.sig fun x => impl_allEmpty n x) := fun_ok (impl_allEmpty.fin n) (impl_allEmpty.K n ) T.mixed (loops_of impl_allEmpty.top (loops_cons (impl_allEmpty.lp0 n ) (loops_nil))) (fun x => impl_allEmpty.run n x)

def impl_itemValid.sig (f : Dens [(.int .i64), .item] → Option (Dens [.bool])) : Fun := ⟨[(.int .i64), .item], [[], []], [], [.bool], [[]], f⟩
def impl_itemValid.ρ (n : Nat) : Nat → Option Fun := getA [(52, impl_isMissing.sig fun x => impl_isMissing x), (62, impl_IsNumber.sig fun x => impl_IsNumber n x)]
def impl_itemValid.E (n : Nat) : Env (Dens [.bool]) := ⟨T, impl_itemValid.ρ n, 48, [0, 1, 3, 4, 6, 7, 8, 28, 32], [7], getA [], retOf [.tmp 4] [.bool] [[]]⟩
theorem impl_itemValid.run (n : Nat) (kind : Int) (x : Item) : runF (impl_itemValid.E n) (bodyOf Try.f89) (startOf [(.int .i64), .item] [[], []] [] (kind, x)) = impl_itemValid n kind x := by kernel_rfl
theorem impl_itemValid.K (n : Nat)  : TabsOK Try.prog (impl_itemValid.E n).T (impl_itemValid.E n).ρ := ⟨T_ok, T_item, rho_cons (impl_isMissing.fok) (rho_cons (impl_IsNumber.fok n) (fun _ _ h => nomatch h))⟩
theorem impl_itemValid.top : loopsOf (bodyOf Try.f89) = [] := by kernel_rfl
theorem impl_itemValid.fin (n : Nat) : FunIn Try.prog (F := impl_itemValid.sig fun x => impl_itemValid n x.1 x.2) (impl_itemValid.E n) 89 (bodyOf Try.f89) [.tmp 4] := ⟨⟨Try.f89, Try.func89, by kernel_rfl, by kernel_rfl, rfl, by kernel_rfl⟩, Nat.le_of_ble_eq_true rfl, rfl, by kernel_rfl, by kernel_rfl, by kernel_rfl, rfl⟩
theorem impl_itemValid.fok (n : Nat)  : FOK Try.prog 89 (impl_itemValid.sig fun x => impl_itemValid n x.1 x.2) := fun_ok (impl_itemValid.fin n) (impl_itemValid.K n ) T.mixed (loops_of impl_itemValid.top (loops_nil)) (fun x => impl_itemValid.run n x.1 x.2)

def impl_shapeValid.sig (f : Dens [.vec] → Option (Dens [.bool])) : Fun := ⟨[.vec], [[]], [], [.bool], [[]], f⟩
def impl_shapeValid.ρ (n : Nat) : Nat → Option Fun := getA [(48, impl_isAtomic.sig fun x => impl_isAtomic x), (49, impl_length.sig fun x => impl_length x), (52, impl_isMissing.sig fun x => impl_isMissing x), (87, impl_labelsValid.sig fun x => impl_labelsValid n x.1 x.2), (88, impl_allEmpty.sig fun x => impl_allEmpty n x), (89, impl_itemValid.sig fun x => impl_itemValid n x.1 x.2)]
def impl_shapeValid.keys0 : List KeyTy := [⟨.box 1, .vec, [.ps, .ps, .ps, .ps, .ps, .ps, .ps, .ps]⟩, ⟨.slot 51, (.sl .str), [.ps]⟩, ⟨.slot 52, (.int .i64), []⟩, ⟨.slot 53, (.int .i64), []⟩]
def impl_shapeValid.L0 (n : Nat) : Loop (Dens [.bool]) := keyLoop impl_shapeValid.keys0 [] (impl_shapeValid_l0 n)
def impl_shapeValid.keys2 : List KeyTy := [⟨.box 1, .vec, [.ps, .ps, .ps, .ps, .ps, .ps, .ps, .ps]⟩, ⟨.slot 145, (.sl .item), [.ps]⟩, ⟨.slot 146, (.int .i64), []⟩, ⟨.slot 147, (.int .i64), []⟩]
def impl_shapeValid.L2 (n : Nat) : Loop (Dens [.bool]) := keyLoop impl_shapeValid.keys2 [] (impl_shapeValid_l2 n)
def impl_shapeValid.E (n : Nat) : Env (Dens [.bool]) := ⟨T, impl_shapeValid.ρ n, 189, [0, 1, 2, 3, 5, 7, 33, 49, 51, 52, 53, 54, 59, 80, 93, 128, 143, 145, 146, 147, 148, 160, 187], [51, 145], getA [(0, impl_shapeValid.L0 n), (2, impl_shapeValid.L2 n)], retOf [.tmp 2] [.bool] [[]]⟩
theorem impl_shapeValid.round0 (n : Nat) (v_1 : Vec) (t51 : (List ByteArray)) (t52 : Int) (t53 : Int) : roundK (impl_shapeValid.E n) 0 (impl_shapeValid.L0 n) ((findLoop 0 (bodyOf Try.f81)).getD .skip) (v_1, t51, t52, t53) = impl_shapeValid_r0 v_1 t51 t52 t53 := by kernel_rfl
theorem impl_shapeValid.round2 (n : Nat) (v_2 : Vec) (t145 : (List Item)) (t146 : Int) (t147 : Int) : roundK (impl_shapeValid.E n) 2 (impl_shapeValid.L2 n) ((findLoop 2 (bodyOf Try.f81)).getD .skip) (v_2, t145, t146, t147) = impl_shapeValid_r2 n v_2 t145 t146 t147 := by kernel_rfl
theorem impl_shapeValid.run (n : Nat) (v : Vec) : runF (impl_shapeValid.E n) (bodyOf Try.f81) (startOf [.vec] [[]] [] v) = impl_shapeValid n v := by kernel_rfl
theorem impl_shapeValid.K (n : Nat)  : TabsOK Try.prog (impl_shapeValid.E n).T (impl_shapeValid.E n).ρ := ⟨T_ok, T_item, rho_cons (impl_isAtomic.fok) (rho_cons (impl_length.fok) (rho_cons (impl_isMissing.fok) (rho_cons (impl_labelsValid.fok n) (rho_cons (impl_allEmpty.fok n) (rho_cons (impl_itemValid.fok n) (fun _ _ h => nomatch h))))))⟩
theorem impl_shapeValid.in0 : loopsOf ((findLoop 0 (bodyOf Try.f81)).getD .skip) = [] := by kernel_rfl
theorem impl_shapeValid.lp0 (n : Nat)  : LoopOK Try.prog (impl_shapeValid.E n) 0 ((findLoop 0 (bodyOf Try.f81)).getD .skip) := loop_ok (ks := impl_shapeValid.keys0) (cs := []) (B := fun x => impl_shapeValid_r0 x.1 x.2.1 x.2.2.1 x.2.2.2) (impl_shapeValid.K n ) T.mixed rfl (fun x => impl_shapeValid.round0 n x.1 x.2.1 x.2.2.1 x.2.2.2) (loops_of impl_shapeValid.in0 (loops_nil))
theorem impl_shapeValid.in2 : loopsOf ((findLoop 2 (bodyOf Try.f81)).getD .skip) = [] := by kernel_rfl
theorem impl_shapeValid.lp2 (n : Nat)  : LoopOK Try.prog (impl_shapeValid.E n) 2 ((findLoop 2 (bodyOf Try.f81)).getD .skip) := loop_ok (ks := impl_shapeValid.keys2) (cs := []) (B := fun x => impl_shapeValid_r2 n x.1 x.2.1 x.2.2.1 x.2.2.2) (impl_shapeValid.K n ) T.mixed rfl (fun x => impl_shapeValid.round2 n x.1 x.2.1 x.2.2.1 x.2.2.2) (loops_of impl_shapeValid.in2 (loops_nil))
theorem impl_shapeValid.top : loopsOf (bodyOf Try.f81) = [(0, ((findLoop 0 (bodyOf Try.f81)).getD .skip)), (2, ((findLoop 2 (bodyOf Try.f81)).getD .skip))] := by kernel_rfl
theorem impl_shapeValid.fin (n : Nat) : FunIn Try.prog (F := impl_shapeValid.sig fun x => impl_shapeValid n x) (impl_shapeValid.E n) 81 (bodyOf Try.f81) [.tmp 2] := ⟨⟨Try.f81, Try.func81, by kernel_rfl, by kernel_rfl, rfl, by kernel_rfl⟩, Nat.le_of_ble_eq_true rfl, rfl, by kernel_rfl, by kernel_rfl, by kernel_rfl, rfl⟩
theorem impl_shapeValid.fok (n : Nat)  : FOK Try.prog 81 (impl_shapeValid.sig fun x => impl_shapeValid n x) := fun_ok (impl_shapeValid.fin n) (impl_shapeValid.K n ) T.mixed (loops_of impl_shapeValid.top (loops_cons (impl_shapeValid.lp0 n ) (loops_cons (impl_shapeValid.lp2 n ) (loops_nil)))) (fun x => impl_shapeValid.run n x)

def impl_partsValid.sig (f : Dens [.vec] → Option (Dens [.bool])) : Fun := ⟨[.vec], [[]], [], [.bool], [[]], f⟩
def impl_partsValid.ρ (rec_impl_partsValid : (Vec → Option Bool)) (n : Nat) : Nat → Option Fun := getA [(67, impl_partsValid.sig fun x => rec_impl_partsValid x), (81, impl_shapeValid.sig fun x => impl_shapeValid n x)]
def impl_partsValid.keys0 : List KeyTy := [⟨.slot 9, (.sl .vec), [.ps]⟩, ⟨.slot 10, (.int .i64), []⟩, ⟨.slot 11, (.int .i64), []⟩]
def impl_partsValid.L0 (rec_impl_partsValid : (Vec → Option Bool)) (n : Nat) : Loop (Dens [.bool]) := keyLoop impl_partsValid.keys0 [] (impl_partsValid_l0 rec_impl_partsValid n)
def impl_partsValid.E (rec_impl_partsValid : (Vec → Option Bool)) (n : Nat) : Env (Dens [.bool]) := ⟨T, impl_partsValid.ρ rec_impl_partsValid n, 19, [0, 1, 2, 4, 7, 9, 10, 11, 12, 17], [9], getA [(0, impl_partsValid.L0 rec_impl_partsValid n)], retOf [.tmp 2] [.bool] [[]]⟩
theorem impl_partsValid.round0 (rec_impl_partsValid : (Vec → Option Bool)) (n : Nat) (t9 : (List Vec)) (t10 : Int) (t11 : Int) : roundK (impl_partsValid.E rec_impl_partsValid n) 0 (impl_partsValid.L0 rec_impl_partsValid n) ((findLoop 0 (bodyOf Try.f67)).getD .skip) (t9, t10, t11) = impl_partsValid_r0 rec_impl_partsValid t9 t10 t11 := by kernel_rfl
theorem impl_partsValid.run (rec_impl_partsValid : (Vec → Option Bool)) (n : Nat) (v : Vec) : runF (impl_partsValid.E rec_impl_partsValid n) (bodyOf Try.f67) (startOf [.vec] [[]] [] v) = impl_partsValid_b rec_impl_partsValid n v := by kernel_rfl
theorem impl_partsValid.K (rec_impl_partsValid : (Vec → Option Bool)) (n : Nat) (h_impl_partsValid : FOK Try.prog 67 (impl_partsValid.sig fun x => rec_impl_partsValid x)) : TabsOK Try.prog (impl_partsValid.E rec_impl_partsValid n).T (impl_partsValid.E rec_impl_partsValid n).ρ := ⟨T_ok, T_item, rho_cons (h_impl_partsValid) (rho_cons (impl_shapeValid.fok n) (fun _ _ h => nomatch h))⟩
theorem impl_partsValid.in0 : loopsOf ((findLoop 0 (bodyOf Try.f67)).getD .skip) = [] := by kernel_rfl
theorem impl_partsValid.lp0 (rec_impl_partsValid : (Vec → Option Bool)) (n : Nat) (h_impl_partsValid : FOK Try.prog 67 (impl_partsValid.sig fun x => rec_impl_partsValid x)) : LoopOK Try.prog (impl_partsValid.E rec_impl_partsValid n) 0 ((findLoop 0 (bodyOf Try.f67)).getD .skip) := loop_ok (ks := impl_partsValid.keys0) (cs := []) (B := fun x => impl_partsValid_r0 rec_impl_partsValid x.1 x.2.1 x.2.2) (impl_partsValid.K rec_impl_partsValid n h_impl_partsValid) T.mixed rfl (fun x => impl_partsValid.round0 rec_impl_partsValid n x.1 x.2.1 x.2.2) (loops_of impl_partsValid.in0 (loops_nil))
theorem impl_partsValid.top : loopsOf (bodyOf Try.f67) = [(0, ((findLoop 0 (bodyOf Try.f67)).getD .skip))] := by kernel_rfl
theorem impl_partsValid.fin (rec_impl_partsValid : (Vec → Option Bool)) (n : Nat) : FunIn Try.prog (F := impl_partsValid.sig fun x => impl_partsValid_b rec_impl_partsValid n x) (impl_partsValid.E rec_impl_partsValid n) 67 (bodyOf Try.f67) [.tmp 2] := ⟨⟨Try.f67, Try.func67, by kernel_rfl, by kernel_rfl, rfl, by kernel_rfl⟩, Nat.le_of_ble_eq_true rfl, rfl, by kernel_rfl, by kernel_rfl, by kernel_rfl, rfl⟩
theorem impl_partsValid.step (rec_impl_partsValid : (Vec → Option Bool)) (n : Nat) (h_impl_partsValid : FOK Try.prog 67 (impl_partsValid.sig fun x => rec_impl_partsValid x)) : FOK Try.prog 67 (impl_partsValid.sig fun x => impl_partsValid_b rec_impl_partsValid n x) := fun_ok (impl_partsValid.fin rec_impl_partsValid n) (impl_partsValid.K rec_impl_partsValid n h_impl_partsValid) T.mixed (loops_of impl_partsValid.top (loops_cons (impl_partsValid.lp0 rec_impl_partsValid n h_impl_partsValid) (loops_nil))) (fun x => impl_partsValid.run rec_impl_partsValid n x)
theorem impl_partsValid.fok : ∀ n, FOK Try.prog 67 (impl_partsValid.sig fun x => impl_partsValid n x)
  | 0 => fok_none (impl_partsValid.fin (fun _ => none) 0)
  | n + 1 => impl_partsValid.step (impl_partsValid n) n (impl_partsValid.fok n)

def impl_cells.sig (f : Dens [.vec] → Option (Dens [(.int .i64)])) : Fun := ⟨[.vec], [[]], [], [(.int .i64)], [[]], f⟩
def impl_cells.ρ (rec_impl_cells : (Vec → Option Int)) (_ : Nat) : Nat → Option Fun := getA [(49, impl_length.sig fun x => impl_length x), (68, impl_cells.sig fun x => rec_impl_cells x)]
def impl_cells.keys0 : List KeyTy := [⟨.slot 3, (.int .i64), []⟩, ⟨.slot 9, (.sl .vec), [.ps]⟩, ⟨.slot 10, (.int .i64), []⟩, ⟨.slot 11, (.int .i64), []⟩]
def impl_cells.L0 (rec_impl_cells : (Vec → Option Int)) (n : Nat) : Loop (Dens [(.int .i64)]) := keyLoop impl_cells.keys0 [] (impl_cells_l0 rec_impl_cells n)
def impl_cells.E (rec_impl_cells : (Vec → Option Int)) (n : Nat) : Env (Dens [(.int .i64)]) := ⟨T, impl_cells.ρ rec_impl_cells n, 21, [0, 1, 2, 3, 5, 9, 10, 11, 12], [9], getA [(0, impl_cells.L0 rec_impl_cells n)], retOf [.tmp 2] [(.int .i64)] [[]]⟩
theorem impl_cells.round0 (rec_impl_cells : (Vec → Option Int)) (n : Nat) (n_ : Int) (t9 : (List Vec)) (t10 : Int) (t11 : Int) : roundK (impl_cells.E rec_impl_cells n) 0 (impl_cells.L0 rec_impl_cells n) ((findLoop 0 (bodyOf Try.f68)).getD .skip) (n_, t9, t10, t11) = impl_cells_r0 rec_impl_cells n_ t9 t10 t11 := by kernel_rfl
theorem impl_cells.run (rec_impl_cells : (Vec → Option Int)) (n : Nat) (v : Vec) : runF (impl_cells.E rec_impl_cells n) (bodyOf Try.f68) (startOf [.vec] [[]] [] v) = impl_cells_b rec_impl_cells n v := by kernel_rfl
theorem impl_cells.K (rec_impl_cells : (Vec → Option Int)) (n : Nat) (h_impl_cells : FOK Try.prog 68 (impl_cells.sig fun x => rec_impl_cells x)) : TabsOK Try.prog (impl_cells.E rec_impl_cells n).T (impl_cells.E rec_impl_cells n).ρ := ⟨T_ok, T_item, rho_cons (impl_length.fok) (rho_cons (h_impl_cells) (fun _ _ h => nomatch h))⟩
theorem impl_cells.in0 : loopsOf ((findLoop 0 (bodyOf Try.f68)).getD .skip) = [] := by kernel_rfl
theorem impl_cells.lp0 (rec_impl_cells : (Vec → Option Int)) (n : Nat) (h_impl_cells : FOK Try.prog 68 (impl_cells.sig fun x => rec_impl_cells x)) : LoopOK Try.prog (impl_cells.E rec_impl_cells n) 0 ((findLoop 0 (bodyOf Try.f68)).getD .skip) := loop_ok (ks := impl_cells.keys0) (cs := []) (B := fun x => impl_cells_r0 rec_impl_cells x.1 x.2.1 x.2.2.1 x.2.2.2) (impl_cells.K rec_impl_cells n h_impl_cells) T.mixed rfl (fun x => impl_cells.round0 rec_impl_cells n x.1 x.2.1 x.2.2.1 x.2.2.2) (loops_of impl_cells.in0 (loops_nil))
theorem impl_cells.top : loopsOf (bodyOf Try.f68) = [(0, ((findLoop 0 (bodyOf Try.f68)).getD .skip))] := by kernel_rfl
theorem impl_cells.fin (rec_impl_cells : (Vec → Option Int)) (n : Nat) : FunIn Try.prog (F := impl_cells.sig fun x => impl_cells_b rec_impl_cells n x) (impl_cells.E rec_impl_cells n) 68 (bodyOf Try.f68) [.tmp 2] := ⟨⟨Try.f68, Try.func68, by kernel_rfl, by kernel_rfl, rfl, by kernel_rfl⟩, Nat.le_of_ble_eq_true rfl, rfl, by kernel_rfl, by kernel_rfl, by kernel_rfl, rfl⟩
theorem impl_cells.step (rec_impl_cells : (Vec → Option Int)) (n : Nat) (h_impl_cells : FOK Try.prog 68 (impl_cells.sig fun x => rec_impl_cells x)) : FOK Try.prog 68 (impl_cells.sig fun x => impl_cells_b rec_impl_cells n x) := fun_ok (impl_cells.fin rec_impl_cells n) (impl_cells.K rec_impl_cells n h_impl_cells) T.mixed (loops_of impl_cells.top (loops_cons (impl_cells.lp0 rec_impl_cells n h_impl_cells) (loops_nil))) (fun x => impl_cells.run rec_impl_cells n x)
theorem impl_cells.fok : ∀ n, FOK Try.prog 68 (impl_cells.sig fun x => impl_cells n x)
  | 0 => fok_none (impl_cells.fin (fun _ => none) 0)
  | n + 1 => impl_cells.step (impl_cells n) n (impl_cells.fok n)

def impl_IsVector.sig (f : Dens [.vec] → Option (Dens [.bool])) : Fun := ⟨[.vec], [[]], [], [.bool], [[]], f⟩
def impl_IsVector.ρ (n : Nat) : Nat → Option Fun := getA [(66, impl_nest.sig fun x => impl_nest n x.1 x.2), (67, impl_partsValid.sig fun x => impl_partsValid n x), (68, impl_cells.sig fun x => impl_cells n x)]
def impl_IsVector.E (n : Nat) : Env (Dens [.bool]) := ⟨T, impl_IsVector.ρ n, 15, [0, 1, 2], [], getA [], retOf [.tmp 2] [.bool] [[]]⟩
theorem impl_IsVector.run (n : Nat) (v : Vec) : runF (impl_IsVector.E n) (bodyOf Try.f43) (startOf [.vec] [[]] [] v) = impl_IsVector n v := by kernel_rfl
theorem impl_IsVector.K (n : Nat)  : TabsOK Try.prog (impl_IsVector.E n).T (impl_IsVector.E n).ρ := ⟨T_ok, T_item, rho_cons (impl_nest.fok n) (rho_cons (impl_partsValid.fok n) (rho_cons (impl_cells.fok n) (fun _ _ h => nomatch h)))⟩
theorem impl_IsVector.top : loopsOf (bodyOf Try.f43) = [] := by kernel_rfl
theorem impl_IsVector.fin (n : Nat) : FunIn Try.prog (F := impl_IsVector.sig fun x => impl_IsVector n x) (impl_IsVector.E n) 43 (bodyOf Try.f43) [.tmp 2] := ⟨⟨Try.f43, Try.func43, by kernel_rfl, by kernel_rfl, rfl, by kernel_rfl⟩, Nat.le_of_ble_eq_true rfl, rfl, by kernel_rfl, by kernel_rfl, by kernel_rfl, rfl⟩
theorem impl_IsVector.fok (n : Nat)  : FOK Try.prog 43 (impl_IsVector.sig fun x => impl_IsVector n x) := fun_ok (impl_IsVector.fin n) (impl_IsVector.K n ) T.mixed (loops_of impl_IsVector.top (loops_nil)) (fun x => impl_IsVector.run n x)

def impl_IsFactor.sig (f : Dens [.vec] → Option (Dens [.bool])) : Fun := ⟨[.vec], [[]], [], [.bool], [[]], f⟩
def impl_IsFactor.ρ (n : Nat) : Nat → Option Fun := getA [(43, impl_IsVector.sig fun x => impl_IsVector n x)]
def impl_IsFactor.E (n : Nat) : Env (Dens [.bool]) := ⟨T, impl_IsFactor.ρ n, 24, [0, 1, 2], [], getA [], retOf [.tmp 2] [.bool] [[]]⟩
theorem impl_IsFactor.run (n : Nat) (v : Vec) : runF (impl_IsFactor.E n) (bodyOf Try.f17) (startOf [.vec] [[]] [] v) = impl_IsFactor n v := by kernel_rfl
theorem impl_IsFactor.K (n : Nat)  : TabsOK Try.prog (impl_IsFactor.E n).T (impl_IsFactor.E n).ρ := ⟨T_ok, T_item, rho_cons (impl_IsVector.fok n) (fun _ _ h => nomatch h)⟩
theorem impl_IsFactor.top : loopsOf (bodyOf Try.f17) = [] := by kernel_rfl
theorem impl_IsFactor.fin (n : Nat) : FunIn Try.prog (F := impl_IsFactor.sig fun x => impl_IsFactor n x) (impl_IsFactor.E n) 17 (bodyOf Try.f17) [.tmp 2] := ⟨⟨Try.f17, Try.func17, by kernel_rfl, by kernel_rfl, rfl, by kernel_rfl⟩, Nat.le_of_ble_eq_true rfl, rfl, by kernel_rfl, by kernel_rfl, by kernel_rfl, rfl⟩
theorem impl_IsFactor.fok (n : Nat)  : FOK Try.prog 17 (impl_IsFactor.sig fun x => impl_IsFactor n x) := fun_ok (impl_IsFactor.fin n) (impl_IsFactor.K n ) T.mixed (loops_of impl_IsFactor.top (loops_nil)) (fun x => impl_IsFactor.run n x)

def laws_eqStringS.sig (f : Dens [(.sl .str), (.sl .str)] → Option (Dens [.bool])) : Fun := ⟨[(.sl .str), (.sl .str)], [[], []], [], [.bool], [[]], f⟩
def laws_eqStringS.ρ (_ : Nat) : Nat → Option Fun := getA []
def laws_eqStringS.keys0 : List KeyTy := [⟨.slot 0, (.sl .str), [.ps]⟩, ⟨.slot 1, (.sl .str), [.ps]⟩, ⟨.slot 5, (.int .i64), []⟩]
def laws_eqStringS.L0 (n : Nat) : Loop (Dens [.bool]) := keyLoop laws_eqStringS.keys0 [] (laws_eqStringS_l0 n)
def laws_eqStringS.E (n : Nat) : Env (Dens [.bool]) := ⟨T, laws_eqStringS.ρ n, 26, [0, 1, 4, 5, 10, 14, 25], [], getA [(0, laws_eqStringS.L0 n)], retOf [.tmp 4] [.bool] [[]]⟩
theorem laws_eqStringS.round0 (n : Nat) (a_1 : (List ByteArray)) (b_1 : (List ByteArray)) (i : Int) : roundK (laws_eqStringS.E n) 0 (laws_eqStringS.L0 n) ((findLoop 0 (bodyOf Try.f33)).getD .skip) (a_1, b_1, i) = laws_eqStringS_r0 a_1 b_1 i := by kernel_rfl
theorem laws_eqStringS.run (n : Nat) (a : (List ByteArray)) (b : (List ByteArray)) : runF (laws_eqStringS.E n) (bodyOf Try.f33) (startOf [(.sl .str), (.sl .str)] [[], []] [] (a, b)) = laws_eqStringS n a b := by kernel_rfl
theorem laws_eqStringS.K (n : Nat)  : TabsOK Try.prog (laws_eqStringS.E n).T (laws_eqStringS.E n).ρ := ⟨T_ok, T_item, fun _ _ h => nomatch h⟩
theorem laws_eqStringS.in0 : loopsOf ((findLoop 0 (bodyOf Try.f33)).getD .skip) = [] := by kernel_rfl
theorem laws_eqStringS.lp0 (n : Nat)  : LoopOK Try.prog (laws_eqStringS.E n) 0 ((findLoop 0 (bodyOf Try.f33)).getD .skip) := loop_ok (ks := laws_eqStringS.keys0) (cs := []) (B := fun x => laws_eqStringS_r0 x.1 x.2.1 x.2.2) (laws_eqStringS.K n ) T.mixed rfl (fun x => laws_eqStringS.round0 n x.1 x.2.1 x.2.2) (loops_of laws_eqStringS.in0 (loops_nil))
theorem laws_eqStringS.top : loopsOf (bodyOf Try.f33) = [(0, ((findLoop 0 (bodyOf Try.f33)).getD .skip))] := by kernel_rfl
theorem laws_eqStringS.fin (n : Nat) : FunIn Try.prog (F := laws_eqStringS.sig fun x => laws_eqStringS n x.1 x.2) (laws_eqStringS.E n) 33 (bodyOf Try.f33) [.tmp 4] := ⟨⟨Try.f33, Try.func33, by kernel_rfl, by kernel_rfl, rfl, by kernel_rfl⟩, Nat.le_of_ble_eq_true rfl, rfl, by kernel_rfl, by kernel_rfl, by kernel_rfl, rfl⟩
theorem laws_eqStringS.fok (n : Nat)  : FOK Try.prog 33 (laws_eqStringS.sig fun x => laws_eqStringS n x.1 x.2) := fun_ok (laws_eqStringS.fin n) (laws_eqStringS.K n ) T.mixed (loops_of laws_eqStringS.top (loops_cons (laws_eqStringS.lp0 n ) (loops_nil))) (fun x => laws_eqStringS.run n x.1 x.2)

def laws_eqVector.sig (f : Dens [.vec, .vec] → Option (Dens [.bool])) : Fun := ⟨[.vec, .vec], [[], []], [], [.bool], [[]], f⟩
def laws_eqVectorS.sig (f : Dens [(.sl .vec), (.sl .vec)] → Option (Dens [.bool])) : Fun := ⟨[(.sl .vec), (.sl .vec)], [[], []], [], [.bool], [[]], f⟩
def laws_eqVector.ρ (_ : (Vec → Vec → Option Bool)) (rec_laws_eqVectorS : ((List Vec) → (List Vec) → Option Bool)) (n : Nat) : Nat → Option Fun := getA [(33, laws_eqStringS.sig fun x => laws_eqStringS n x.1 x.2), (39, laws_eqItemS.sig fun x => laws_eqItemS n x.1 x.2), (44, laws_eqVectorS.sig fun x => rec_laws_eqVectorS x.1 x.2)]
def laws_eqVector.E (rec_laws_eqVector : (Vec → Vec → Option Bool)) (rec_laws_eqVectorS : ((List Vec) → (List Vec) → Option Bool)) (n : Nat) : Env (Dens [.bool]) := ⟨T, laws_eqVector.ρ rec_laws_eqVector rec_laws_eqVectorS n, 50, [0, 1, 2, 3, 4, 9, 15, 21, 27, 33, 39, 44, 49], [], getA [], retOf [.tmp 4] [.bool] [[]]⟩
theorem laws_eqVector.run (rec_laws_eqVector : (Vec → Vec → Option Bool)) (rec_laws_eqVectorS : ((List Vec) → (List Vec) → Option Bool)) (n : Nat) (a : Vec) (b : Vec) : runF (laws_eqVector.E rec_laws_eqVector rec_laws_eqVectorS n) (bodyOf Try.f18) (startOf [.vec, .vec] [[], []] [] (a, b)) = laws_eqVector_b rec_laws_eqVector rec_laws_eqVectorS n a b := by kernel_rfl
def laws_eqVectorS.ρ (rec_laws_eqVector : (Vec → Vec → Option Bool)) (_ : ((List Vec) → (List Vec) → Option Bool)) (_ : Nat) : Nat → Option Fun := getA [(18, laws_eqVector.sig fun x => rec_laws_eqVector x.1 x.2)]
def laws_eqVectorS.keys0 : List KeyTy := [⟨.slot 0, (.sl .vec), [.ps]⟩, ⟨.slot 1, (.sl .vec), [.ps]⟩, ⟨.slot 5, (.int .i64), []⟩]
def laws_eqVectorS.L0 (rec_laws_eqVector : (Vec → Vec → Option Bool)) (_ : ((List Vec) → (List Vec) → Option Bool)) (n : Nat) : Loop (Dens [.bool]) := keyLoop laws_eqVectorS.keys0 [] (laws_eqVectorS_l0 rec_laws_eqVector n)
def laws_eqVectorS.E (rec_laws_eqVector : (Vec → Vec → Option Bool)) (rec_laws_eqVectorS : ((List Vec) → (List Vec) → Option Bool)) (n : Nat) : Env (Dens [.bool]) := ⟨T, laws_eqVectorS.ρ rec_laws_eqVector rec_laws_eqVectorS n, 27, [0, 1, 4, 5, 10, 14, 26], [], getA [(0, laws_eqVectorS.L0 rec_laws_eqVector rec_laws_eqVectorS n)], retOf [.tmp 4] [.bool] [[]]⟩
theorem laws_eqVectorS.round0 (rec_laws_eqVector : (Vec → Vec → Option Bool)) (rec_laws_eqVectorS : ((List Vec) → (List Vec) → Option Bool)) (n : Nat) (a_1 : (List Vec)) (b_1 : (List Vec)) (i : Int) : roundK (laws_eqVectorS.E rec_laws_eqVector rec_laws_eqVectorS n) 0 (laws_eqVectorS.L0 rec_laws_eqVector rec_laws_eqVectorS n) ((findLoop 0 (bodyOf Try.f44)).getD .skip) (a_1, b_1, i) = laws_eqVectorS_r0 rec_laws_eqVector a_1 b_1 i := by kernel_rfl
theorem laws_eqVectorS.run (rec_laws_eqVector : (Vec → Vec → Option Bool)) (rec_laws_eqVectorS : ((List Vec) → (List Vec) → Option Bool)) (n : Nat) (a : (List Vec)) (b : (List Vec)) : runF (laws_eqVectorS.E rec_laws_eqVector rec_laws_eqVectorS n) (bodyOf Try.f44) (startOf [(.sl .vec), (.sl .vec)] [[], []] [] (a, b)) = laws_eqVectorS_b rec_laws_eqVector rec_laws_eqVectorS n a b := by kernel_rfl
theorem laws_eqVector.K (rec_laws_eqVector : (Vec → Vec → Option Bool)) (rec_laws_eqVectorS : ((List Vec) → (List Vec) → Option Bool)) (n : Nat) (_ : FOK Try.prog 18 (laws_eqVector.sig fun x => rec_laws_eqVector x.1 x.2)) (h_laws_eqVectorS : FOK Try.prog 44 (laws_eqVectorS.sig fun x => rec_laws_eqVectorS x.1 x.2)) : TabsOK Try.prog (laws_eqVector.E rec_laws_eqVector rec_laws_eqVectorS n).T (laws_eqVector.E rec_laws_eqVector rec_laws_eqVectorS n).ρ := ⟨T_ok, T_item, rho_cons (laws_eqStringS.fok n) (rho_cons (laws_eqItemS.fok n) (rho_cons (h_laws_eqVectorS) (fun _ _ h => nomatch h)))⟩
theorem laws_eqVector.top : loopsOf (bodyOf Try.f18) = [] := by kernel_rfl
theorem laws_eqVector.fin (rec_laws_eqVector : (Vec → Vec → Option Bool)) (rec_laws_eqVectorS : ((List Vec) → (List Vec) → Option Bool)) (n : Nat) : FunIn Try.prog (F := laws_eqVector.sig fun x => laws_eqVector_b rec_laws_eqVector rec_laws_eqVectorS n x.1 x.2) (laws_eqVector.E rec_laws_eqVector rec_laws_eqVectorS n) 18 (bodyOf Try.f18) [.tmp 4] := ⟨⟨Try.f18, Try.func18, by kernel_rfl, by kernel_rfl, rfl, by kernel_rfl⟩, Nat.le_of_ble_eq_true rfl, rfl, by kernel_rfl, by kernel_rfl, by kernel_rfl, rfl⟩
theorem laws_eqVector.step (rec_laws_eqVector : (Vec → Vec → Option Bool)) (rec_laws_eqVectorS : ((List Vec) → (List Vec) → Option Bool)) (n : Nat) (h_laws_eqVector : FOK Try.prog 18 (laws_eqVector.sig fun x => rec_laws_eqVector x.1 x.2)) (h_laws_eqVectorS : FOK Try.prog 44 (laws_eqVectorS.sig fun x => rec_laws_eqVectorS x.1 x.2)) : FOK Try.prog 18 (laws_eqVector.sig fun x => laws_eqVector_b rec_laws_eqVector rec_laws_eqVectorS n x.1 x.2) := fun_ok (laws_eqVector.fin rec_laws_eqVector rec_laws_eqVectorS n) (laws_eqVector.K rec_laws_eqVector rec_laws_eqVectorS n h_laws_eqVector h_laws_eqVectorS) T.mixed (loops_of laws_eqVector.top (loops_nil)) (fun x => laws_eqVector.run rec_laws_eqVector rec_laws_eqVectorS n x.1 x.2)
theorem laws_eqVectorS.K (rec_laws_eqVector : (Vec → Vec → Option Bool)) (rec_laws_eqVectorS : ((List Vec) → (List Vec) → Option Bool)) (n : Nat) (h_laws_eqVector : FOK Try.prog 18 (laws_eqVector.sig fun x => rec_laws_eqVector x.1 x.2)) (_ : FOK Try.prog 44 (laws_eqVectorS.sig fun x => rec_laws_eqVectorS x.1 x.2)) : TabsOK Try.prog (laws_eqVectorS.E rec_laws_eqVector rec_laws_eqVectorS n).T (laws_eqVectorS.E rec_laws_eqVector rec_laws_eqVectorS n).ρ := ⟨T_ok, T_item, rho_cons (h_laws_eqVector) (fun _ _ h => nomatch h)⟩
theorem laws_eqVectorS.in0 : loopsOf ((findLoop 0 (bodyOf Try.f44)).getD .skip) = [] := by kernel_rfl
theorem laws_eqVectorS.lp0 (rec_laws_eqVector : (Vec → Vec → Option Bool)) (rec_laws_eqVectorS : ((List Vec) → (List Vec) → Option Bool)) (n : Nat) (h_laws_eqVector : FOK Try.prog 18 (laws_eqVector.sig fun x => rec_laws_eqVector x.1 x.2)) (h_laws_eqVectorS : FOK Try.prog 44 (laws_eqVectorS.sig fun x => rec_laws_eqVectorS x.1 x.2)) : LoopOK Try.prog (laws_eqVectorS.E rec_laws_eqVector rec_laws_eqVectorS n) 0 ((findLoop 0 (bodyOf Try.f44)).getD .skip) := loop_ok (ks := laws_eqVectorS.keys0) (cs := []) (B := fun x => laws_eqVectorS_r0 rec_laws_eqVector x.1 x.2.1 x.2.2) (laws_eqVectorS.K rec_laws_eqVector rec_laws_eqVectorS n h_laws_eqVector h_laws_eqVectorS) T.mixed rfl (fun x => laws_eqVectorS.round0 rec_laws_eqVector rec_laws_eqVectorS n x.1 x.2.1 x.2.2) (loops_of laws_eqVectorS.in0 (loops_nil))
theorem laws_eqVectorS.top : loopsOf (bodyOf Try.f44) = [(0, ((findLoop 0 (bodyOf Try.f44)).getD .skip))] := by kernel_rfl
theorem laws_eqVectorS.fin (rec_laws_eqVector : (Vec → Vec → Option Bool)) (rec_laws_eqVectorS : ((List Vec) → (List Vec) → Option Bool)) (n : Nat) : FunIn Try.prog (F := laws_eqVectorS.sig fun x => laws_eqVectorS_b rec_laws_eqVector rec_laws_eqVectorS n x.1 x.2) (laws_eqVectorS.E rec_laws_eqVector rec_laws_eqVectorS n) 44 (bodyOf Try.f44) [.tmp 4] := ⟨⟨Try.f44, Try.func44, by kernel_rfl, by kernel_rfl, rfl, by kernel_rfl⟩, Nat.le_of_ble_eq_true rfl, rfl, by kernel_rfl, by kernel_rfl, by kernel_rfl, rfl⟩
theorem laws_eqVectorS.step (rec_laws_eqVector : (Vec → Vec → Option Bool)) (rec_laws_eqVectorS : ((List Vec) → (List Vec) → Option Bool)) (n : Nat) (h_laws_eqVector : FOK Try.prog 18 (laws_eqVector.sig fun x => rec_laws_eqVector x.1 x.2)) (h_laws_eqVectorS : FOK Try.prog 44 (laws_eqVectorS.sig fun x => rec_laws_eqVectorS x.1 x.2)) : FOK Try.prog 44 (laws_eqVectorS.sig fun x => laws_eqVectorS_b rec_laws_eqVector rec_laws_eqVectorS n x.1 x.2) := fun_ok (laws_eqVectorS.fin rec_laws_eqVector rec_laws_eqVectorS n) (laws_eqVectorS.K rec_laws_eqVector rec_laws_eqVectorS n h_laws_eqVector h_laws_eqVectorS) T.mixed (loops_of laws_eqVectorS.top (loops_cons (laws_eqVectorS.lp0 rec_laws_eqVector rec_laws_eqVectorS n h_laws_eqVector h_laws_eqVectorS) (loops_nil))) (fun x => laws_eqVectorS.run rec_laws_eqVector rec_laws_eqVectorS n x.1 x.2)
theorem laws_eqVector_laws_eqVectorS.fok : ∀ n, FOK Try.prog 18 (laws_eqVector.sig fun x => laws_eqVector n x.1 x.2) ∧ FOK Try.prog 44 (laws_eqVectorS.sig fun x => laws_eqVectorS n x.1 x.2)
  | 0 => ⟨fok_none (laws_eqVector.fin (fun _ _ => none) (fun _ _ => none) 0), fok_none (laws_eqVectorS.fin (fun _ _ => none) (fun _ _ => none) 0)⟩
  | n + 1 => let h := laws_eqVector_laws_eqVectorS.fok n; ⟨laws_eqVector.step (laws_eqVector n) (laws_eqVectorS n) n h.1 h.2, laws_eqVectorS.step (laws_eqVector n) (laws_eqVectorS n) n h.1 h.2⟩
theorem laws_eqVector.fok (n : Nat) : FOK Try.prog 18 (laws_eqVector.sig fun x => laws_eqVector n x.1 x.2) := (laws_eqVector_laws_eqVectorS.fok n).1
theorem laws_eqVectorS.fok (n : Nat) : FOK Try.prog 44 (laws_eqVectorS.sig fun x => laws_eqVectorS n x.1 x.2) := (laws_eqVector_laws_eqVectorS.fok n).2

def spec_l12Column.sig (f : Dens [.vec, (.int .i64)] → Option (Dens [.bool])) : Fun := ⟨[.vec, (.int .i64)], [[], []], [], [.bool], [[]], f⟩
def spec_l12Column.ρ (n : Nat) : Nat → Option Fun := getA [(15, spec_IsFactor.sig fun x => spec_IsFactor n x), (35, spec_l1In.sig fun x => spec_l1In x.1 x.2.1 x.2.2)]
def spec_l12Column.E (n : Nat) : Env (Dens [.bool]) := ⟨T, spec_l12Column.ρ n, 37, [0, 1, 2, 4], [], getA [], retOf [.tmp 4] [.bool] [[]]⟩
theorem spec_l12Column.run (n : Nat) (v : Vec) (n_ : Int) : runF (spec_l12Column.E n) (bodyOf Try.f46) (startOf [.vec, (.int .i64)] [[], []] [] (v, n_)) = spec_l12Column n v n_ := by kernel_rfl
theorem spec_l12Column.K (n : Nat)  : TabsOK Try.prog (spec_l12Column.E n).T (spec_l12Column.E n).ρ := ⟨T_ok, T_item, rho_cons (spec_IsFactor.fok n) (rho_cons (spec_l1In.fok) (fun _ _ h => nomatch h))⟩
theorem spec_l12Column.top : loopsOf (bodyOf Try.f46) = [] := by kernel_rfl
theorem spec_l12Column.fin (n : Nat) : FunIn Try.prog (F := spec_l12Column.sig fun x => spec_l12Column n x.1 x.2) (spec_l12Column.E n) 46 (bodyOf Try.f46) [.tmp 4] := ⟨⟨Try.f46, Try.func46, by kernel_rfl, by kernel_rfl, rfl, by kernel_rfl⟩, Nat.le_of_ble_eq_true rfl, rfl, by kernel_rfl, by kernel_rfl, by kernel_rfl, rfl⟩
theorem spec_l12Column.fok (n : Nat)  : FOK Try.prog 46 (spec_l12Column.sig fun x => spec_l12Column n x.1 x.2) := fun_ok (spec_l12Column.fin n) (spec_l12Column.K n ) T.mixed (loops_of spec_l12Column.top (loops_nil)) (fun x => spec_l12Column.run n x.1 x.2)

def spec_IsFrame.sig (f : Dens [.vec] → Option (Dens [.bool])) : Fun := ⟨[.vec], [[]], [], [.bool], [[]], f⟩
def spec_IsFrame.ρ (n : Nat) : Nat → Option Fun := getA [(41, spec_IsVector.sig fun x => spec_IsVector n x), (45, spec_l4Labels.sig fun x => spec_l4Labels n x.1 x.2), (46, spec_l12Column.sig fun x => spec_l12Column n x.1 x.2)]
def spec_IsFrame.keys0 : List KeyTy := [⟨.box 1, .vec, [.ps, .ps, .ps, .ps, .ps, .ps, .ps, .ps]⟩, ⟨.slot 3, (.int .i64), []⟩]
def spec_IsFrame.L0 (n : Nat) : Loop (Dens [.bool]) := keyLoop spec_IsFrame.keys0 [] (spec_IsFrame_l0 n)
def spec_IsFrame.E (n : Nat) : Env (Dens [.bool]) := ⟨T, spec_IsFrame.ρ n, 60, [0, 1, 2, 3, 39, 44, 59], [], getA [(0, spec_IsFrame.L0 n)], retOf [.tmp 2] [.bool] [[]]⟩
theorem spec_IsFrame.round0 (n : Nat) (v_1 : Vec) (i : Int) : roundK (spec_IsFrame.E n) 0 (spec_IsFrame.L0 n) ((findLoop 0 (bodyOf Try.f19)).getD .skip) (v_1, i) = spec_IsFrame_r0 n v_1 i := by kernel_rfl
theorem spec_IsFrame.run (n : Nat) (v : Vec) : runF (spec_IsFrame.E n) (bodyOf Try.f19) (startOf [.vec] [[]] [] v) = spec_IsFrame n v := by kernel_rfl
theorem spec_IsFrame.K (n : Nat)  : TabsOK Try.prog (spec_IsFrame.E n).T (spec_IsFrame.E n).ρ := ⟨T_ok, T_item, rho_cons (spec_IsVector.fok n) (rho_cons (spec_l4Labels.fok n) (rho_cons (spec_l12Column.fok n) (fun _ _ h => nomatch h)))⟩
theorem spec_IsFrame.in0 : loopsOf ((findLoop 0 (bodyOf Try.f19)).getD .skip) = [] := by kernel_rfl
theorem spec_IsFrame.lp0 (n : Nat)  : LoopOK Try.prog (spec_IsFrame.E n) 0 ((findLoop 0 (bodyOf Try.f19)).getD .skip) := loop_ok (ks := spec_IsFrame.keys0) (cs := []) (B := fun x => spec_IsFrame_r0 n x.1 x.2) (spec_IsFrame.K n ) T.mixed rfl (fun x => spec_IsFrame.round0 n x.1 x.2) (loops_of spec_IsFrame.in0 (loops_nil))
theorem spec_IsFrame.top : loopsOf (bodyOf Try.f19) = [(0, ((findLoop 0 (bodyOf Try.f19)).getD .skip))] := by kernel_rfl
theorem spec_IsFrame.fin (n : Nat) : FunIn Try.prog (F := spec_IsFrame.sig fun x => spec_IsFrame n x) (spec_IsFrame.E n) 19 (bodyOf Try.f19) [.tmp 2] := ⟨⟨Try.f19, Try.func19, by kernel_rfl, by kernel_rfl, rfl, by kernel_rfl⟩, Nat.le_of_ble_eq_true rfl, rfl, by kernel_rfl, by kernel_rfl, by kernel_rfl, rfl⟩
theorem spec_IsFrame.fok (n : Nat)  : FOK Try.prog 19 (spec_IsFrame.sig fun x => spec_IsFrame n x) := fun_ok (spec_IsFrame.fin n) (spec_IsFrame.K n ) T.mixed (loops_of spec_IsFrame.top (loops_cons (spec_IsFrame.lp0 n ) (loops_nil))) (fun x => spec_IsFrame.run n x)

def impl_IsFrame.sig (f : Dens [.vec] → Option (Dens [.bool])) : Fun := ⟨[.vec], [[]], [], [.bool], [[]], f⟩
def impl_IsFrame.ρ (n : Nat) : Nat → Option Fun := getA [(17, impl_IsFactor.sig fun x => impl_IsFactor n x), (43, impl_IsVector.sig fun x => impl_IsVector n x), (47, impl_hasText.sig fun x => impl_hasText n x.1 x.2), (48, impl_isAtomic.sig fun x => impl_isAtomic x), (49, impl_length.sig fun x => impl_length x)]
def impl_IsFrame.keys0 : List KeyTy := [⟨.box 1, .vec, [.ps, .ps, .ps, .ps, .ps, .ps, .ps, .ps]⟩, ⟨.slot 36, (.sl .vec), [.ps]⟩, ⟨.slot 37, (.int .i64), []⟩, ⟨.slot 38, (.int .i64), []⟩]
def impl_IsFrame.L0 (n : Nat) : Loop (Dens [.bool]) := keyLoop impl_IsFrame.keys0 [] (impl_IsFrame_l0 n)
def impl_IsFrame.E (n : Nat) : Env (Dens [.bool]) := ⟨T, impl_IsFrame.ρ n, 98, [0, 1, 2, 3, 4, 34, 36, 37, 38, 39, 81, 96], [36], getA [(0, impl_IsFrame.L0 n)], retOf [.tmp 2] [.bool] [[]]⟩
theorem impl_IsFrame.round0 (n : Nat) (v_1 : Vec) (t36 : (List Vec)) (t37 : Int) (t38 : Int) : roundK (impl_IsFrame.E n) 0 (impl_IsFrame.L0 n) ((findLoop 0 (bodyOf Try.f20)).getD .skip) (v_1, t36, t37, t38) = impl_IsFrame_r0 n v_1 t36 t37 t38 := by kernel_rfl
theorem impl_IsFrame.run (n : Nat) (v : Vec) : runF (impl_IsFrame.E n) (bodyOf Try.f20) (startOf [.vec] [[]] [] v) = impl_IsFrame n v := by kernel_rfl
theorem impl_IsFrame.K (n : Nat)  : TabsOK Try.prog (impl_IsFrame.E n).T (impl_IsFrame.E n).ρ := ⟨T_ok, T_item, rho_cons (impl_IsFactor.fok n) (rho_cons (impl_IsVector.fok n) (rho_cons (impl_hasText.fok n) (rho_cons (impl_isAtomic.fok) (rho_cons (impl_length.fok) (fun _ _ h => nomatch h)))))⟩
theorem impl_IsFrame.in0 : loopsOf ((findLoop 0 (bodyOf Try.f20)).getD .skip) = [] := by kernel_rfl
theorem impl_IsFrame.lp0 (n : Nat)  : LoopOK Try.prog (impl_IsFrame.E n) 0 ((findLoop 0 (bodyOf Try.f20)).getD .skip) := loop_ok (ks := impl_IsFrame.keys0) (cs := []) (B := fun x => impl_IsFrame_r0 n x.1 x.2.1 x.2.2.1 x.2.2.2) (impl_IsFrame.K n ) T.mixed rfl (fun x => impl_IsFrame.round0 n x.1 x.2.1 x.2.2.1 x.2.2.2) (loops_of impl_IsFrame.in0 (loops_nil))
theorem impl_IsFrame.top : loopsOf (bodyOf Try.f20) = [(0, ((findLoop 0 (bodyOf Try.f20)).getD .skip))] := by kernel_rfl
theorem impl_IsFrame.fin (n : Nat) : FunIn Try.prog (F := impl_IsFrame.sig fun x => impl_IsFrame n x) (impl_IsFrame.E n) 20 (bodyOf Try.f20) [.tmp 2] := ⟨⟨Try.f20, Try.func20, by kernel_rfl, by kernel_rfl, rfl, by kernel_rfl⟩, Nat.le_of_ble_eq_true rfl, rfl, by kernel_rfl, by kernel_rfl, by kernel_rfl, rfl⟩
theorem impl_IsFrame.fok (n : Nat)  : FOK Try.prog 20 (impl_IsFrame.sig fun x => impl_IsFrame n x) := fun_ok (impl_IsFrame.fin n) (impl_IsFrame.K n ) T.mixed (loops_of impl_IsFrame.top (loops_cons (impl_IsFrame.lp0 n ) (loops_nil))) (fun x => impl_IsFrame.run n x)

def spec_RowsOf.sig (f : Dens [.vec] → Option (Dens [(.int .i64)])) : Fun := ⟨[.vec], [[]], [], [(.int .i64)], [[]], f⟩
def spec_RowsOf.ρ (n : Nat) : Nat → Option Fun := getA [(19, spec_IsFrame.sig fun x => spec_IsFrame n x)]
def spec_RowsOf.E (n : Nat) : Env (Dens [(.int .i64)]) := ⟨T, spec_RowsOf.ρ n, 16, [0, 1, 2, 5, 9], [], getA [], retOf [.tmp 2] [(.int .i64)] [[]]⟩
theorem spec_RowsOf.run (n : Nat) (f : Vec) : runF (spec_RowsOf.E n) (bodyOf Try.f21) (startOf [.vec] [[]] [] f) = spec_RowsOf n f := by kernel_rfl
theorem spec_RowsOf.K (n : Nat)  : TabsOK Try.prog (spec_RowsOf.E n).T (spec_RowsOf.E n).ρ := ⟨T_ok, T_item, rho_cons (spec_IsFrame.fok n) (fun _ _ h => nomatch h)⟩
theorem spec_RowsOf.top : loopsOf (bodyOf Try.f21) = [] := by kernel_rfl
theorem spec_RowsOf.fin (n : Nat) : FunIn Try.prog (F := spec_RowsOf.sig fun x => spec_RowsOf n x) (spec_RowsOf.E n) 21 (bodyOf Try.f21) [.tmp 2] := ⟨⟨Try.f21, Try.func21, by kernel_rfl, by kernel_rfl, rfl, by kernel_rfl⟩, Nat.le_of_ble_eq_true rfl, rfl, by kernel_rfl, by kernel_rfl, by kernel_rfl, rfl⟩
theorem spec_RowsOf.fok (n : Nat)  : FOK Try.prog 21 (spec_RowsOf.sig fun x => spec_RowsOf n x) := fun_ok (spec_RowsOf.fin n) (spec_RowsOf.K n ) T.mixed (loops_of spec_RowsOf.top (loops_nil)) (fun x => spec_RowsOf.run n x)

def impl_rows.sig (f : Dens [.vec] → Option (Dens [(.int .i64)])) : Fun := ⟨[.vec], [[]], [], [(.int .i64)], [[]], f⟩
def impl_rows.ρ  : Nat → Option Fun := getA [(49, impl_length.sig fun x => impl_length x)]
def impl_rows.E  : Env (Dens [(.int .i64)]) := ⟨T, impl_rows.ρ , 12, [0, 1, 2, 6], [], getA [], retOf [.tmp 2] [(.int .i64)] [[]]⟩
theorem impl_rows.run (f : Vec) : runF (impl_rows.E ) (bodyOf Try.f50) (startOf [.vec] [[]] [] f) = impl_rows f := by kernel_rfl
theorem impl_rows.K   : TabsOK Try.prog (impl_rows.E ).T (impl_rows.E ).ρ := ⟨T_ok, T_item, rho_cons (impl_length.fok) (fun _ _ h => nomatch h)⟩
theorem impl_rows.top : loopsOf (bodyOf Try.f50) = [] := by kernel_rfl
theorem impl_rows.fin  : FunIn Try.prog (F := impl_rows.sig fun x => impl_rows x) (impl_rows.E ) 50 (bodyOf Try.f50) [.tmp 2] := ⟨⟨Try.f50, Try.func50, by kernel_rfl, by kernel_rfl, rfl, by kernel_rfl⟩, Nat.le_of_ble_eq_true rfl, rfl, by kernel_rfl, by kernel_rfl, by kernel_rfl, rfl⟩
theorem impl_rows.fok   : FOK Try.prog 50 (impl_rows.sig fun x => impl_rows x) := fun_ok (impl_rows.fin ) (impl_rows.K  ) T.mixed (loops_of impl_rows.top (loops_nil)) (fun x => impl_rows.run x)

def spec_l4Copies.sig (f : Dens [(.sl .vec)] → Option (Dens [(.sl .vec)])) : Fun := ⟨[(.sl .vec)], [[]], [], [(.sl .vec)], [[(.own true 0)]], f⟩
def spec_l4Copy.sig (f : Dens [.vec] → Option (Dens [.vec])) : Fun := ⟨[.vec], [[]], [], [.vec], [[.ps, (.own true 0), (.own true 0), (.own true 0), (.own true 0), (.own true 0), .ps, .ps]], f⟩
def spec_l4Copies.ρ (_ : ((List Vec) → Option (List Vec))) (rec_spec_l4Copy : (Vec → Option Vec)) (n : Nat) : Nat → Option Fun := getA [(64, spec_l4Is.sig fun x => spec_l4Is n x.1 x.2), (90, spec_l4Copy.sig fun x => rec_spec_l4Copy x)]
def spec_l4Copies.keys0 : List KeyTy := [⟨.slot 0, (.sl .vec), [.ps]⟩, ⟨.slot 3, (.sl .vec), [(.own true 0)]⟩, ⟨.slot 4, (.int .i64), []⟩]
def spec_l4Copies.L0 (_ : ((List Vec) → Option (List Vec))) (rec_spec_l4Copy : (Vec → Option Vec)) (n : Nat) : Loop (Dens [(.sl .vec)]) := keyLoop spec_l4Copies.keys0 [] (spec_l4Copies_l0 rec_spec_l4Copy n)
def spec_l4Copies.E (rec_spec_l4Copies : ((List Vec) → Option (List Vec))) (rec_spec_l4Copy : (Vec → Option Vec)) (n : Nat) : Env (Dens [(.sl .vec)]) := ⟨T, spec_l4Copies.ρ rec_spec_l4Copies rec_spec_l4Copy n, 35, [0, 2, 3, 4, 13, 21], [], getA [(0, spec_l4Copies.L0 rec_spec_l4Copies rec_spec_l4Copy n)], retOf [.tmp 2] [(.sl .vec)] [[(.own true 0)]]⟩
theorem spec_l4Copies.round0 (rec_spec_l4Copies : ((List Vec) → Option (List Vec))) (rec_spec_l4Copy : (Vec → Option Vec)) (n : Nat) (list_1 : (List Vec)) (out : (List Vec)) (i : Int) : roundK (spec_l4Copies.E rec_spec_l4Copies rec_spec_l4Copy n) 0 (spec_l4Copies.L0 rec_spec_l4Copies rec_spec_l4Copy n) ((findLoop 0 (bodyOf Try.f82)).getD .skip) (list_1, out, i) = spec_l4Copies_r0 rec_spec_l4Copy n list_1 out i := by kernel_rfl
theorem spec_l4Copies.run (rec_spec_l4Copies : ((List Vec) → Option (List Vec))) (rec_spec_l4Copy : (Vec → Option Vec)) (n : Nat) (list : (List Vec)) : runF (spec_l4Copies.E rec_spec_l4Copies rec_spec_l4Copy n) (bodyOf Try.f82) (startOf [(.sl .vec)] [[]] [] list) = spec_l4Copies_b rec_spec_l4Copies rec_spec_l4Copy n list := by kernel_rfl
def spec_l4Copy.ρ (rec_spec_l4Copies : ((List Vec) → Option (List Vec))) (_ : (Vec → Option Vec)) (_ : Nat) : Nat → Option Fun := getA [(82, spec_l4Copies.sig fun x => rec_spec_l4Copies x)]
def spec_l4Copy.E (rec_spec_l4Copies : ((List Vec) → Option (List Vec))) (rec_spec_l4Copy : (Vec → Option Vec)) (n : Nat) : Env (Dens [.vec]) := ⟨T, spec_l4Copy.ρ rec_spec_l4Copies rec_spec_l4Copy n, 29, [0, 1, 2], [], getA [], retOf [.cell 2 41] [.vec] [[.ps, (.own true 0), (.own true 0), (.own true 0), (.own true 0), (.own true 0), .ps, .ps]]⟩
theorem spec_l4Copy.run (rec_spec_l4Copies : ((List Vec) → Option (List Vec))) (rec_spec_l4Copy : (Vec → Option Vec)) (n : Nat) (v : Vec) : runF (spec_l4Copy.E rec_spec_l4Copies rec_spec_l4Copy n) (bodyOf Try.f90) (startOf [.vec] [[]] [] v) = spec_l4Copy_b rec_spec_l4Copies rec_spec_l4Copy n v := by kernel_rfl
theorem spec_l4Copies.K (rec_spec_l4Copies : ((List Vec) → Option (List Vec))) (rec_spec_l4Copy : (Vec → Option Vec)) (n : Nat) (_ : FOK Try.prog 82 (spec_l4Copies.sig fun x => rec_spec_l4Copies x)) (h_spec_l4Copy : FOK Try.prog 90 (spec_l4Copy.sig fun x => rec_spec_l4Copy x)) : TabsOK Try.prog (spec_l4Copies.E rec_spec_l4Copies rec_spec_l4Copy n).T (spec_l4Copies.E rec_spec_l4Copies rec_spec_l4Copy n).ρ := ⟨T_ok, T_item, rho_cons (spec_l4Is.fok n) (rho_cons (h_spec_l4Copy) (fun _ _ h => nomatch h))⟩
theorem spec_l4Copies.in0 : loopsOf ((findLoop 0 (bodyOf Try.f82)).getD .skip) = [] := by kernel_rfl
theorem spec_l4Copies.lp0 (rec_spec_l4Copies : ((List Vec) → Option (List Vec))) (rec_spec_l4Copy : (Vec → Option Vec)) (n : Nat) (h_spec_l4Copies : FOK Try.prog 82 (spec_l4Copies.sig fun x => rec_spec_l4Copies x)) (h_spec_l4Copy : FOK Try.prog 90 (spec_l4Copy.sig fun x => rec_spec_l4Copy x)) : LoopOK Try.prog (spec_l4Copies.E rec_spec_l4Copies rec_spec_l4Copy n) 0 ((findLoop 0 (bodyOf Try.f82)).getD .skip) := loop_ok (ks := spec_l4Copies.keys0) (cs := []) (B := fun x => spec_l4Copies_r0 rec_spec_l4Copy n x.1 x.2.1 x.2.2) (spec_l4Copies.K rec_spec_l4Copies rec_spec_l4Copy n h_spec_l4Copies h_spec_l4Copy) T.mixed rfl (fun x => spec_l4Copies.round0 rec_spec_l4Copies rec_spec_l4Copy n x.1 x.2.1 x.2.2) (loops_of spec_l4Copies.in0 (loops_nil))
theorem spec_l4Copies.top : loopsOf (bodyOf Try.f82) = [(0, ((findLoop 0 (bodyOf Try.f82)).getD .skip))] := by kernel_rfl
theorem spec_l4Copies.fin (rec_spec_l4Copies : ((List Vec) → Option (List Vec))) (rec_spec_l4Copy : (Vec → Option Vec)) (n : Nat) : FunIn Try.prog (F := spec_l4Copies.sig fun x => spec_l4Copies_b rec_spec_l4Copies rec_spec_l4Copy n x) (spec_l4Copies.E rec_spec_l4Copies rec_spec_l4Copy n) 82 (bodyOf Try.f82) [.tmp 2] := ⟨⟨Try.f82, Try.func82, by kernel_rfl, by kernel_rfl, rfl, by kernel_rfl⟩, Nat.le_of_ble_eq_true rfl, rfl, by kernel_rfl, by kernel_rfl, by kernel_rfl, rfl⟩
theorem spec_l4Copies.step (rec_spec_l4Copies : ((List Vec) → Option (List Vec))) (rec_spec_l4Copy : (Vec → Option Vec)) (n : Nat) (h_spec_l4Copies : FOK Try.prog 82 (spec_l4Copies.sig fun x => rec_spec_l4Copies x)) (h_spec_l4Copy : FOK Try.prog 90 (spec_l4Copy.sig fun x => rec_spec_l4Copy x)) : FOK Try.prog 82 (spec_l4Copies.sig fun x => spec_l4Copies_b rec_spec_l4Copies rec_spec_l4Copy n x) := fun_ok (spec_l4Copies.fin rec_spec_l4Copies rec_spec_l4Copy n) (spec_l4Copies.K rec_spec_l4Copies rec_spec_l4Copy n h_spec_l4Copies h_spec_l4Copy) T.mixed (loops_of spec_l4Copies.top (loops_cons (spec_l4Copies.lp0 rec_spec_l4Copies rec_spec_l4Copy n h_spec_l4Copies h_spec_l4Copy) (loops_nil))) (fun x => spec_l4Copies.run rec_spec_l4Copies rec_spec_l4Copy n x)
theorem spec_l4Copy.K (rec_spec_l4Copies : ((List Vec) → Option (List Vec))) (rec_spec_l4Copy : (Vec → Option Vec)) (n : Nat) (h_spec_l4Copies : FOK Try.prog 82 (spec_l4Copies.sig fun x => rec_spec_l4Copies x)) (_ : FOK Try.prog 90 (spec_l4Copy.sig fun x => rec_spec_l4Copy x)) : TabsOK Try.prog (spec_l4Copy.E rec_spec_l4Copies rec_spec_l4Copy n).T (spec_l4Copy.E rec_spec_l4Copies rec_spec_l4Copy n).ρ := ⟨T_ok, T_item, rho_cons (h_spec_l4Copies) (fun _ _ h => nomatch h)⟩
theorem spec_l4Copy.top : loopsOf (bodyOf Try.f90) = [] := by kernel_rfl
theorem spec_l4Copy.fin (rec_spec_l4Copies : ((List Vec) → Option (List Vec))) (rec_spec_l4Copy : (Vec → Option Vec)) (n : Nat) : FunIn Try.prog (F := spec_l4Copy.sig fun x => spec_l4Copy_b rec_spec_l4Copies rec_spec_l4Copy n x) (spec_l4Copy.E rec_spec_l4Copies rec_spec_l4Copy n) 90 (bodyOf Try.f90) [.cell 2 41] := ⟨⟨Try.f90, Try.func90, by kernel_rfl, by kernel_rfl, rfl, by kernel_rfl⟩, Nat.le_of_ble_eq_true rfl, rfl, by kernel_rfl, by kernel_rfl, by kernel_rfl, rfl⟩
theorem spec_l4Copy.step (rec_spec_l4Copies : ((List Vec) → Option (List Vec))) (rec_spec_l4Copy : (Vec → Option Vec)) (n : Nat) (h_spec_l4Copies : FOK Try.prog 82 (spec_l4Copies.sig fun x => rec_spec_l4Copies x)) (h_spec_l4Copy : FOK Try.prog 90 (spec_l4Copy.sig fun x => rec_spec_l4Copy x)) : FOK Try.prog 90 (spec_l4Copy.sig fun x => spec_l4Copy_b rec_spec_l4Copies rec_spec_l4Copy n x) := fun_ok (spec_l4Copy.fin rec_spec_l4Copies rec_spec_l4Copy n) (spec_l4Copy.K rec_spec_l4Copies rec_spec_l4Copy n h_spec_l4Copies h_spec_l4Copy) T.mixed (loops_of spec_l4Copy.top (loops_nil)) (fun x => spec_l4Copy.run rec_spec_l4Copies rec_spec_l4Copy n x)
theorem spec_l4Copies_spec_l4Copy.fok : ∀ n, FOK Try.prog 82 (spec_l4Copies.sig fun x => spec_l4Copies n x) ∧ FOK Try.prog 90 (spec_l4Copy.sig fun x => spec_l4Copy n x)
  | 0 => ⟨fok_none (spec_l4Copies.fin (fun _ => none) (fun _ => none) 0), fok_none (spec_l4Copy.fin (fun _ => none) (fun _ => none) 0)⟩
  | n + 1 => let h := spec_l4Copies_spec_l4Copy.fok n; ⟨spec_l4Copies.step (spec_l4Copies n) (spec_l4Copy n) n h.1 h.2, spec_l4Copy.step (spec_l4Copies n) (spec_l4Copy n) n h.1 h.2⟩
theorem spec_l4Copies.fok (n : Nat) : FOK Try.prog 82 (spec_l4Copies.sig fun x => spec_l4Copies n x) := (spec_l4Copies_spec_l4Copy.fok n).1
theorem spec_l4Copy.fok (n : Nat) : FOK Try.prog 90 (spec_l4Copy.sig fun x => spec_l4Copy n x) := (spec_l4Copies_spec_l4Copy.fok n).2

def spec_l4Fit.sig (f : Dens [.vec] → Option (Dens [.vec, .str])) : Fun := ⟨[.vec], [[none, (some false), (some false), (some false), (some false), (some false), none, none]], [], [.vec, .str], [[.ps, (.own false 0), (.own false 0), (.own false 0), (.own false 0), (.own false 0), .ps, .ps], []], f⟩
def spec_l4Fit.ρ (n : Nat) : Nat → Option Fun := getA [(41, spec_IsVector.sig fun x => spec_IsVector n x)]
def spec_l4Fit.E (n : Nat) : Env (Dens [.vec, .str]) := ⟨T, spec_l4Fit.ρ n, 9, [0, 1, 2, 3, 6], [], getA [], retOf [.cell 2 41, .tmp 3] [.vec, .str] [[.ps, (.own false 0), (.own false 0), (.own false 0), (.own false 0), (.own false 0), .ps, .ps], []]⟩
theorem spec_l4Fit.run (n : Nat) (v : Vec) : runF (spec_l4Fit.E n) (bodyOf Try.f83) (startOf [.vec] [[none, (some false), (some false), (some false), (some false), (some false), none, none]] [] v) = spec_l4Fit n v := by kernel_rfl
theorem spec_l4Fit.K (n : Nat)  : TabsOK Try.prog (spec_l4Fit.E n).T (spec_l4Fit.E n).ρ := ⟨T_ok, T_item, rho_cons (spec_IsVector.fok n) (fun _ _ h => nomatch h)⟩
theorem spec_l4Fit.top : loopsOf (bodyOf Try.f83) = [] := by kernel_rfl
theorem spec_l4Fit.fin (n : Nat) : FunIn Try.prog (F := spec_l4Fit.sig fun x => spec_l4Fit n x) (spec_l4Fit.E n) 83 (bodyOf Try.f83) [.cell 2 41, .tmp 3] := ⟨⟨Try.f83, Try.func83, by kernel_rfl, by kernel_rfl, rfl, by kernel_rfl⟩, Nat.le_of_ble_eq_true rfl, rfl, by kernel_rfl, by kernel_rfl, by kernel_rfl, rfl⟩
theorem spec_l4Fit.fok (n : Nat)  : FOK Try.prog 83 (spec_l4Fit.sig fun x => spec_l4Fit n x) := fun_ok (spec_l4Fit.fin n) (spec_l4Fit.K n ) T.mixed (loops_of spec_l4Fit.top (loops_nil)) (fun x => spec_l4Fit.run n x)

def spec_l12Made.sig (f : Dens [(.sl .vec), (.sl .str)] → Option (Dens [.vec, .str])) : Fun := ⟨[(.sl .vec), (.sl .str)], [[], []], [], [.vec, .str], [[.ps, (.own false 0), (.own false 0), (.own false 0), (.own false 0), (.own false 0), .ps, .ps], []], f⟩
def spec_l12Made.ρ (n : Nat) : Nat → Option Fun := getA [(45, spec_l4Labels.sig fun x => spec_l4Labels n x.1 x.2), (82, spec_l4Copies.sig fun x => spec_l4Copies n x), (83, spec_l4Fit.sig fun x => spec_l4Fit n x)]
def spec_l12Made.E (n : Nat) : Env (Dens [.vec, .str]) := ⟨T, spec_l12Made.ρ n, 34, [0, 1, 4, 5, 6, 7, 8, 25], [], getA [], retOf [.cell 4 41, .tmp 5] [.vec, .str] [[.ps, (.own false 0), (.own false 0), (.own false 0), (.own false 0), (.own false 0), .ps, .ps], []]⟩
theorem spec_l12Made.run (n : Nat) (columns : (List Vec)) (names : (List ByteArray)) : runF (spec_l12Made.E n) (bodyOf Try.f72) (startOf [(.sl .vec), (.sl .str)] [[], []] [] (columns, names)) = spec_l12Made n columns names := by kernel_rfl
theorem spec_l12Made.K (n : Nat)  : TabsOK Try.prog (spec_l12Made.E n).T (spec_l12Made.E n).ρ := ⟨T_ok, T_item, rho_cons (spec_l4Labels.fok n) (rho_cons (spec_l4Copies.fok n) (rho_cons (spec_l4Fit.fok n) (fun _ _ h => nomatch h)))⟩
theorem spec_l12Made.top : loopsOf (bodyOf Try.f72) = [] := by kernel_rfl
theorem spec_l12Made.fin (n : Nat) : FunIn Try.prog (F := spec_l12Made.sig fun x => spec_l12Made n x.1 x.2) (spec_l12Made.E n) 72 (bodyOf Try.f72) [.cell 4 41, .tmp 5] := ⟨⟨Try.f72, Try.func72, by kernel_rfl, by kernel_rfl, rfl, by kernel_rfl⟩, Nat.le_of_ble_eq_true rfl, rfl, by kernel_rfl, by kernel_rfl, by kernel_rfl, rfl⟩
theorem spec_l12Made.fok (n : Nat)  : FOK Try.prog 72 (spec_l12Made.sig fun x => spec_l12Made n x.1 x.2) := fun_ok (spec_l12Made.fin n) (spec_l12Made.K n ) T.mixed (loops_of spec_l12Made.top (loops_nil)) (fun x => spec_l12Made.run n x.1 x.2)

def spec_SelectColumns.sig (f : Dens [.vec, (.sl .str)] → Option (Dens [.vec, .str])) : Fun := ⟨[.vec, (.sl .str)], [[], []], [], [.vec, .str], [[.ps, (.own false 0), (.own false 0), (.own false 0), (.own false 0), (.own false 0), .ps, .ps], []], f⟩
def spec_SelectColumns.ρ (n : Nat) : Nat → Option Fun := getA [(19, spec_IsFrame.sig fun x => spec_IsFrame n x), (69, spec_l1Find.sig fun x => spec_l1Find n x.1 x.2), (72, spec_l12Made.sig fun x => spec_l12Made n x.1 x.2)]
def spec_SelectColumns.keys0 : List KeyTy := [⟨.slot 1, (.sl .str), [.ps]⟩, ⟨.box 2, .vec, [.ps, .ps, .ps, .ps, .ps, .ps, .ps, .ps]⟩, ⟨.box 4, .vec, [.ps, (.own true 0), (.own true 0), (.own true 0), (.own true 0), (.own true 0), .ps, .ps]⟩, ⟨.slot 6, (.sl .vec), [(.own false 0)]⟩, ⟨.slot 7, (.int .i64), []⟩]
def spec_SelectColumns.L0 (n : Nat) : Loop (Dens [.vec, .str]) := keyLoop spec_SelectColumns.keys0 [] (spec_SelectColumns_l0 n)
def spec_SelectColumns.E (n : Nat) : Env (Dens [.vec, .str]) := ⟨T, spec_SelectColumns.ρ n, 48, [0, 1, 2, 4, 5, 6, 7, 8, 9, 10, 13, 19, 30], [], getA [(0, spec_SelectColumns.L0 n)], retOf [.cell 4 41, .tmp 5] [.vec, .str] [[.ps, (.own false 0), (.own false 0), (.own false 0), (.own false 0), (.own false 0), .ps, .ps], []]⟩
theorem spec_SelectColumns.round0 (n : Nat) (names_1 : (List ByteArray)) (f_1 : Vec) (b4 : Vec) (out : (List Vec)) (i : Int) : roundK (spec_SelectColumns.E n) 0 (spec_SelectColumns.L0 n) ((findLoop 0 (bodyOf Try.f56)).getD .skip) (names_1, f_1, b4, out, i) = spec_SelectColumns_r0 n names_1 f_1 b4 out i := by kernel_rfl
theorem spec_SelectColumns.run (n : Nat) (f : Vec) (names : (List ByteArray)) : runF (spec_SelectColumns.E n) (bodyOf Try.f56) (startOf [.vec, (.sl .str)] [[], []] [] (f, names)) = spec_SelectColumns n f names := by kernel_rfl
theorem spec_SelectColumns.K (n : Nat)  : TabsOK Try.prog (spec_SelectColumns.E n).T (spec_SelectColumns.E n).ρ := ⟨T_ok, T_item, rho_cons (spec_IsFrame.fok n) (rho_cons (spec_l1Find.fok n) (rho_cons (spec_l12Made.fok n) (fun _ _ h => nomatch h)))⟩
theorem spec_SelectColumns.in0 : loopsOf ((findLoop 0 (bodyOf Try.f56)).getD .skip) = [] := by kernel_rfl
theorem spec_SelectColumns.lp0 (n : Nat)  : LoopOK Try.prog (spec_SelectColumns.E n) 0 ((findLoop 0 (bodyOf Try.f56)).getD .skip) := loop_ok (ks := spec_SelectColumns.keys0) (cs := []) (B := fun x => spec_SelectColumns_r0 n x.1 x.2.1 x.2.2.1 x.2.2.2.1 x.2.2.2.2) (spec_SelectColumns.K n ) T.mixed rfl (fun x => spec_SelectColumns.round0 n x.1 x.2.1 x.2.2.1 x.2.2.2.1 x.2.2.2.2) (loops_of spec_SelectColumns.in0 (loops_nil))
theorem spec_SelectColumns.top : loopsOf (bodyOf Try.f56) = [(0, ((findLoop 0 (bodyOf Try.f56)).getD .skip))] := by kernel_rfl
theorem spec_SelectColumns.fin (n : Nat) : FunIn Try.prog (F := spec_SelectColumns.sig fun x => spec_SelectColumns n x.1 x.2) (spec_SelectColumns.E n) 56 (bodyOf Try.f56) [.cell 4 41, .tmp 5] := ⟨⟨Try.f56, Try.func56, by kernel_rfl, by kernel_rfl, rfl, by kernel_rfl⟩, Nat.le_of_ble_eq_true rfl, rfl, by kernel_rfl, by kernel_rfl, by kernel_rfl, rfl⟩
theorem spec_SelectColumns.fok (n : Nat)  : FOK Try.prog 56 (spec_SelectColumns.sig fun x => spec_SelectColumns n x.1 x.2) := fun_ok (spec_SelectColumns.fin n) (spec_SelectColumns.K n ) T.mixed (loops_of spec_SelectColumns.top (loops_cons (spec_SelectColumns.lp0 n ) (loops_nil))) (fun x => spec_SelectColumns.run n x.1 x.2)

def spec_IsKey.sig (f : Dens [.vec, (.sl .str)] → Option (Dens [.bool])) : Fun := ⟨[.vec, (.sl .str)], [[], []], [], [.bool], [[]], f⟩
def spec_IsKey.ρ (n : Nat) : Nat → Option Fun := getA [(21, spec_RowsOf.sig fun x => spec_RowsOf n x), (56, spec_SelectColumns.sig fun x => spec_SelectColumns n x.1 x.2)]
def spec_IsKey.keys4 : List KeyTy := [⟨.box 5, .vec, [.ps, (.own false 0), (.own false 0), (.own false 0), (.own false 0), (.own false 0), .ps, .ps]⟩, ⟨.slot 6, .str, []⟩, ⟨.slot 7, (.int .i64), []⟩, ⟨.slot 8, (.int .i64), []⟩, ⟨.slot 9, .bool, []⟩, ⟨.slot 10, (.int .i64), []⟩]
def spec_IsKey.L4 (n : Nat) : Loop (Dens [.bool]) := keyLoop spec_IsKey.keys4 [] (spec_IsKey_l4 n)
def spec_IsKey.keys2 : List KeyTy := [⟨.box 5, .vec, [.ps, (.own false 0), (.own false 0), (.own false 0), (.own false 0), (.own false 0), .ps, .ps]⟩, ⟨.slot 6, .str, []⟩, ⟨.slot 7, (.int .i64), []⟩, ⟨.slot 8, (.int .i64), []⟩]
def spec_IsKey.L2 (n : Nat) : Loop (Dens [.bool]) := keyLoop spec_IsKey.keys2 [] (spec_IsKey_l2 n)
def spec_IsKey.keys0 : List KeyTy := [⟨.box 5, .vec, [.ps, (.own false 0), (.own false 0), (.own false 0), (.own false 0), (.own false 0), .ps, .ps]⟩, ⟨.slot 6, .str, []⟩, ⟨.slot 7, (.int .i64), []⟩]
def spec_IsKey.L0 (n : Nat) : Loop (Dens [.bool]) := keyLoop spec_IsKey.keys0 [] (spec_IsKey_l0 n)
def spec_IsKey.E (n : Nat) : Env (Dens [.bool]) := ⟨T, spec_IsKey.ρ n, 60, [0, 1, 2, 4, 5, 6, 7, 8, 9, 10, 20, 25, 32, 57], [57], getA [(4, spec_IsKey.L4 n), (2, spec_IsKey.L2 n), (0, spec_IsKey.L0 n)], retOf [.tmp 4] [.bool] [[]]⟩
theorem spec_IsKey.round4 (n : Nat) (g_2 : Vec) (p_2 : ByteArray) (i_2 : Int) (k_1 : Int) (same : Bool) (c : Int) : roundK (spec_IsKey.E n) 4 (spec_IsKey.L4 n) ((findLoop 4 (bodyOf Try.f30)).getD .skip) (g_2, p_2, i_2, k_1, same, c) = spec_IsKey_r4 g_2 p_2 i_2 k_1 same c := by kernel_rfl
theorem spec_IsKey.round2 (n : Nat) (g_1 : Vec) (p_1 : ByteArray) (i_1 : Int) (k : Int) : roundK (spec_IsKey.E n) 2 (spec_IsKey.L2 n) ((findLoop 2 (bodyOf Try.f30)).getD .skip) (g_1, p_1, i_1, k) = spec_IsKey_r2 n g_1 p_1 i_1 k := by kernel_rfl
theorem spec_IsKey.round0 (n : Nat) (g : Vec) (p : ByteArray) (i : Int) : roundK (spec_IsKey.E n) 0 (spec_IsKey.L0 n) ((findLoop 0 (bodyOf Try.f30)).getD .skip) (g, p, i) = spec_IsKey_r0 n g p i := by kernel_rfl
theorem spec_IsKey.run (n : Nat) (f : Vec) (names : (List ByteArray)) : runF (spec_IsKey.E n) (bodyOf Try.f30) (startOf [.vec, (.sl .str)] [[], []] [] (f, names)) = spec_IsKey n f names := by kernel_rfl
theorem spec_IsKey.K (n : Nat)  : TabsOK Try.prog (spec_IsKey.E n).T (spec_IsKey.E n).ρ := ⟨T_ok, T_item, rho_cons (spec_RowsOf.fok n) (rho_cons (spec_SelectColumns.fok n) (fun _ _ h => nomatch h))⟩
theorem spec_IsKey.in4 : loopsOf ((findLoop 4 (bodyOf Try.f30)).getD .skip) = [] := by kernel_rfl
theorem spec_IsKey.lp4 (n : Nat)  : LoopOK Try.prog (spec_IsKey.E n) 4 ((findLoop 4 (bodyOf Try.f30)).getD .skip) := loop_ok (ks := spec_IsKey.keys4) (cs := []) (B := fun x => spec_IsKey_r4 x.1 x.2.1 x.2.2.1 x.2.2.2.1 x.2.2.2.2.1 x.2.2.2.2.2) (spec_IsKey.K n ) T.mixed rfl (fun x => spec_IsKey.round4 n x.1 x.2.1 x.2.2.1 x.2.2.2.1 x.2.2.2.2.1 x.2.2.2.2.2) (loops_of spec_IsKey.in4 (loops_nil))
theorem spec_IsKey.in2 : loopsOf ((findLoop 2 (bodyOf Try.f30)).getD .skip) = [(4, ((findLoop 4 (bodyOf Try.f30)).getD .skip))] := by kernel_rfl
theorem spec_IsKey.lp2 (n : Nat)  : LoopOK Try.prog (spec_IsKey.E n) 2 ((findLoop 2 (bodyOf Try.f30)).getD .skip) := loop_ok (ks := spec_IsKey.keys2) (cs := []) (B := fun x => spec_IsKey_r2 n x.1 x.2.1 x.2.2.1 x.2.2.2) (spec_IsKey.K n ) T.mixed rfl (fun x => spec_IsKey.round2 n x.1 x.2.1 x.2.2.1 x.2.2.2) (loops_of spec_IsKey.in2 (loops_cons (spec_IsKey.lp4 n ) (loops_nil)))
theorem spec_IsKey.in0 : loopsOf ((findLoop 0 (bodyOf Try.f30)).getD .skip) = [(2, ((findLoop 2 (bodyOf Try.f30)).getD .skip))] := by kernel_rfl
theorem spec_IsKey.lp0 (n : Nat)  : LoopOK Try.prog (spec_IsKey.E n) 0 ((findLoop 0 (bodyOf Try.f30)).getD .skip) := loop_ok (ks := spec_IsKey.keys0) (cs := []) (B := fun x => spec_IsKey_r0 n x.1 x.2.1 x.2.2) (spec_IsKey.K n ) T.mixed rfl (fun x => spec_IsKey.round0 n x.1 x.2.1 x.2.2) (loops_of spec_IsKey.in0 (loops_cons (spec_IsKey.lp2 n ) (loops_nil)))
theorem spec_IsKey.top : loopsOf (bodyOf Try.f30) = [(0, ((findLoop 0 (bodyOf Try.f30)).getD .skip))] := by kernel_rfl
theorem spec_IsKey.fin (n : Nat) : FunIn Try.prog (F := spec_IsKey.sig fun x => spec_IsKey n x.1 x.2) (spec_IsKey.E n) 30 (bodyOf Try.f30) [.tmp 4] := ⟨⟨Try.f30, Try.func30, by kernel_rfl, by kernel_rfl, rfl, by kernel_rfl⟩, Nat.le_of_ble_eq_true rfl, rfl, by kernel_rfl, by kernel_rfl, by kernel_rfl, rfl⟩
theorem spec_IsKey.fok (n : Nat)  : FOK Try.prog 30 (spec_IsKey.sig fun x => spec_IsKey n x.1 x.2) := fun_ok (spec_IsKey.fin n) (spec_IsKey.K n ) T.mixed (loops_of spec_IsKey.top (loops_cons (spec_IsKey.lp0 n ) (loops_nil))) (fun x => spec_IsKey.run n x.1 x.2)

def impl_copyItems.sig (f : Dens [(.sl .item)] → Option (Dens [(.sl .item)])) : Fun := ⟨[(.sl .item)], [[]], [], [(.sl .item)], [[(.own true 0)]], f⟩
def impl_copyItems.ρ  : Nat → Option Fun := getA []
def impl_copyItems.E  : Env (Dens [(.sl .item)]) := ⟨T, impl_copyItems.ρ , 6, [0, 2], [], getA [], retOf [.tmp 2] [(.sl .item)] [[(.own true 0)]]⟩
theorem impl_copyItems.run (list : (List Item)) : runF (impl_copyItems.E ) (bodyOf Try.f84) (startOf [(.sl .item)] [[]] [] list) = impl_copyItems list := by kernel_rfl
theorem impl_copyItems.K   : TabsOK Try.prog (impl_copyItems.E ).T (impl_copyItems.E ).ρ := ⟨T_ok, T_item, fun _ _ h => nomatch h⟩
theorem impl_copyItems.top : loopsOf (bodyOf Try.f84) = [] := by kernel_rfl
theorem impl_copyItems.fin  : FunIn Try.prog (F := impl_copyItems.sig fun x => impl_copyItems x) (impl_copyItems.E ) 84 (bodyOf Try.f84) [.tmp 2] := ⟨⟨Try.f84, Try.func84, by kernel_rfl, by kernel_rfl, rfl, by kernel_rfl⟩, Nat.le_of_ble_eq_true rfl, rfl, by kernel_rfl, by kernel_rfl, by kernel_rfl, rfl⟩
theorem impl_copyItems.fok   : FOK Try.prog 84 (impl_copyItems.sig fun x => impl_copyItems x) := fun_ok (impl_copyItems.fin ) (impl_copyItems.K  ) T.mixed (loops_of impl_copyItems.top (loops_nil)) (fun x => impl_copyItems.run x)

def impl_copyTexts.sig (f : Dens [(.sl .str)] → Option (Dens [(.sl .str)])) : Fun := ⟨[(.sl .str)], [[]], [], [(.sl .str)], [[(.own true 0)]], f⟩
def impl_copyTexts.ρ  : Nat → Option Fun := getA []
def impl_copyTexts.E  : Env (Dens [(.sl .str)]) := ⟨T, impl_copyTexts.ρ , 6, [0, 2], [], getA [], retOf [.tmp 2] [(.sl .str)] [[(.own true 0)]]⟩
theorem impl_copyTexts.run (list : (List ByteArray)) : runF (impl_copyTexts.E ) (bodyOf Try.f85) (startOf [(.sl .str)] [[]] [] list) = impl_copyTexts list := by kernel_rfl
theorem impl_copyTexts.K   : TabsOK Try.prog (impl_copyTexts.E ).T (impl_copyTexts.E ).ρ := ⟨T_ok, T_item, fun _ _ h => nomatch h⟩
theorem impl_copyTexts.top : loopsOf (bodyOf Try.f85) = [] := by kernel_rfl
theorem impl_copyTexts.fin  : FunIn Try.prog (F := impl_copyTexts.sig fun x => impl_copyTexts x) (impl_copyTexts.E ) 85 (bodyOf Try.f85) [.tmp 2] := ⟨⟨Try.f85, Try.func85, by kernel_rfl, by kernel_rfl, rfl, by kernel_rfl⟩, Nat.le_of_ble_eq_true rfl, rfl, by kernel_rfl, by kernel_rfl, by kernel_rfl, rfl⟩
theorem impl_copyTexts.fok   : FOK Try.prog 85 (impl_copyTexts.sig fun x => impl_copyTexts x) := fun_ok (impl_copyTexts.fin ) (impl_copyTexts.K  ) T.mixed (loops_of impl_copyTexts.top (loops_nil)) (fun x => impl_copyTexts.run x)

def impl_copyVector.sig (f : Dens [.vec] → Option (Dens [.vec])) : Fun := ⟨[.vec], [[]], [], [.vec], [[.ps, (.own true 0), (.own true 0), (.own true 0), (.own true 0), (.own true 0), .ps, .ps]], f⟩
def impl_copyVector.ρ (rec_impl_copyVector : (Vec → Option Vec)) (_ : Nat) : Nat → Option Fun := getA [(73, impl_copyVector.sig fun x => rec_impl_copyVector x), (84, impl_copyItems.sig fun x => impl_copyItems x), (85, impl_copyTexts.sig fun x => impl_copyTexts x)]
def impl_copyVector.keys0 : List KeyTy := [⟨.box 2, .vec, [.ps, (.own true 0), (.own true 0), (.own true 0), (.own true 0), (.own true 0), .ps, .ps]⟩, ⟨.box 3, .vec, [.ps, (.own true 0), (.own true 0), (.own true 0), (.own true 0), (.own true 0), .ps, .ps]⟩, ⟨.slot 26, (.sl .vec), [.ps]⟩, ⟨.slot 27, (.int .i64), []⟩, ⟨.slot 28, (.int .i64), []⟩]
def impl_copyVector.L0 (rec_impl_copyVector : (Vec → Option Vec)) (n : Nat) : Loop (Dens [.vec]) := keyLoop impl_copyVector.keys0 [] (impl_copyVector_l0 rec_impl_copyVector n)
def impl_copyVector.E (rec_impl_copyVector : (Vec → Option Vec)) (n : Nat) : Env (Dens [.vec]) := ⟨T, impl_copyVector.ρ rec_impl_copyVector n, 41, [0, 1, 2, 3, 5, 26, 27, 28, 29], [26], getA [(0, impl_copyVector.L0 rec_impl_copyVector n)], retOf [.cell 2 41] [.vec] [[.ps, (.own true 0), (.own true 0), (.own true 0), (.own true 0), (.own true 0), .ps, .ps]]⟩
theorem impl_copyVector.round0 (rec_impl_copyVector : (Vec → Option Vec)) (n : Nat) (b2 : Vec) (out : Vec) (t26 : (List Vec)) (t27 : Int) (t28 : Int) : roundK (impl_copyVector.E rec_impl_copyVector n) 0 (impl_copyVector.L0 rec_impl_copyVector n) ((findLoop 0 (bodyOf Try.f73)).getD .skip) (b2, out, t26, t27, t28) = impl_copyVector_r0 rec_impl_copyVector b2 out t26 t27 t28 := by kernel_rfl
theorem impl_copyVector.run (rec_impl_copyVector : (Vec → Option Vec)) (n : Nat) (v : Vec) : runF (impl_copyVector.E rec_impl_copyVector n) (bodyOf Try.f73) (startOf [.vec] [[]] [] v) = impl_copyVector_b rec_impl_copyVector n v := by kernel_rfl
theorem impl_copyVector.K (rec_impl_copyVector : (Vec → Option Vec)) (n : Nat) (h_impl_copyVector : FOK Try.prog 73 (impl_copyVector.sig fun x => rec_impl_copyVector x)) : TabsOK Try.prog (impl_copyVector.E rec_impl_copyVector n).T (impl_copyVector.E rec_impl_copyVector n).ρ := ⟨T_ok, T_item, rho_cons (h_impl_copyVector) (rho_cons (impl_copyItems.fok) (rho_cons (impl_copyTexts.fok) (fun _ _ h => nomatch h)))⟩
theorem impl_copyVector.in0 : loopsOf ((findLoop 0 (bodyOf Try.f73)).getD .skip) = [] := by kernel_rfl
theorem impl_copyVector.lp0 (rec_impl_copyVector : (Vec → Option Vec)) (n : Nat) (h_impl_copyVector : FOK Try.prog 73 (impl_copyVector.sig fun x => rec_impl_copyVector x)) : LoopOK Try.prog (impl_copyVector.E rec_impl_copyVector n) 0 ((findLoop 0 (bodyOf Try.f73)).getD .skip) := loop_ok (ks := impl_copyVector.keys0) (cs := []) (B := fun x => impl_copyVector_r0 rec_impl_copyVector x.1 x.2.1 x.2.2.1 x.2.2.2.1 x.2.2.2.2) (impl_copyVector.K rec_impl_copyVector n h_impl_copyVector) T.mixed rfl (fun x => impl_copyVector.round0 rec_impl_copyVector n x.1 x.2.1 x.2.2.1 x.2.2.2.1 x.2.2.2.2) (loops_of impl_copyVector.in0 (loops_nil))
theorem impl_copyVector.top : loopsOf (bodyOf Try.f73) = [(0, ((findLoop 0 (bodyOf Try.f73)).getD .skip))] := by kernel_rfl
theorem impl_copyVector.fin (rec_impl_copyVector : (Vec → Option Vec)) (n : Nat) : FunIn Try.prog (F := impl_copyVector.sig fun x => impl_copyVector_b rec_impl_copyVector n x) (impl_copyVector.E rec_impl_copyVector n) 73 (bodyOf Try.f73) [.cell 2 41] := ⟨⟨Try.f73, Try.func73, by kernel_rfl, by kernel_rfl, rfl, by kernel_rfl⟩, Nat.le_of_ble_eq_true rfl, rfl, by kernel_rfl, by kernel_rfl, by kernel_rfl, rfl⟩
theorem impl_copyVector.step (rec_impl_copyVector : (Vec → Option Vec)) (n : Nat) (h_impl_copyVector : FOK Try.prog 73 (impl_copyVector.sig fun x => rec_impl_copyVector x)) : FOK Try.prog 73 (impl_copyVector.sig fun x => impl_copyVector_b rec_impl_copyVector n x) := fun_ok (impl_copyVector.fin rec_impl_copyVector n) (impl_copyVector.K rec_impl_copyVector n h_impl_copyVector) T.mixed (loops_of impl_copyVector.top (loops_cons (impl_copyVector.lp0 rec_impl_copyVector n h_impl_copyVector) (loops_nil))) (fun x => impl_copyVector.run rec_impl_copyVector n x)
theorem impl_copyVector.fok : ∀ n, FOK Try.prog 73 (impl_copyVector.sig fun x => impl_copyVector n x)
  | 0 => fok_none (impl_copyVector.fin (fun _ => none) 0)
  | n + 1 => impl_copyVector.step (impl_copyVector n) n (impl_copyVector.fok n)

def impl_frameNames.sig (f : Dens [(.sl .str), (.int .i64)] → Option (Dens [.bool])) : Fun := ⟨[(.sl .str), (.int .i64)], [[], []], [], [.bool], [[]], f⟩
def impl_frameNames.ρ (n : Nat) : Nat → Option Fun := getA [(47, impl_hasText.sig fun x => impl_hasText n x.1 x.2)]
def impl_frameNames.keys0 : List KeyTy := [⟨.slot 0, (.sl .str), [.ps]⟩, ⟨.slot 11, (.sl .str), [.ps]⟩, ⟨.slot 12, (.int .i64), []⟩, ⟨.slot 13, (.int .i64), []⟩]
def impl_frameNames.L0 (n : Nat) : Loop (Dens [.bool]) := keyLoop impl_frameNames.keys0 [] (impl_frameNames_l0 n)
def impl_frameNames.E (n : Nat) : Env (Dens [.bool]) := ⟨T, impl_frameNames.ρ n, 33, [0, 1, 4, 5, 6, 10, 11, 12, 13, 14, 31], [11], getA [(0, impl_frameNames.L0 n)], retOf [.tmp 4] [.bool] [[]]⟩
theorem impl_frameNames.round0 (n : Nat) (names_1 : (List ByteArray)) (t11 : (List ByteArray)) (t12 : Int) (t13 : Int) : roundK (impl_frameNames.E n) 0 (impl_frameNames.L0 n) ((findLoop 0 (bodyOf Try.f74)).getD .skip) (names_1, t11, t12, t13) = impl_frameNames_r0 n names_1 t11 t12 t13 := by kernel_rfl
theorem impl_frameNames.run (n : Nat) (names : (List ByteArray)) (n_ : Int) : runF (impl_frameNames.E n) (bodyOf Try.f74) (startOf [(.sl .str), (.int .i64)] [[], []] [] (names, n_)) = impl_frameNames n names n_ := by kernel_rfl
theorem impl_frameNames.K (n : Nat)  : TabsOK Try.prog (impl_frameNames.E n).T (impl_frameNames.E n).ρ := ⟨T_ok, T_item, rho_cons (impl_hasText.fok n) (fun _ _ h => nomatch h)⟩
theorem impl_frameNames.in0 : loopsOf ((findLoop 0 (bodyOf Try.f74)).getD .skip) = [] := by kernel_rfl
theorem impl_frameNames.lp0 (n : Nat)  : LoopOK Try.prog (impl_frameNames.E n) 0 ((findLoop 0 (bodyOf Try.f74)).getD .skip) := loop_ok (ks := impl_frameNames.keys0) (cs := []) (B := fun x => impl_frameNames_r0 n x.1 x.2.1 x.2.2.1 x.2.2.2) (impl_frameNames.K n ) T.mixed rfl (fun x => impl_frameNames.round0 n x.1 x.2.1 x.2.2.1 x.2.2.2) (loops_of impl_frameNames.in0 (loops_nil))
theorem impl_frameNames.top : loopsOf (bodyOf Try.f74) = [(0, ((findLoop 0 (bodyOf Try.f74)).getD .skip))] := by kernel_rfl
theorem impl_frameNames.fin (n : Nat) : FunIn Try.prog (F := impl_frameNames.sig fun x => impl_frameNames n x.1 x.2) (impl_frameNames.E n) 74 (bodyOf Try.f74) [.tmp 4] := ⟨⟨Try.f74, Try.func74, by kernel_rfl, by kernel_rfl, rfl, by kernel_rfl⟩, Nat.le_of_ble_eq_true rfl, rfl, by kernel_rfl, by kernel_rfl, by kernel_rfl, rfl⟩
theorem impl_frameNames.fok (n : Nat)  : FOK Try.prog 74 (impl_frameNames.sig fun x => impl_frameNames n x.1 x.2) := fun_ok (impl_frameNames.fin n) (impl_frameNames.K n ) T.mixed (loops_of impl_frameNames.top (loops_cons (impl_frameNames.lp0 n ) (loops_nil))) (fun x => impl_frameNames.run n x.1 x.2)

def impl_frameOf.sig (f : Dens [(.sl .vec), (.sl .str)] → Option (Dens [.vec, .str])) : Fun := ⟨[(.sl .vec), (.sl .str)], [[(some true)], []], [], [.vec, .str], [[.ps, (.own true 0), (.own true 0), (.own true 0), (.own true 0), (.own true 0), .ps, .ps], []], f⟩
def impl_frameOf.ρ (n : Nat) : Nat → Option Fun := getA [(20, impl_IsFrame.sig fun x => impl_IsFrame n x), (85, impl_copyTexts.sig fun x => impl_copyTexts x)]
def impl_frameOf.E (n : Nat) : Env (Dens [.vec, .str]) := ⟨T, impl_frameOf.ρ n, 17, [0, 1, 4, 5, 6, 14], [], getA [], retOf [.cell 4 41, .tmp 5] [.vec, .str] [[.ps, (.own true 0), (.own true 0), (.own true 0), (.own true 0), (.own true 0), .ps, .ps], []]⟩
theorem impl_frameOf.run (n : Nat) (columns : (List Vec)) (names : (List ByteArray)) : runF (impl_frameOf.E n) (bodyOf Try.f75) (startOf [(.sl .vec), (.sl .str)] [[(some true)], []] [] (columns, names)) = impl_frameOf n columns names := by kernel_rfl
theorem impl_frameOf.K (n : Nat)  : TabsOK Try.prog (impl_frameOf.E n).T (impl_frameOf.E n).ρ := ⟨T_ok, T_item, rho_cons (impl_IsFrame.fok n) (rho_cons (impl_copyTexts.fok) (fun _ _ h => nomatch h))⟩
theorem impl_frameOf.top : loopsOf (bodyOf Try.f75) = [] := by kernel_rfl
theorem impl_frameOf.fin (n : Nat) : FunIn Try.prog (F := impl_frameOf.sig fun x => impl_frameOf n x.1 x.2) (impl_frameOf.E n) 75 (bodyOf Try.f75) [.cell 4 41, .tmp 5] := ⟨⟨Try.f75, Try.func75, by kernel_rfl, by kernel_rfl, rfl, by kernel_rfl⟩, Nat.le_of_ble_eq_true rfl, rfl, by kernel_rfl, by kernel_rfl, by kernel_rfl, rfl⟩
theorem impl_frameOf.fok (n : Nat)  : FOK Try.prog 75 (impl_frameOf.sig fun x => impl_frameOf n x.1 x.2) := fun_ok (impl_frameOf.fin n) (impl_frameOf.K n ) T.mixed (loops_of impl_frameOf.top (loops_nil)) (fun x => impl_frameOf.run n x.1 x.2)

def impl_SelectColumns.sig (f : Dens [.vec, (.sl .str)] → Option (Dens [.vec, .str])) : Fun := ⟨[.vec, (.sl .str)], [[], []], [], [.vec, .str], [[.ps, (.own true 0), (.own true 0), (.own true 0), (.own true 0), (.own true 0), .ps, .ps], []], f⟩
def impl_SelectColumns.ρ (n : Nat) : Nat → Option Fun := getA [(20, impl_IsFrame.sig fun x => impl_IsFrame n x), (70, impl_textIndex.sig fun x => impl_textIndex n x.1 x.2), (73, impl_copyVector.sig fun x => impl_copyVector n x), (74, impl_frameNames.sig fun x => impl_frameNames n x.1 x.2), (75, impl_frameOf.sig fun x => impl_frameOf n x.1 x.2)]
def impl_SelectColumns.keys0 : List KeyTy := [⟨.slot 1, (.sl .str), [.ps]⟩, ⟨.box 2, .vec, [.ps, .ps, .ps, .ps, .ps, .ps, .ps, .ps]⟩, ⟨.box 4, .vec, [.ps, (.own true 0), (.own true 0), (.own true 0), (.own true 0), (.own true 0), .ps, .ps]⟩, ⟨.slot 6, (.sl .vec), [(.own true 0)]⟩, ⟨.slot 14, (.sl .str), [.ps]⟩, ⟨.slot 15, (.int .i64), []⟩, ⟨.slot 16, (.int .i64), []⟩]
def impl_SelectColumns.L0 (n : Nat) : Loop (Dens [.vec, .str]) := keyLoop impl_SelectColumns.keys0 [] (impl_SelectColumns_l0 n)
def impl_SelectColumns.E (n : Nat) : Env (Dens [.vec, .str]) := ⟨T, impl_SelectColumns.ρ n, 48, [0, 1, 2, 4, 5, 6, 8, 9, 12, 14, 15, 16, 17, 25, 41], [14], getA [(0, impl_SelectColumns.L0 n)], retOf [.cell 4 41, .tmp 5] [.vec, .str] [[.ps, (.own true 0), (.own true 0), (.own true 0), (.own true 0), (.own true 0), .ps, .ps], []]⟩
theorem impl_SelectColumns.round0 (n : Nat) (names_1 : (List ByteArray)) (f_1 : Vec) (b4 : Vec) (list : (List Vec)) (t14 : (List ByteArray)) (t15 : Int) (t16 : Int) : roundK (impl_SelectColumns.E n) 0 (impl_SelectColumns.L0 n) ((findLoop 0 (bodyOf Try.f57)).getD .skip) (names_1, f_1, b4, list, t14, t15, t16) = impl_SelectColumns_r0 n names_1 f_1 b4 list t14 t15 t16 := by kernel_rfl
theorem impl_SelectColumns.run (n : Nat) (f : Vec) (names : (List ByteArray)) : runF (impl_SelectColumns.E n) (bodyOf Try.f57) (startOf [.vec, (.sl .str)] [[], []] [] (f, names)) = impl_SelectColumns n f names := by kernel_rfl
theorem impl_SelectColumns.K (n : Nat)  : TabsOK Try.prog (impl_SelectColumns.E n).T (impl_SelectColumns.E n).ρ := ⟨T_ok, T_item, rho_cons (impl_IsFrame.fok n) (rho_cons (impl_textIndex.fok n) (rho_cons (impl_copyVector.fok n) (rho_cons (impl_frameNames.fok n) (rho_cons (impl_frameOf.fok n) (fun _ _ h => nomatch h)))))⟩
theorem impl_SelectColumns.in0 : loopsOf ((findLoop 0 (bodyOf Try.f57)).getD .skip) = [] := by kernel_rfl
theorem impl_SelectColumns.lp0 (n : Nat)  : LoopOK Try.prog (impl_SelectColumns.E n) 0 ((findLoop 0 (bodyOf Try.f57)).getD .skip) := loop_ok (ks := impl_SelectColumns.keys0) (cs := []) (B := fun x => impl_SelectColumns_r0 n x.1 x.2.1 x.2.2.1 x.2.2.2.1 x.2.2.2.2.1 x.2.2.2.2.2.1 x.2.2.2.2.2.2) (impl_SelectColumns.K n ) T.mixed rfl (fun x => impl_SelectColumns.round0 n x.1 x.2.1 x.2.2.1 x.2.2.2.1 x.2.2.2.2.1 x.2.2.2.2.2.1 x.2.2.2.2.2.2) (loops_of impl_SelectColumns.in0 (loops_nil))
theorem impl_SelectColumns.top : loopsOf (bodyOf Try.f57) = [(0, ((findLoop 0 (bodyOf Try.f57)).getD .skip))] := by kernel_rfl
theorem impl_SelectColumns.fin (n : Nat) : FunIn Try.prog (F := impl_SelectColumns.sig fun x => impl_SelectColumns n x.1 x.2) (impl_SelectColumns.E n) 57 (bodyOf Try.f57) [.cell 4 41, .tmp 5] := ⟨⟨Try.f57, Try.func57, by kernel_rfl, by kernel_rfl, rfl, by kernel_rfl⟩, Nat.le_of_ble_eq_true rfl, rfl, by kernel_rfl, by kernel_rfl, by kernel_rfl, rfl⟩
theorem impl_SelectColumns.fok (n : Nat)  : FOK Try.prog 57 (impl_SelectColumns.sig fun x => impl_SelectColumns n x.1 x.2) := fun_ok (impl_SelectColumns.fin n) (impl_SelectColumns.K n ) T.mixed (loops_of impl_SelectColumns.top (loops_cons (impl_SelectColumns.lp0 n ) (loops_nil))) (fun x => impl_SelectColumns.run n x.1 x.2)

def impl_sameRow.sig (f : Dens [.vec, (.int .i64), (.int .i64)] → Option (Dens [.bool])) : Fun := ⟨[.vec, (.int .i64), (.int .i64)], [[], [], []], [], [.bool], [[]], f⟩
def impl_sameRow.ρ (_ : Nat) : Nat → Option Fun := getA []
def impl_sameRow.keys0 : List KeyTy := [⟨.slot 1, (.int .i64), []⟩, ⟨.slot 2, (.int .i64), []⟩, ⟨.slot 10, (.sl .vec), [.ps]⟩, ⟨.slot 11, (.int .i64), []⟩, ⟨.slot 12, (.int .i64), []⟩]
def impl_sameRow.L0 (n : Nat) : Loop (Dens [.bool]) := keyLoop impl_sameRow.keys0 [] (impl_sameRow_l0 n)
def impl_sameRow.E (n : Nat) : Env (Dens [.bool]) := ⟨T, impl_sameRow.ρ n, 28, [0, 1, 2, 3, 6, 8, 10, 11, 12, 13, 26], [10], getA [(0, impl_sameRow.L0 n)], retOf [.tmp 6] [.bool] [[]]⟩
theorem impl_sameRow.round0 (n : Nat) (i_1 : Int) (j_1 : Int) (t10 : (List Vec)) (t11 : Int) (t12 : Int) : roundK (impl_sameRow.E n) 0 (impl_sameRow.L0 n) ((findLoop 0 (bodyOf Try.f58)).getD .skip) (i_1, j_1, t10, t11, t12) = impl_sameRow_r0 i_1 j_1 t10 t11 t12 := by kernel_rfl
theorem impl_sameRow.run (n : Nat) (f : Vec) (i : Int) (j : Int) : runF (impl_sameRow.E n) (bodyOf Try.f58) (startOf [.vec, (.int .i64), (.int .i64)] [[], [], []] [] (f, i, j)) = impl_sameRow n f i j := by kernel_rfl
theorem impl_sameRow.K (n : Nat)  : TabsOK Try.prog (impl_sameRow.E n).T (impl_sameRow.E n).ρ := ⟨T_ok, T_item, fun _ _ h => nomatch h⟩
theorem impl_sameRow.in0 : loopsOf ((findLoop 0 (bodyOf Try.f58)).getD .skip) = [] := by kernel_rfl
theorem impl_sameRow.lp0 (n : Nat)  : LoopOK Try.prog (impl_sameRow.E n) 0 ((findLoop 0 (bodyOf Try.f58)).getD .skip) := loop_ok (ks := impl_sameRow.keys0) (cs := []) (B := fun x => impl_sameRow_r0 x.1 x.2.1 x.2.2.1 x.2.2.2.1 x.2.2.2.2) (impl_sameRow.K n ) T.mixed rfl (fun x => impl_sameRow.round0 n x.1 x.2.1 x.2.2.1 x.2.2.2.1 x.2.2.2.2) (loops_of impl_sameRow.in0 (loops_nil))
theorem impl_sameRow.top : loopsOf (bodyOf Try.f58) = [(0, ((findLoop 0 (bodyOf Try.f58)).getD .skip))] := by kernel_rfl
theorem impl_sameRow.fin (n : Nat) : FunIn Try.prog (F := impl_sameRow.sig fun x => impl_sameRow n x.1 x.2.1 x.2.2) (impl_sameRow.E n) 58 (bodyOf Try.f58) [.tmp 6] := ⟨⟨Try.f58, Try.func58, by kernel_rfl, by kernel_rfl, rfl, by kernel_rfl⟩, Nat.le_of_ble_eq_true rfl, rfl, by kernel_rfl, by kernel_rfl, by kernel_rfl, rfl⟩
theorem impl_sameRow.fok (n : Nat)  : FOK Try.prog 58 (impl_sameRow.sig fun x => impl_sameRow n x.1 x.2.1 x.2.2) := fun_ok (impl_sameRow.fin n) (impl_sameRow.K n ) T.mixed (loops_of impl_sameRow.top (loops_cons (impl_sameRow.lp0 n ) (loops_nil))) (fun x => impl_sameRow.run n x.1 x.2.1 x.2.2)

def impl_IsKey.sig (f : Dens [.vec, (.sl .str)] → Option (Dens [.bool])) : Fun := ⟨[.vec, (.sl .str)], [[], []], [], [.bool], [[]], f⟩
def impl_IsKey.ρ (n : Nat) : Nat → Option Fun := getA [(50, impl_rows.sig fun x => impl_rows x), (57, impl_SelectColumns.sig fun x => impl_SelectColumns n x.1 x.2), (58, impl_sameRow.sig fun x => impl_sameRow n x.1 x.2.1 x.2.2)]
def impl_IsKey.keys2 : List KeyTy := [⟨.box 5, .vec, [.ps, (.own true 0), (.own true 0), (.own true 0), (.own true 0), (.own true 0), .ps, .ps]⟩, ⟨.slot 7, (.int .i64), []⟩, ⟨.slot 8, (.int .i64), []⟩]
def impl_IsKey.L2 (n : Nat) : Loop (Dens [.bool]) := keyLoop impl_IsKey.keys2 [] (impl_IsKey_l2 n)
def impl_IsKey.keys0 : List KeyTy := [⟨.box 5, .vec, [.ps, (.own true 0), (.own true 0), (.own true 0), (.own true 0), (.own true 0), .ps, .ps]⟩, ⟨.slot 7, (.int .i64), []⟩]
def impl_IsKey.L0 (n : Nat) : Loop (Dens [.bool]) := keyLoop impl_IsKey.keys0 [] (impl_IsKey_l0 n)
def impl_IsKey.E (n : Nat) : Env (Dens [.bool]) := ⟨T, impl_IsKey.ρ n, 32, [0, 1, 2, 4, 5, 6, 7, 8, 16, 20, 25, 31], [], getA [(2, impl_IsKey.L2 n), (0, impl_IsKey.L0 n)], retOf [.tmp 4] [.bool] [[]]⟩
theorem impl_IsKey.round2 (n : Nat) (g_1 : Vec) (i_1 : Int) (j : Int) : roundK (impl_IsKey.E n) 2 (impl_IsKey.L2 n) ((findLoop 2 (bodyOf Try.f32)).getD .skip) (g_1, i_1, j) = impl_IsKey_r2 n g_1 i_1 j := by kernel_rfl
theorem impl_IsKey.round0 (n : Nat) (g : Vec) (i : Int) : roundK (impl_IsKey.E n) 0 (impl_IsKey.L0 n) ((findLoop 0 (bodyOf Try.f32)).getD .skip) (g, i) = impl_IsKey_r0 n g i := by kernel_rfl
theorem impl_IsKey.run (n : Nat) (f : Vec) (names : (List ByteArray)) : runF (impl_IsKey.E n) (bodyOf Try.f32) (startOf [.vec, (.sl .str)] [[], []] [] (f, names)) = impl_IsKey n f names := by kernel_rfl
theorem impl_IsKey.K (n : Nat)  : TabsOK Try.prog (impl_IsKey.E n).T (impl_IsKey.E n).ρ := ⟨T_ok, T_item, rho_cons (impl_rows.fok) (rho_cons (impl_SelectColumns.fok n) (rho_cons (impl_sameRow.fok n) (fun _ _ h => nomatch h)))⟩
theorem impl_IsKey.in2 : loopsOf ((findLoop 2 (bodyOf Try.f32)).getD .skip) = [] := by kernel_rfl
theorem impl_IsKey.lp2 (n : Nat)  : LoopOK Try.prog (impl_IsKey.E n) 2 ((findLoop 2 (bodyOf Try.f32)).getD .skip) := loop_ok (ks := impl_IsKey.keys2) (cs := []) (B := fun x => impl_IsKey_r2 n x.1 x.2.1 x.2.2) (impl_IsKey.K n ) T.mixed rfl (fun x => impl_IsKey.round2 n x.1 x.2.1 x.2.2) (loops_of impl_IsKey.in2 (loops_nil))
theorem impl_IsKey.in0 : loopsOf ((findLoop 0 (bodyOf Try.f32)).getD .skip) = [(2, ((findLoop 2 (bodyOf Try.f32)).getD .skip))] := by kernel_rfl
theorem impl_IsKey.lp0 (n : Nat)  : LoopOK Try.prog (impl_IsKey.E n) 0 ((findLoop 0 (bodyOf Try.f32)).getD .skip) := loop_ok (ks := impl_IsKey.keys0) (cs := []) (B := fun x => impl_IsKey_r0 n x.1 x.2) (impl_IsKey.K n ) T.mixed rfl (fun x => impl_IsKey.round0 n x.1 x.2) (loops_of impl_IsKey.in0 (loops_cons (impl_IsKey.lp2 n ) (loops_nil)))
theorem impl_IsKey.top : loopsOf (bodyOf Try.f32) = [(0, ((findLoop 0 (bodyOf Try.f32)).getD .skip))] := by kernel_rfl
theorem impl_IsKey.fin (n : Nat) : FunIn Try.prog (F := impl_IsKey.sig fun x => impl_IsKey n x.1 x.2) (impl_IsKey.E n) 32 (bodyOf Try.f32) [.tmp 4] := ⟨⟨Try.f32, Try.func32, by kernel_rfl, by kernel_rfl, rfl, by kernel_rfl⟩, Nat.le_of_ble_eq_true rfl, rfl, by kernel_rfl, by kernel_rfl, by kernel_rfl, rfl⟩
theorem impl_IsKey.fok (n : Nat)  : FOK Try.prog 32 (impl_IsKey.sig fun x => impl_IsKey n x.1 x.2) := fun_ok (impl_IsKey.fin n) (impl_IsKey.K n ) T.mixed (loops_of impl_IsKey.top (loops_cons (impl_IsKey.lp0 n ) (loops_nil))) (fun x => impl_IsKey.run n x.1 x.2)

def laws_FnExactIsKey.sig (f : Dens [.vec, (.sl .str)] → Option (Dens [.bool])) : Fun := ⟨[.vec, (.sl .str)], [[], []], [], [.bool], [[]], f⟩
def laws_FnExactIsKey.ρ (n : Nat) : Nat → Option Fun := getA [(14, laws_szVector.sig fun x => laws_szVector n x.1 x.2), (16, laws_toVector.sig fun x => laws_toVector n x), (18, laws_eqVector.sig fun x => laws_eqVector n x.1 x.2), (29, laws_szStringS.sig fun x => laws_szStringS n x.1 x.2), (30, spec_IsKey.sig fun x => spec_IsKey n x.1 x.2), (31, laws_toStringS.sig fun x => laws_toStringS n x), (32, impl_IsKey.sig fun x => impl_IsKey n x.1 x.2), (33, laws_eqStringS.sig fun x => laws_eqStringS n x.1 x.2)]
def laws_FnExactIsKey.E (n : Nat) : Env (Dens [.bool]) := ⟨T, laws_FnExactIsKey.ρ n, 45, [0, 1, 2, 4, 5, 6, 7, 8, 9, 14, 19, 34, 39, 44], [], getA [], retOf [.tmp 4] [.bool] [[]]⟩
theorem laws_FnExactIsKey.run (n : Nat) (aF : Vec) (aNames : (List ByteArray)) : runF (laws_FnExactIsKey.E n) (bodyOf Try.f8) (startOf [.vec, (.sl .str)] [[], []] [] (aF, aNames)) = laws_FnExactIsKey n aF aNames := by kernel_rfl
theorem laws_FnExactIsKey.K (n : Nat)  : TabsOK Try.prog (laws_FnExactIsKey.E n).T (laws_FnExactIsKey.E n).ρ := ⟨T_ok, T_item, rho_cons (laws_szVector.fok n) (rho_cons (laws_toVector.fok n) (rho_cons (laws_eqVector.fok n) (rho_cons (laws_szStringS.fok n) (rho_cons (spec_IsKey.fok n) (rho_cons (laws_toStringS.fok n) (rho_cons (impl_IsKey.fok n) (rho_cons (laws_eqStringS.fok n) (fun _ _ h => nomatch h))))))))⟩
theorem laws_FnExactIsKey.top : loopsOf (bodyOf Try.f8) = [] := by kernel_rfl
theorem laws_FnExactIsKey.fin (n : Nat) : FunIn Try.prog (F := laws_FnExactIsKey.sig fun x => laws_FnExactIsKey n x.1 x.2) (laws_FnExactIsKey.E n) 8 (bodyOf Try.f8) [.tmp 4] := ⟨⟨Try.f8, Try.func8, by kernel_rfl, by kernel_rfl, rfl, by kernel_rfl⟩, Nat.le_of_ble_eq_true rfl, rfl, by kernel_rfl, by kernel_rfl, by kernel_rfl, rfl⟩
theorem laws_FnExactIsKey.fok (n : Nat)  : FOK Try.prog 8 (laws_FnExactIsKey.sig fun x => laws_FnExactIsKey n x.1 x.2) := fun_ok (laws_FnExactIsKey.fin n) (laws_FnExactIsKey.K n ) T.mixed (loops_of laws_FnExactIsKey.top (loops_nil)) (fun x => laws_FnExactIsKey.run n x.1 x.2)


end Go.AM
