/- Doubles and complex numbers of whole parts. -/
import Derived.Test.YthfemmcodfajaaaDoorGB
import Derived.Test.YthfemmcodfajaaaDoorFL
set_option linter.unusedVariables false
set_option linter.unusedSimpArgs false
namespace Go.Gv
open Go.RowKit Fl
abbrev vf (a : Int) : Value := .float .f64 (fl a)
abbrev vc2 (a b : Int) : Value := .complex .f64 (fl a) (fl b)
abbrev fv (a : Int) : AV := .d (.v (vf a))
abbrev cx (a b : Int) : AV := .d (.v (vc2 a b))
def sm (z : Int) : Prop := z.natAbs < 2 ^ 53
section
variable {P : Program}
theorem eqGuard_c {op : BinOp} {tt : TypeId} {ox oy : Operand} {k k' : FloatKind} {a b c d : Nat} {w : World} : (eqGuard op tt ox oy (.complex k a b) (.complex k' c d)).run P w = .ok () w := by
  cases op <;> simp [eqGuard]
theorem eqGuard_f {op : BinOp} {tt : TypeId} {ox oy : Operand} {k k' : FloatKind} {a b : Nat} {w : World} : (eqGuard op tt ox oy (.float k a) (.float k' b)).run P w = .ok () w := by
  cases op <;> simp [eqGuard]
theorem f_add {a b : Int} (ha : sm a) (hb : sm b) (h : sm (a + b)) : FloatKind.f64.format.add (fl a) (fl b) = some (fl (a + b)) := add_fl ha hb h
theorem f_sub {a b : Int} (ha : sm a) (hb : sm b) (h : sm (a - b)) : FloatKind.f64.format.sub (fl a) (fl b) = some (fl (a - b)) := sub_fl ha hb h
theorem f_mul {a b : Int} (ha : sm a) (hb : sm b) (ha0 : a ≠ 0) (hb0 : b ≠ 0) (h : sm (a * b)) : FloatKind.f64.format.mul (fl a) (fl b) = some (fl (a * b)) := mul_fl ha hb ha0 hb0 h
theorem f_ord {a b : Int} (ha : sm a) (hb : sm b) : (FloatKind.f64.format.order (fl a) (fl b) == some .eq) = decide (a = b) := order_fl ha hb
theorem B.cadd {tt : TypeId} {a b c d : Int} (h1 : sm a) (h2 : sm b) (h3 : sm c) (h4 : sm d) (h5 : sm (a + c)) (h6 : sm (b + d)) : BinRun P .add tt (vc2 a b) (vc2 c d) (vc2 (a + c) (b + d)) :=
  ⟨rfl, fun ox oy w => by simp [eqGuard_c, binOp, Op.complexOp, Op.Complex.arith, Op.floatArith, f_add h1 h3 h5, f_add h2 h4 h6]⟩
theorem B.csub {tt : TypeId} {a b c d : Int} (h1 : sm a) (h2 : sm b) (h3 : sm c) (h4 : sm d) (h5 : sm (a - c)) (h6 : sm (b - d)) : BinRun P .sub tt (vc2 a b) (vc2 c d) (vc2 (a - c) (b - d)) :=
  ⟨rfl, fun ox oy w => by simp [eqGuard_c, binOp, Op.complexOp, Op.Complex.arith, Op.floatArith, f_sub h1 h3 h5, f_sub h2 h4 h6]⟩
theorem B.cmul {tt : TypeId} {a b c d : Int} (h1 : sm a) (h2 : sm b) (h3 : sm c) (h4 : sm d) (a0 : a ≠ 0) (b0 : b ≠ 0) (c0 : c ≠ 0) (d0 : d ≠ 0) (m1 : sm (a * c)) (m2 : sm (b * d)) (m3 : sm (a * d)) (m4 : sm (b * c)) (h5 : sm (a * c - b * d)) (h6 : sm (a * d + b * c)) :
    BinRun P .mul tt (vc2 a b) (vc2 c d) (vc2 (a * c - b * d) (a * d + b * c)) :=
  ⟨rfl, fun ox oy w => by
    simp [eqGuard_c, binOp, Op.complexOp, Op.Complex.arith, Op.Complex.conv, Op.Complex.product, Op.Complex.add, Op.Complex.sub, Op.Complex.mul, Op.floatArith, f_mul h1 h3 a0 c0 m1, f_mul h2 h4 b0 d0 m2, f_mul h1 h4 a0 d0 m3, f_mul h2 h3 b0 c0 m4, f_sub m1 m2 h5, f_add m3 m4 h6]⟩
theorem B.ceq {tt : TypeId} {a b c d : Int} (h1 : sm a) (h2 : sm b) (h3 : sm c) (h4 : sm d) : BinRun P .eql tt (vc2 a b) (vc2 c d) (.bool (decide (a = c) && decide (b = d))) :=
  ⟨rfl, fun ox oy w => by simp [eqGuard_c, binOp, Op.complexOp, Op.Complex.cmp, Op.floatCmp, asBool, f_ord h1 h3, f_ord h2 h4]⟩
theorem B.fmul {tt : TypeId} {a b : Int} (h1 : sm a) (h2 : sm b) (a0 : a ≠ 0) (b0 : b ≠ 0) (m1 : sm (a * b)) : BinRun P .mul tt (vf a) (vf b) (vf (a * b)) :=
  ⟨rfl, fun ox oy w => by simp [eqGuard_f, binOp, Op.floatArith, f_mul h1 h2 a0 b0 m1]⟩
theorem B.feq {tt : TypeId} {a b : Int} (h1 : sm a) (h2 : sm b) : BinRun P .eql tt (vf a) (vf b) (.bool (decide (a = b))) :=
  ⟨rfl, fun ox oy w => by simp [eqGuard_f, binOp, Op.floatCmp, f_ord h1 h2]⟩
theorem conv_fi {src dst : TypeId} {z : Int} {d : TypeDesc} (hs : P.underlying src = some d) (hd : P.underlying dst = some (.int .i64)) (h : sm z) (w : World) : (convert src dst (vf z)).run P w = .ok (.int .i64 z) w := by
  have hz : -9223372036854775808 ≤ z ∧ z ≤ 9223372036854775807 := by unfold sm at h; omega
  have e : (FloatKind.f64.decode (fl z)).toInt .zero = some z := toInt_fl h
  have hr : IntKind.i64.min ≤ z ∧ z ≤ IntKind.i64.max := hz
  simp [convert, underlying, hs, hd, Conv.floatToInt, e, hr]
  intro hlt; omega
end
section
variable {X : Cx} {d : Option Nat} {ty : TypeId} {pos : String} {aft : Array Edge} {g : Option (Nat × Bool)} {t : T} {σ : Sg}
theorem O.complex {x y : Operand} {tys : Array TypeId} {a b : Int} (hx : ge t x = some (fv a)) (hy : ge t y = some (fv b)) : QJ X ⟨d, .call { callee := .builtin .complex, args := #[x, y], argTypes := tys }, ty, pos, aft, g⟩ t σ (cx a b) :=
  O.bi2 hx hy (fun cs w => rfl) rfl
theorem O.convFI {src dst : TypeId} {x : Operand} {z : Int} {de : TypeDesc} (hx : ge t x = some (fv z)) (hs : X.P.underlying src = some de) (hd : X.P.underlying dst = some (.int .i64)) (h : sm z) : QJ X ⟨d, .convert src dst x, ty, pos, aft, g⟩ t σ (.d (.v (.int .i64 z))) :=
  O.conv hx (conv_fi hs hd h) rfl
end
end Go.Gv
