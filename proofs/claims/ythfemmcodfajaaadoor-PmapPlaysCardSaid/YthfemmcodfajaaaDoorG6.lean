/- What an operation yields, reckoned: operations that only read. -/
import Derived.Test.YthfemmcodfajaaaDoorG5
import Derived.Laws.StructEq
set_option linter.unusedVariables false
set_option linter.unusedSimpArgs false
namespace Go.Gv
open Go.RowKit

/-! ### Where the reckoning stops -/
/-- A branch. -/
def Spl (b : Bool) (A B : Prop) : Prop := (b = true → A) ∧ (b = false → B)
theorem Spl.of {b : Bool} {A B : Prop} (h : b = true → A) (k : b = false → B) : Spl b A B := ⟨h, k⟩
theorem Spl.t {b : Bool} {A B : Prop} (e : b = true) (h : A) : Spl b A B := ⟨fun _ => h, (fun h' => by rw [e] at h'; cases h')⟩
theorem Spl.f {b : Bool} {A B : Prop} (e : b = false) (h : B) : Spl b A B := ⟨(fun h' => by rw [e] at h'; cases h'), fun _ => h⟩
/-- What is asked. -/
def Req (p A : Prop) : Prop := p ∧ A
theorem Req.of {p A : Prop} (h : p) (k : A) : Req p A := ⟨h, k⟩
/-- The element at an index. -/
def IdxP (m : Int) (xs : List (List D)) (K : List D → Prop) : Prop := ∃ cs, 0 ≤ m ∧ xs[m.toNat]? = some cs ∧ K cs
theorem IdxP.of {m : Int} {xs : List (List D)} {K : List D → Prop} (cs : List D) (h0 : 0 ≤ m) (h : xs[m.toNat]? = some cs) (k : K cs) : IdxP m xs K := ⟨cs, h0, h, k⟩
/-- The byte at an index. -/
def ByteP (m : Int) (l : List UInt8) (K : UInt8 → Prop) : Prop := ∃ b, 0 ≤ m ∧ l[m.toNat]? = some b ∧ K b
theorem ByteP.of {m : Int} {l : List UInt8} {K : UInt8 → Prop} (b : UInt8) (h0 : 0 ≤ m) (h : l[m.toNat]? = some b) (k : K b) : ByteP m l K := ⟨b, h0, h, k⟩
/-- The cell at an offset. -/
def CellP (off : Nat) (cs : List AV) (K : AV → Prop) : Prop := ∃ v, cs[off]? = some v ∧ K v
theorem CellP.of {off : Nat} {cs : List AV} {K : AV → Prop} (v : AV) (h : cs[off]? = some v) (k : K v) : CellP off cs K := ⟨v, h, k⟩
/-- Cells from an offset on. -/
def CellsP (off n : Nat) (cs : List AV) (K : List AV → Prop) : Prop := ∃ ds, off + n ≤ cs.length ∧ (cs.drop off).take n = ds ∧ K ds
theorem CellsP.of {off n : Nat} {cs : List AV} {K : List AV → Prop} (ds : List AV) (h : off + n ≤ cs.length) (e : (cs.drop off).take n = ds) (k : K ds) : CellsP off n cs K := ⟨ds, h, e, k⟩
/-- A cell of a row's element. -/
def ArrP (off k : Nat) (xs : List (List D)) (K : D → Prop) : Prop := ∃ j l cs v, off = j * k + l ∧ xs[j]? = some cs ∧ cs[l]? = some v ∧ K v
theorem ArrP.of {off k : Nat} {xs : List (List D)} {K : D → Prop} (j l : Nat) (cs : List D) (v : D) (h : off = j * k + l) (h1 : xs[j]? = some cs) (h2 : cs[l]? = some v) (kk : K v) : ArrP off k xs K := ⟨j, l, cs, v, h, h1, h2, kk⟩
/-- Cells of a row's element. -/
def ArrsP (off n k : Nat) (xs : List (List D)) (K : List D → Prop) : Prop := ∃ j l cs ds, off = j * k + l ∧ xs[j]? = some cs ∧ l + n ≤ cs.length ∧ (cs.drop l).take n = ds ∧ K ds
theorem ArrsP.of {off n k : Nat} {xs : List (List D)} {K : List D → Prop} (j l : Nat) (cs ds : List D) (h : off = j * k + l) (h1 : xs[j]? = some cs) (h2 : l + n ≤ cs.length) (h3 : (cs.drop l).take n = ds) (kk : K ds) : ArrsP off n k xs K :=
  ⟨j, l, cs, ds, h, h1, h2, h3, kk⟩
/-- What stands from an offset on. -/
def DropP (off n : Nat) (cs : List D) (K : List D → Prop) : Prop := ∃ ds, cs.drop off = ds ∧ n ≤ ds.length ∧ K ds
theorem DropP.of {off n : Nat} {cs : List D} {K : List D → Prop} (ds : List D) (e : cs.drop off = ds) (h : n ≤ ds.length) (k : K ds) : DropP off n cs K := ⟨ds, e, h, k⟩

/-! ### Types -/
/-- A type's underlying one: told of the program's parts, so that what is reckoned is closed. -/
def und (P : Program) (s : TypeId) : Option TypeDesc := Program.casesOn P fun T fs => Program.underlying ⟨T, fs⟩ s
theorem und_eq (P : Program) (s : TypeId) : und P s = P.underlying s := by cases P; rfl
def inf (P : Program) (s : TypeId) : Option TypeInfo := Program.casesOn P fun T _ => T.info? s
theorem inf_eq (P : Program) (s : TypeId) : inf P s = P.info? s := by cases P; rfl
def aggOf (P : Program) (e : TypeId) : Option Bool := match und P e with
  | some (.struct _) => some true
  | some (.array _ _) => some true
  | some _ => some false
  | none => none
theorem aggOf_run {P : Program} {e : TypeId} {b : Bool} (h : aggOf P e = some b) (w : World) : (isAgg e).run P w = .ok b w := by
  simp only [aggOf, und_eq] at h
  simp only [isAgg, Sem.run_bind]
  split at h
  · next d hd => cases h; simp [run_underlying hd]
  · next d hd => cases h; simp [run_underlying hd]
  · next d h1 h2 hd =>
    cases h
    simp only [run_underlying hd, Result.andThen_ok]
    cases d <;> simp_all
  · cases h
def szOf (P : Program) (e : TypeId) : Option Nat := match inf P e with
  | some i => some i.size
  | none => none
theorem szOf_run {P : Program} {e : TypeId} {n : Nat} (h : szOf P e = some n) (w : World) : (sizeOf e).run P w = .ok n w := by
  simp only [szOf, inf_eq] at h
  split at h
  · next i hi => cases h; simp [sizeOf, typeInfo, hi]
  · cases h
def zeroOf (P : Program) (e : TypeId) : Option Value := match inf P e with
  | some i => i.zero
  | none => none
theorem zeroOf_run {P : Program} {e : TypeId} {z : Value} (h : zeroOf P e = some z) (w : World) : (zeroValue e).run P w = .ok z w := by
  simp only [zeroOf, inf_eq] at h
  split at h
  · next i hi => simp [zeroValue, typeInfo, hi, h]
  · cases h

/-! ### Scalars -/
def kEq : IntKind → IntKind → Bool
  | .i8, .i8 | .i16, .i16 | .i32, .i32 | .i64, .i64 | .u8, .u8 | .u16, .u16 | .u32, .u32 | .u64, .u64 => true
  | _, _ => false
theorem kEq_eq {a b : IntKind} (h : kEq a b = true) : a = b := by cases a <;> cases b <;> first | rfl | cases h

def nilCmp (op : BinOp) (isNil : Bool) (K : Value → Prop) (F : Prop) : Prop := match op with
  | .eql => K (.bool isNil)
  | .neq => K (.bool (!isNil))
  | _ => F

def shlI (k : IntKind) (a b : Int) : Int := k.wrap (a * 2 ^ (min b.toNat k.bits))
def shrI (k : IntKind) (a b : Int) : Int := a.fdiv (2 ^ (min b.toNat k.bits))
def andI (k : IntKind) (a b : Int) : Int := k.wrap (BitVec.ofInt k.bits a &&& BitVec.ofInt k.bits b).toNat
def orI (k : IntKind) (a b : Int) : Int := k.wrap (BitVec.ofInt k.bits a ||| BitVec.ofInt k.bits b).toNat
def xorI (k : IntKind) (a b : Int) : Int := k.wrap (BitVec.ofInt k.bits a ^^^ BitVec.ofInt k.bits b).toNat
/-- Two whole numbers. -/
def intK (op : BinOp) (k k' : IntKind) (a b : Int) (K : Value → Prop) (F : Prop) : Prop := match op with
  | .shl => Req (0 ≤ b) (K (.int k (shlI k a b)))
  | .shr => Req (0 ≤ b) (K (.int k (shrI k a b)))
  | _ => match kEq k k' with
    | false => F
    | true => match op with
      | .add => K (.int k (k.wrap (a + b)))
      | .sub => K (.int k (k.wrap (a - b)))
      | .mul => K (.int k (k.wrap (a * b)))
      | .quo => Req (b ≠ 0) (K (.int k (k.wrap (a.tdiv b))))
      | .rem => Req (b ≠ 0) (K (.int k (a.tmod b)))
      | .and => K (.int k (andI k a b))
      | .or => K (.int k (orI k a b))
      | .xor => K (.int k (xorI k a b))
      | .eql => K (.bool (decide (a = b)))
      | .neq => K (.bool (!decide (a = b)))
      | .lss => K (.bool (decide (a < b)))
      | .leq => K (.bool (decide (a ≤ b)))
      | .gtr => K (.bool (decide (b < a)))
      | .geq => K (.bool (decide (b ≤ a)))
      | _ => F

def binK (P : Program) (op : BinOp) (ot : TypeId) (x y : Value) (K : Value → Prop) (F : Prop) : Prop := match x, y with
  | .int k a, .int k' b => intK op k k' a b K F
  | .string ⟨⟨a⟩⟩, .string ⟨⟨b⟩⟩ => (match op with
    | .add => Req (a.length + b.length ≤ 9223372036854775807) (K (.string ⟨⟨a ++ b⟩⟩))
    | .eql => K (.bool (decide (a = b)))
    | .neq => K (.bool (!decide (a = b)))
    | _ => F)
  | .bool a, .bool b => (match und P ot with
    | some .bool => (match op with
      | .eql => K (.bool (a == b))
      | .neq => K (.bool (!(a == b)))
      | _ => F)
    | _ => F)
  | .pointer none, .pointer none => (match und P ot with
    | some (.pointer _) => nilCmp op true K F
    | _ => F)
  | .nilFunc, .nilFunc => (match und P ot with
    | some (.func _ _ _) => nilCmp op true K F
    | _ => F)
  | .slice none 0 0, .slice none 0 0 => (match und P ot with
    | some (.slice _) => nilCmp op true K F
    | _ => F)
  | .map none, .map none => (match und P ot with
    | some (.map _ _) => nilCmp op true K F
    | _ => F)
  | _, _ => F

theorem bytes_eq (a b : List UInt8) : ((⟨⟨a⟩⟩ : ByteArray).toList == (⟨⟨b⟩⟩ : ByteArray).toList) = decide (a = b) := by
  simp [ByteArray.toList_eq]
  by_cases h : a = b <;> simp [h]

/-- What is reckoned is what is run. -/
def BinRun (P : Program) (op : BinOp) (ot : TypeId) (x y : Value) (v : Value) : Prop := v.oneCell' = true ∧ ∀ (ox oy : Operand) (w : World), (do eqGuard op ot ox oy x y; binOp op ot x y : Sem Value).run P w = .ok v w

theorem intK_sound {P : Program} {op : BinOp} {ot : TypeId} {k k' : IntKind} {a b : Int} {K : Value → Prop} {F : Prop} (h : intK op k k' a b K F) : (∃ v, BinRun P op ot (.int k a) (.int k' b) v ∧ K v) ∨ F := by
  unfold intK at h
  split at h
  · exact .inl ⟨_, ⟨rfl, fun _ _ w => by (have : ¬ b < 0 := (by have := h.1; omega)); simp [eqGuard, binOp, Op.shift, this, shlI, shrI]⟩, h.2⟩
  · exact .inl ⟨_, ⟨rfl, fun _ _ w => by (have : ¬ b < 0 := (by have := h.1; omega)); simp [eqGuard, binOp, Op.shift, this, shlI, shrI]⟩, h.2⟩
  · split at h
    · exact .inr h
    · next hk =>
      obtain rfl := kEq_eq hk
      split at h
      · exact .inl ⟨_, ⟨rfl, fun _ _ w => by simp [eqGuard, binOp, Op.intArith]⟩, h⟩
      · exact .inl ⟨_, ⟨rfl, fun _ _ w => by simp [eqGuard, binOp, Op.intArith]⟩, h⟩
      · exact .inl ⟨_, ⟨rfl, fun _ _ w => by simp [eqGuard, binOp, Op.intArith]⟩, h⟩
      · exact .inl ⟨_, ⟨rfl, fun _ _ w => by simp [eqGuard, binOp, Op.intDiv, h.1]⟩, h.2⟩
      · exact .inl ⟨_, ⟨rfl, fun _ _ w => by simp [eqGuard, binOp, Op.intDiv, h.1]⟩, h.2⟩
      · exact .inl ⟨_, ⟨rfl, fun _ _ w => by simp only [eqGuard, binOp]; simp; rfl⟩, h⟩
      · exact .inl ⟨_, ⟨rfl, fun _ _ w => by simp only [eqGuard, binOp]; simp; rfl⟩, h⟩
      · exact .inl ⟨_, ⟨rfl, fun _ _ w => by simp only [eqGuard, binOp]; simp; rfl⟩, h⟩
      · exact .inl ⟨_, ⟨rfl, fun _ _ w => by simp [eqGuard, binOp, Op.intCmp]; by_cases e : a = b <;> simp [e]⟩, h⟩
      · exact .inl ⟨_, ⟨rfl, fun _ _ w => by simp [eqGuard, binOp, Op.intCmp]; by_cases e : a = b <;> simp [e]⟩, h⟩
      · exact .inl ⟨_, ⟨rfl, fun _ _ w => by simp [eqGuard, binOp, Op.intCmp]⟩, h⟩
      · exact .inl ⟨_, ⟨rfl, fun _ _ w => by simp [eqGuard, binOp, Op.intCmp]⟩, h⟩
      · exact .inl ⟨_, ⟨rfl, fun _ _ w => by simp [eqGuard, binOp, Op.intCmp]⟩, h⟩
      · exact .inl ⟨_, ⟨rfl, fun _ _ w => by simp [eqGuard, binOp, Op.intCmp]⟩, h⟩
      · exact .inr h

theorem nilCmp_sound {P : Program} {op : BinOp} {ot : TypeId} {x y : Value} {b : Bool} {K : Value → Prop} {F : Prop} (h : nilCmp op b K F)
    (he : ∀ (ox oy : Operand) (w : World), (do eqGuard .eql ot ox oy x y; binOp .eql ot x y : Sem Value).run P w = .ok (.bool b) w)
    (hn : ∀ (ox oy : Operand) (w : World), (do eqGuard .neq ot ox oy x y; binOp .neq ot x y : Sem Value).run P w = .ok (.bool (!b)) w) : (∃ v, BinRun P op ot x y v ∧ K v) ∨ F := by
  unfold nilCmp at h
  split at h
  · exact .inl ⟨_, ⟨rfl, he⟩, h⟩
  · exact .inl ⟨_, ⟨rfl, hn⟩, h⟩
  · exact .inr h
section
variable {P : Program} {tt e k : TypeId} {w : World} (n : Nat)
theorem eqn_ptr (hu : P.underlying tt = some (.pointer e)) : (Op.equalIn (n + 1) tt (.pointer none) (.pointer none)).run P w = .ok true w := by simp [Op.equalIn, underlying, hu]
theorem eqn_ptr' {a : Addr} (hu : P.underlying tt = some (.pointer e)) : (Op.equalIn (n + 1) tt (.pointer (some a)) (.pointer none)).run P w = .ok false w := by simp [Op.equalIn, underlying, hu]
theorem eqn_ptr2 {a : Addr} (hu : P.underlying tt = some (.pointer e)) : (Op.equalIn (n + 1) tt (.pointer none) (.pointer (some a))).run P w = .ok false w := by simp [Op.equalIn, underlying, hu]
theorem eqn_func {ps rs : Array TypeId} {b : Bool} (hu : P.underlying tt = some (.func ps rs b)) : (Op.equalIn (n + 1) tt .nilFunc .nilFunc).run P w = .ok true w := by simp [Op.equalIn, underlying, hu]
theorem eqn_func' {ps rs : Array TypeId} {b : Bool} {f : Go.Fn} {xs ys : Array Value} (hu : P.underlying tt = some (.func ps rs b)) : (Op.equalIn (n + 1) tt (.func f xs ys) .nilFunc).run P w = .ok false w := by simp [Op.equalIn, underlying, hu]
theorem eqn_slice {a b : Nat} (hu : P.underlying tt = some (.slice e)) : (Op.equalIn (n + 1) tt (.slice none a b) (.slice none 0 0)).run P w = .ok true w := by simp [Op.equalIn, underlying, hu]
theorem eqn_iface' {ms : Array (String × TypeId)} {ti : TypeId} {v : Value} (hu : P.underlying tt = some (.interface ms)) : (Op.equalIn (n + 1) tt (.iface ti v) .nilIface).run P w = .ok false w := by simp [Op.equalIn, underlying, hu]
theorem eqn_map (hu : P.underlying tt = some (.map k e)) : (Op.equalIn (n + 1) tt (.map none) (.map none)).run P w = .ok true w := by simp [Op.equalIn, underlying, hu]
theorem eqn_map' {b : Nat} (hu : P.underlying tt = some (.map k e)) : (Op.equalIn (n + 1) tt (.map (some b)) (.map none)).run P w = .ok false w := by simp [Op.equalIn, underlying, hu]
end
theorem equal_at {P : Program} {tt : TypeId} {x y : Value} {w : World} : (Op.equal tt x y).run P w = (Op.equalIn (9999 + 1) tt x y).run P w := rfl

theorem binK_sound {P : Program} {op : BinOp} {ot : TypeId} {x y : Value} {K : Value → Prop} {F : Prop} (h : binK P op ot x y K F) : (∃ v, BinRun P op ot x y v ∧ K v) ∨ F := by
  simp only [binK, und_eq] at h
  split at h
  · exact intK_sound h
  · next a b =>
    split at h
    · refine .inl ⟨_, ⟨rfl, fun ox oy w => ?_⟩, h.2⟩
      have h1 := h.1
      have : ¬ ((((⟨⟨a⟩⟩ : ByteArray).size + (⟨⟨b⟩⟩ : ByteArray).size : Nat) : Int) > IntKind.i64.max) := by
        have : IntKind.i64.max = 9223372036854775807 := by decide
        simp only [ByteArray.size, List.size_toArray]
        omega
      have e : (⟨⟨a⟩⟩ : ByteArray) ++ ⟨⟨b⟩⟩ = ⟨⟨a ++ b⟩⟩ := by
        apply ByteArray.ext
        simp [ByteArray.data_append]
      simp only [eqGuard, binOp, Op.stringOp, this, if_false, e]
      simp
    · exact .inl ⟨_, ⟨rfl, fun ox oy w => by simp [eqGuard, binOp, Op.stringOp, ByteArray.toList_eq]; by_cases e : a = b <;> simp [e]⟩, h⟩
    · exact .inl ⟨_, ⟨rfl, fun ox oy w => by simp [eqGuard, binOp, Op.stringOp, ByteArray.toList_eq]; by_cases e : a = b <;> simp [e]⟩, h⟩
    · exact .inr h
  · next a b =>
    split at h
    · next hu =>
      have he : ∀ w, (Op.equal ot (.bool a) (.bool b)).run P w = .ok (a == b) w := fun w => by rw [equal_at]; exact run_equalIn_bool' w _ ot a b hu
      split at h
      · exact .inl ⟨_, ⟨rfl, fun ox oy w => by simp [eqGuard, binOp, he]⟩, h⟩
      · exact .inl ⟨_, ⟨rfl, fun ox oy w => by simp [eqGuard, binOp, he]⟩, h⟩
      · exact .inr h
    · exact .inr h
  · split at h
    · next hu =>
      have he : ∀ w, (Op.equal ot _ _).run P w = .ok true w := fun w => equal_at.trans (eqn_ptr 9999 hu)
      exact nilCmp_sound h (fun ox oy w => by simp [eqGuard, binOp, he]) (fun ox oy w => by simp [eqGuard, binOp, he])
    · exact .inr h
  · split at h
    · next hu =>
      have he : ∀ w, (Op.equal ot _ _).run P w = .ok true w := fun w => equal_at.trans (eqn_func 9999 hu)
      exact nilCmp_sound h (fun ox oy w => by simp [eqGuard, binOp, he]) (fun ox oy w => by simp [eqGuard, binOp, he])
    · exact .inr h
  · split at h
    · next hu =>
      have he : ∀ w, (Op.equal ot _ _).run P w = .ok true w := fun w => equal_at.trans (eqn_slice (a := 0) (b := 0) 9999 hu)
      exact nilCmp_sound h (fun ox oy w => by simp [eqGuard, binOp, he]) (fun ox oy w => by simp [eqGuard, binOp, he])
    · exact .inr h
  · split at h
    · next hu =>
      have he : ∀ w, (Op.equal ot _ _).run P w = .ok true w := fun w => equal_at.trans (eqn_map 9999 hu)
      exact nilCmp_sound h (fun ox oy w => by simp [eqGuard, binOp, he]) (fun ox oy w => by simp [eqGuard, binOp, he])
    · exact .inr h
  · exact .inr h
end Go.Gv
