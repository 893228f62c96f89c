/- What an operation yields, reckoned: the operations one by one. -/
import Derived.Test.YthfemmcodfajaaaDoorG6
set_option linter.unusedVariables false
set_option linter.unusedSimpArgs false
namespace Go.Gv
open Go.RowKit

abbrev rd (K : AV → Prop) : Value → Prop := fun v => K (.d (.v v))

/-- A pointer, function, map, interface that is not nil, and nil of its kind. -/
def nilOk : AV → Value → Bool
  | .d (.ptr _), .pointer none => true
  | .box _ _, .pointer none => true
  | .boxX _ _, .pointer none => true
  | .d (.fn _ _), .nilFunc => true
  | .fnp _ _, .nilFunc => true
  | .d (.mp _ _ _), .map none => true
  | .mp _, .map none => true
  | .d (.ifc _ _), .nilIface => true
  | .d (.ifa _ _), .nilIface => true
  | _, _ => false
def nilK (P : Program) (op : BinOp) (ot : TypeId) : Value → (Value → Prop) → Prop → Prop
  | .pointer none, K, F => (match und P ot with | some (.pointer _) => nilCmp op false K F | _ => F)
  | .nilFunc, K, F => (match und P ot with | some (.func _ _ _) => nilCmp op false K F | _ => F)
  | .map none, K, F => (match und P ot with | some (.map _ _) => nilCmp op false K F | _ => F)
  | .nilIface, K, F => (match und P ot with | some (.interface _) => nilCmp op false K F | _ => F)
  | _, _, F => F

def qBin (X : Cx) (op : BinOp) (ot : TypeId) (x y : Operand) (t : T) (K : AV → Prop) (F : Prop) : Prop :=
  match ge t x, ge t y with
  | some (.d (.v a)), some (.d (.v b)) => binK X.P op ot a b (rd K) F
  | some a, some (.d (.v b)) => (match nilOk a b with | true => nilK X.P op ot b (rd K) F | false => F)
  | _, _ => F

def qUn (op : UnOp) (x : Operand) (t : T) (K : AV → Prop) (F : Prop) : Prop :=
  match ge t x with
  | some (.d (.v (.int k a))) => (match op with
    | .neg => rd K (.int k (k.wrap (0 - a)))
    | _ => F)
  | some (.d (.v (.bool b))) => (match op with
    | .not => rd K (.bool (!b))
    | _ => F)
  | _ => F

def qConv (X : Cx) (src dst : TypeId) (x : Operand) (t : T) (K : AV → Prop) (F : Prop) : Prop :=
  match und X.P src, und X.P dst, ge t x with
  | some _, some (.int k), some (.d (.v (.int _ a))) => rd K (.int k (k.wrap a))
  | some _, some (.float k), some (.d (.v (.int _ a))) => rd K (.float k (k.nearest a))
  | some _, some .string, some (.d (.v (.int _ a))) => rd K (.string ⟨⟨(Utf8.encode a).data.toList⟩⟩)
  | some _, some .string, some (.d (.v (.string s))) => rd K (.string s)
  | _, _, _ => F

/-- What is written over a list's part. -/
def overL {α : Type} : List α → List α → List α
  | l, [] => l
  | [], _ :: _ => []
  | _ :: l, v :: vs => v :: overL l vs
def setF {α : Type} : List α → Nat → List α → List α
  | l, 0, vs => overL l vs
  | [], _ + 1, _ => []
  | a :: l, n + 1, vs => a :: setF l n vs
theorem setL_cons {α : Type} (a : α) : ∀ (vs l : List α) (p : Nat), setL (a :: l) (p + 1) vs = a :: setL l p vs
  | [], l, p => rfl
  | v :: vs, l, p => by
    show setL ((a :: l).set (p + 1) v) (p + 1 + 1) vs = a :: setL (l.set p v) (p + 1) vs
    rw [List.set_cons_succ, setL_cons a vs]
theorem setL_nil {α : Type} : ∀ (vs : List α) (p : Nat), setL ([] : List α) p vs = []
  | [], p => rfl
  | v :: vs, p => by show setL (([] : List α).set p v) (p + 1) vs = []; rw [List.set_nil, setL_nil vs]
theorem overL_eq {α : Type} : ∀ (l vs : List α), overL l vs = setL l 0 vs
  | [], [] => rfl
  | _ :: _, [] => rfl
  | [], v :: vs => by rw [setL_nil]; rfl
  | a :: l, v :: vs => by
    show v :: overL l vs = setL ((a :: l).set 0 v) 1 vs
    rw [List.set_cons_zero, setL_cons, overL_eq]
theorem setF_eq {α : Type} : ∀ (l : List α) (p : Nat) (vs : List α), setF l p vs = setL l p vs
  | l, 0, vs => by cases l <;> exact overL_eq _ _
  | [], p + 1, vs => by rw [setL_nil]; rfl
  | a :: l, p + 1, vs => by rw [setL_cons, ← setF_eq l p vs]; rfl
/-- The first of a list, told one by one. -/
def frcN {α : Type} : Nat → List α → (List α → Prop) → Prop
  | 0, l, K => K l
  | _ + 1, [], K => K []
  | n + 1, a :: l, K => frcN n l fun l' => K (a :: l')
theorem frcN_eq {α : Type} : ∀ (n : Nat) (l : List α) (K : List α → Prop), frcN n l K = K l
  | 0, l, K => rfl
  | _ + 1, [], K => rfl
  | n + 1, a :: l, K => frcN_eq n l _
def qLoad (X : Cx) (e : TypeId) (x : Operand) (t : T) (σ : Sg) (K : AV → Prop) (F : Prop) : Prop :=
  match aggOf X.P e, szOf X.P e, ge t x with
  | some false, some _, some (.box i off) => (match look i σ with
    | some (.cells cs) => (match cs[off]? with
      | some v => K v
      | none => F)
    | _ => F)
  | some true, some n, some (.box i off) => (match look i σ with
    | some (.cells cs) => (match Nat.ble (off + n) cs.length with
      | true => frcN n ((cs.drop off).take n) fun l => K (.agg l)
      | false => F)
    | _ => F)
  | some false, some _, some (.boxX i off) => (match look i σ with
    | some (.cells cs) => CellP off cs K
    | some (.arr k xs) => ArrP off k xs fun v => K (.d v)
    | _ => F)
  | some true, some n, some (.boxX i off) => (match look i σ with
    | some (.cells cs) => CellsP off n cs fun ds => K (.agg ds)
    | some (.arr k xs) => ArrsP off n k xs fun ds => K (.agg (ds.map .d))
    | _ => F)
  | some false, some _, some (.d (.ptr cs)) => (match cs with
    | v :: _ => K (.d v)
    | [] => F)
  | some true, some n, some (.d (.ptr cs)) => (match Nat.ble n cs.length with
    | true => frcN n ((cs.take n).map .d) fun l => K (.agg l)
    | false => F)
  | _, _, _ => F

def qFieldAddr (X : Cx) (s : TypeId) (x : Operand) (fld : Nat) (t : T) (K : AV → Prop) (F : Prop) : Prop :=
  match und X.P s with
  | some (.struct fs) => (match fs[fld]? with
    | some f => (match szOf X.P f.type with
      | some (_ + 1) => (match ge t x with
        | some (.d (.ptr cs)) => K (.d (.ptr (cs.drop f.offset)))
        | some (.box i off) => K (.box i (off + f.offset))
        | some (.boxX i off) => K (.boxX i (off + f.offset))
        | _ => F)
      | _ => F)
    | none => F)
  | _ => F

def qField (X : Cx) (s : TypeId) (x : Operand) (fld : Nat) (t : T) (K : AV → Prop) (F : Prop) : Prop :=
  match und X.P s with
  | some (.struct fs) => (match fs[fld]? with
    | some f => (match aggOf X.P f.type, szOf X.P f.type, ge t x with
      | some false, _, some (.agg cs) => (match cs[f.offset]? with
        | some v => K v
        | none => F)
      | some true, some n, some (.agg cs) => (match Nat.ble (f.offset + n) cs.length with
        | true => K (.agg ((cs.drop f.offset).take n))
        | false => F)
      | _, _, _ => F)
    | none => F)
  | _ => F

def litIx : Operand → Option Nat
  | .const (.int _ (.ofNat n)) => some n
  | _ => none
def qIndexAddr (X : Cx) (s : TypeId) (x y : Operand) (t : T) (K : AV → Prop) (F : Prop) : Prop :=
  match und X.P s, ge t x, ge t y with
  | some (.slice e), some a, some (.d (.v (.int _ m))) => (match szOf X.P e with
    | some k => (match a with
      | .d (.sl k' xs) => (match Nat.beq k k' with | true => IdxP m xs fun cs => K (.d (.ptr cs)) | false => F)
      | .full k' xs => (match Nat.beq k k' with | true => IdxP m xs fun cs => K (.d (.ptr cs)) | false => F)
      | .arr i k' n => (match Nat.beq k k' with | true => Req (0 ≤ m ∧ m < (n : Int)) (K (.boxX i (m.toNat * k))) | false => F)
      | _ => F)
    | none => F)
  | some (.array n e), some a, some (.d (.v (.int _ m))) => (match szOf X.P e with
    | some k => (match a, litIx y with
      | .box i off, some j => (match Nat.blt j n with | true => K (.box i (off + j * k)) | false => F)
      | .box i off, none => Req (0 ≤ m ∧ m < (n : Int)) (K (.boxX i (off + m.toNat * k)))
      | .boxX i off, _ => Req (0 ≤ m ∧ m < (n : Int)) (K (.boxX i (off + m.toNat * k)))
      | .d (.ptr cs), some j => (match Nat.blt j n with | true => K (.d (.ptr (cs.drop (j * k)))) | false => F)
      | .d (.ptr cs), none => Req (0 ≤ m ∧ m < (n : Int)) (DropP (m.toNat * k) k cs fun ds => K (.d (.ptr ds)))
      | _, _ => F)
    | none => F)
  | _, _, _ => F

def qIndex (X : Cx) (s : TypeId) (x y : Operand) (t : T) (K : AV → Prop) (F : Prop) : Prop :=
  match und X.P s, ge t x, ge t y with
  | some .string, some (.d (.v (.string ⟨⟨l⟩⟩))), some (.d (.v (.int _ m))) => ByteP m l fun b => rd K (.int .u8 b.toNat)
  | some (.array n e), some (.agg cs), some (.d (.v (.int _ m))) => (match aggOf X.P e, szOf X.P e with
    | some false, some k => Req (0 ≤ m ∧ m < (n : Int)) (CellP (m.toNat * k) cs K)
    | some true, some k => Req (0 ≤ m ∧ m < (n : Int)) (CellsP (m.toNat * k) k cs fun ds => K (.agg ds))
    | _, _ => F)
  | _, _, _ => F

def qNil (x : Operand) (t : T) (K : AV → Prop) (F : Prop) : Prop :=
  match ge t x with
  | some (.box i off) => K (.box i off)
  | some (.boxX i off) => K (.boxX i off)
  | some (.d (.ptr cs)) => K (.d (.ptr cs))
  | some (.d (.fn f cs)) => K (.d (.fn f cs))
  | some (.fnp f cs) => K (.fnp f cs)
  | _ => F

def qExtract (x : Operand) (ix : Nat) (t : T) (K : AV → Prop) (F : Prop) : Prop :=
  match ge t x with
  | some (.tup vs) => (match vs[ix]? with
    | some v => K v
    | none => F)
  | _ => F

def dOf : AV → Option D
  | .d x => some x
  | .full k xs => some (.sl k xs)
  | _ => none
theorem dOf_sound {γ : Ids} {H : HF} {a : AV} {x : D} {u : Value} (h : dOf a = some x) (r : Rep γ H a u) : RepD H x u := by
  cases r with
  | d y u hr => simp only [dOf, Option.some.injEq] at h; subst h; exact hr
  | full k xs A hr => simp only [dOf, Option.some.injEq] at h; subst h; exact hr
  | _ => simp [dOf] at h
def dAll : List AV → Option (List D)
  | [] => some []
  | a :: r => match dOf a with
    | some x => match dAll r with
      | some s => some (x :: s)
      | none => none
    | none => none
theorem dAll_get : ∀ {cs : List AV} {ds : List D}, dAll cs = some ds → ds.length = cs.length ∧ ∀ (j : Nat) (x : D), ds[j]? = some x → ∃ a, cs[j]? = some a ∧ dOf a = some x
  | [], ds, h => by simp only [dAll, Option.some.injEq] at h; subst h; simp
  | a :: r, ds, h => by
    simp only [dAll] at h
    split at h
    · next x hx =>
      split at h
      · next s hs =>
        simp only [Option.some.injEq] at h; subst h
        obtain ⟨h1, h2⟩ := dAll_get hs
        refine ⟨by simp [h1], fun j y hy => ?_⟩
        cases j with
        | zero => simp at hy; subst hy; exact ⟨a, rfl, hx⟩
        | succ j => simpa using h2 j y (by simpa using hy)
      · cases h
    · cases h
theorem dAll_rep {γ : Ids} {H : HF} {cs : List AV} {ds : List D} {us : List Value} (h : dAll cs = some ds) (hl : us.length = cs.length) (hr : ∀ (j : Nat) (a : AV) (u : Value), cs[j]? = some a → us[j]? = some u → Rep γ H a u) :
    us.length = ds.length ∧ ∀ (j : Nat) (a : D) (u : Value), ds[j]? = some a → us[j]? = some u → RepD H a u := by
  obtain ⟨h1, h2⟩ := dAll_get h
  refine ⟨by omega, fun j a u ha hu => ?_⟩
  obtain ⟨x, hx, hd⟩ := h2 j a ha
  exact dOf_sound hd (hr j x u hx hu)

def qIface (X : Cx) (xt : TypeId) (x : Operand) (t : T) (K : AV → Prop) (F : Prop) : Prop :=
  match und X.P xt with
  | some (.interface _) => F
  | some _ => (match ge t x with
    | some (.d v) => K (.d (.ifc xt v))
    | some (.agg cs) => (match dAll cs with
      | some ds => K (.d (.ifa xt ds))
      | none => F)
    | _ => F)
  | none => F

def qFunc (fn : Go.Fn) (first caps : Array Operand) (t : T) (K : AV → Prop) (F : Prop) : Prop :=
  match fn, first with
  | .func f, ⟨[]⟩ => (match geAll t caps.toList with
    | some as => (match dAll as with
      | some ds => K (.d (.fn f ds))
      | none => K (.fnp f as))
    | none => F)
  | _, _ => F

def qAssert (X : Cx) (x : Operand) (as : TypeId) (ok : Bool) (t : T) (K : AV → Prop) (F : Prop) : Prop :=
  match und X.P as, zeroOf X.P as with
  | some (.interface _), _ => F
  | some _, some z => (match ge t x with
    | some (.d (.ifc tt v)) => (match Nat.beq tt as, ok with
      | true, true => K (.tup [.d v, .d (.v (.bool true))])
      | true, false => K (.d v)
      | false, true => K (.tup [ofConst z, .d (.v (.bool false))])
      | false, false => F)
    | some (.d (.ifa tt cs)) => (match Nat.beq tt as, ok with
      | true, true => K (.tup [.agg (cs.map .d), .d (.v (.bool true))])
      | true, false => K (.agg (cs.map .d))
      | false, true => K (.tup [ofConst z, .d (.v (.bool false))])
      | false, false => F)
    | some (.d (.v .nilIface)) => (match ok with
      | true => K (.tup [ofConst z, .d (.v (.bool false))])
      | false => F)
    | _ => F)
  | _, _ => F

def qBuiltin (X : Cx) (b : Builtin) (args : Array Operand) (tys : Array TypeId) (t : T) (K : AV → Prop) (F : Prop) : Prop :=
  match b, args, tys with
  | .len, ⟨[x]⟩, ⟨[tt]⟩ => (match und X.P tt, ge t x with
    | some (.slice _), some a => (match lenAV a with
      | some n => rd K (.int .i64 n)
      | none => F)
    | some .string, some (.d (.v (.string ⟨⟨l⟩⟩))) => rd K (.int .i64 l.length)
    | some (.array n _), some _ => rd K (.int .i64 n)
    | _, _ => F)
  | .max, ⟨[x, y]⟩, _ => (match ge t x, ge t y with
    | some (.d (.v (.int k a))), some (.d (.v (.int _ b))) => rd K (.int k (if b > a then b else a))
    | _, _ => F)
  | .min, ⟨[x, y]⟩, _ => (match ge t x, ge t y with
    | some (.d (.v (.int k a))), some (.d (.v (.int _ b))) => rd K (.int k (if b < a then b else a))
    | _, _ => F)
  | .real, ⟨[x]⟩, _ => (match ge t x with
    | some (.d (.v (.complex k re _))) => rd K (.float k re)
    | _ => F)
  | .imag, ⟨[x]⟩, _ => (match ge t x with
    | some (.d (.v (.complex k _ im))) => rd K (.float k im)
    | _ => F)
  | _, _, _ => F

/-- Bounds of a slice expression. -/
def loV (t : T) : Option Operand → Option Int
  | none => some 0
  | some o => match ge t o with
    | some (.d (.v (.int _ l))) => some l
    | _ => none
def hiV (t : T) (n : Nat) : Option Operand → Option Int
  | none => some n
  | some o => match ge t o with
    | some (.d (.v (.int _ l))) => some l
    | _ => none
def qSlice (X : Cx) (st : TypeId) (x : Operand) (lo hi mx : Option Operand) (t : T) (K : AV → Prop) (F : Prop) : Prop :=
  match und X.P st, ge t x, mx with
  | some .string, some (.d (.v (.string ⟨⟨s⟩⟩))), none => (match loV t lo, hiV t s.length hi with
    | some l, some h => Req (0 ≤ l ∧ l ≤ h ∧ h ≤ (s.length : Int)) (rd K (.string ⟨⟨(s.take h.toNat).drop l.toNat⟩⟩))
    | _, _ => F)
  | some (.slice e), some a, none => (match elems a, szOf X.P e with
    | some (k, xs), some k' => (match Nat.beq k k', loV t lo, hiV t xs.length hi with
      | true, some l, some h => Req (0 ≤ l ∧ l ≤ h ∧ h ≤ (xs.length : Int)) (K (.d (.sl k ((xs.take h.toNat).drop l.toNat))))
      | _, _, _ => F)
    | _, _ => F)
  | some (.slice e), some a, some m => (match elems a, szOf X.P e with
    | some (k, xs), some k' => (match Nat.beq k k', loV t lo, hi, ge t m with
      | true, some l, some ho, some (.d (.v (.int _ mm))) => (match ge t ho with
        | some (.d (.v (.int _ h))) => Req (0 ≤ l ∧ l ≤ h ∧ h ≤ (xs.length : Int) ∧ mm = h) (K (.full k ((xs.take h.toNat).drop l.toNat)))
        | _ => F)
      | _, _, _, _ => F)
    | _, _ => F)
  | _, _, _ => F

/-- What is yielded, told on; F: it is not told here. -/
def qv (X : Cx) (o : Oper) (t : T) (σ : Sg) (K : AV → Prop) (F : Prop) : Prop :=
  match o.op with
  | .move x => (match ge t x with | some v => K v | none => F)
  | .assign x => (match ge t x with | some v => K v | none => F)
  | .pick c x y => (match ge t c with
    | some (.d (.v (.bool true))) => (match ge t x with | some v => K v | none => F)
    | some (.d (.v (.bool false))) => (match ge t y with | some v => K v | none => F)
    | _ => F)
  | .binOp op ot x y _ => qBin X op ot x y t K F
  | .unOp op _ x => qUn op x t K F
  | .convert src dst x => qConv X src dst x t K F
  | .load e x => qLoad X e x t σ K F
  | .fieldAddr s x f => qFieldAddr X s x f t K F
  | .field s x f => qField X s x f t K F
  | .indexAddr s x y => qIndexAddr X s x y t K F
  | .index s x y => qIndex X s x y t K F
  | .nilCheck x => qNil x t K F
  | .extract x ix => qExtract x ix t K F
  | .makeInterface xt x => qIface X xt x t K F
  | .makeFunc fn first caps => qFunc fn first caps t K F
  | .typeAssert x _ as ok => qAssert X x as ok t K F
  | .slice st x lo hi mx => qSlice X st x lo hi mx t K F
  | .call ⟨.builtin b, args, tys⟩ => qBuiltin X b args tys t K F
  | _ => F
end Go.Gv
