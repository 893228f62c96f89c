/- Structs: literals and their comparison; strings of bytes. -/
import Derived.Test.YthfemmcodfajaaaDoorFwN
import Derived.Laws.StructEq
import Derived.Laws.BytesString
set_option linter.unusedVariables false
set_option linter.unusedSimpArgs false
namespace Go.Sv
open Go.RowKit

section
variable {X : Cx} {d : Option Nat} {ty : TypeId} {pos : String} {aft : Array Edge} {g : Option (Nat × Bool)} {t : T} {σ : Sg}

theorem sizeOf_cells {P : Program} {t : TypeId} (h : (P.info? t).isSome = true) (w : World) : (sizeOf t).run P w = .ok (P.cellsOf t) w := by
  cases hi : P.info? t with
  | none => rw [hi] at h; cases h
  | some i => simp [sizeOf, typeInfo, Program.cellsOf, hi]
theorem places_run {P : Program} {w : World} : ∀ (fs : List Field), (fs.all fun f => (P.info? f.type).isSome) = true →
    (fs.mapM fun f => do pure (f.offset, ← sizeOf f.type) : Sem (List (Nat × Nat))).run P w = .ok (fs.map fun f => (f.offset, P.cellsOf f.type)) w
  | [], _ => by simp
  | f :: fs, h => by
    simp only [List.all_cons, Bool.and_eq_true] at h
    have ih := places_run (w := w) fs h.2
    simp only [List.mapM_cons, Sem.run_bind, sizeOf_cells h.1, Result.andThen_ok, Sem.run_pure, ih, List.map_cons]

/-- A struct's literal. -/
theorem O.build {s : TypeId} {fs : Array Field} {parts : Array (Nat × Operand)} {z : Value} {ps : List (Nat × AV)} {cs : List AV} (hp : geParts t parts.toList = some ps) (hu : X.P.underlying s = some (.struct fs))
    (hzv : ∀ w, (zeroValue s).run X.P w = .ok z w) (hpl : (fs.toList.all fun f => (X.P.info? f.type).isSome) = true)
    (hf : fillAV (fun i => ((fs.toList.map fun f => (f.offset, X.P.cellsOf f.type)))[i]?) (z.cells.toList.map cellAV) ps = some cs) : QJ X ⟨d, .build s parts, ty, pos, aft, g⟩ t σ (.agg cs) :=
  QJ.value (by simp) (fun γ H a w so sm => by
    obtain ⟨h1, h2⟩ := geParts_sound (t := t) (l := parts.toList) (fun x hx => so x (by simp [Op.operands] at hx ⊢; exact hx)) hp
    obtain ⟨us', e1, e2, e3⟩ := fill_sound (γ := γ) (H := H) ps _ (z.cells.toList.map cellAV) z.cells.toList (by simp) (fun j x y hx hy => by
      simp only [List.getElem?_map, hy, Option.map_some, Option.some.injEq] at hx
      subst hx; exact rep_cellAV y) h1 h2 hf
    simp only [Array.toArray_toList] at e1
    refine ⟨.agg us'.toArray, ?_, .agg _ _ e2 e3⟩
    have e : parts.map (fun (i, x) => (i, a.eval x)) = (parts.toList.map fun p => (p.1, a.eval p.2)).toArray := by
      apply Array.toList_inj.1; simp
    simp only [execOp, Sem.run_bind, e, Instr.build, hzv, Result.andThen_ok, run_underlying hu]
    have hpl' := places_run (w := w) _ hpl
    have hpa : (fs.mapM fun f => do pure (f.offset, ← sizeOf f.type) : Sem (Array (Nat × Nat))).run X.P w = .ok (fs.toList.map fun f => (f.offset, X.P.cellsOf f.type)).toArray w := by
      rw [Array.mapM_eq_mapM_toList]
      simp only [Sem.run_map, hpl', Result.andThen_ok]
    rw [hpa]
    simp only [Result.andThen_ok, List.getElem?_toArray, e1, Sem.run_pure])

/-! ### Comparison of structs of scalars -/
def veq : Value → Value → Bool
  | .int _ a, .int _ b => a == b
  | .bool a, .bool b => a == b
  | .string a, .string b => a.toList == b.toList
  | _, _ => false
def valsOf : List AV → Option (List Value)
  | [] => some []
  | .d (.v x) :: r => match valsOf r with
    | some l => some (x :: l)
    | none => none
  | _ :: _ => none
theorem valsOf_rep {γ : Ids} {H : HF} : ∀ {cs : List AV} {xs us : List Value}, valsOf cs = some xs → us.length = cs.length → (∀ (j : Nat) (a : AV) (u : Value), cs[j]? = some a → us[j]? = some u → Rep γ H a u) → us = xs
  | [], xs, us, h, hl, _ => by
    simp only [valsOf, Option.some.injEq] at h; subst h
    exact List.length_eq_zero_iff.1 hl
  | .d (.v x) :: r, xs, u :: us, h, hl, hr => by
    simp only [valsOf] at h
    split at h
    · next l hl' =>
      simp only [Option.some.injEq] at h; subst h
      have h8 := rep_v (hr 0 _ u rfl rfl)
      have h9 := valsOf_rep (us := us) hl' (by simpa using hl) fun j a u h1 h2 => hr (j + 1) a u (by simpa using h1) (by simpa using h2)
      rw [h8, h9]
    · cases h
  | _ :: _, _, [], _, hl, _ => by simp at hl
  | .d (.sl ..) :: _, _, _, h, _, _ | .d (.ptr ..) :: _, _, _, h, _, _ | .d (.fn ..) :: _, _, _, h, _, _ | .d (.ifc ..) :: _, _, _, h, _, _ | .d (.ifa ..) :: _, _, _, h, _, _ => by simp [valsOf] at h
  | .own .. :: _, _, _, h, _, _ | .box .. :: _, _, _, h, _, _ | .arr .. :: _, _, _, h, _, _ | .fnp .. :: _, _, _, h, _, _ | .agg .. :: _, _, _, h, _, _ | .tup .. :: _, _, _, h, _, _ | .mp .. :: _, _, _, h, _, _ | .junk :: _, _, _, h, _, _ => by simp [valsOf] at h

/-- Each field is a scalar of the two values' kind. -/
def eqFit (P : Program) (xs ys : List Value) : List Field → Bool
  | [] => true
  | f :: fs => (match P.underlying f.type, xs[f.offset]?, ys[f.offset]? with
    | some (.int _), some (.int k _), some (.int k' _) => decide (k = k')
    | some .bool, some (.bool _), some (.bool _) => true
    | some .string, some (.string _), some (.string _) => true
    | _, _, _ => false) && eqFit P xs ys fs
def eqRes (xs ys : List Value) : List Field → Bool
  | [] => true
  | f :: fs => (if f.name = "_" then true else match xs[f.offset]?, ys[f.offset]? with
    | some x, some y => veq x y
    | _, _ => false) && eqRes xs ys fs

theorem isAgg_of {P : Program} {e : TypeId} {d : TypeDesc} (h : P.underlying e = some d) (hd : (match d with | .struct _ => true | .array _ _ => true | _ => false) = false) (w : World) : (isAgg e).run P w = .ok false w := by
  simp only [isAgg, Sem.run_bind, run_underlying h, Result.andThen_ok]
  cases d <;> simp_all

theorem eqFields_run {P : Program} {w : World} {d : Nat} {xs ys : List Value} : ∀ (fs : List Field), eqFit P xs ys fs = true → (Op.eqFields (d + 1) xs.toArray ys.toArray fs).run P w = .ok (eqRes xs ys fs) w
  | [], _ => by simp [Op.eqFields, eqRes]
  | f :: fs, h => by
    simp only [eqFit, Bool.and_eq_true] at h
    have ih := eqFields_run fs h.2 (w := w) (d := d)
    have one : ∃ x y, xs[f.offset]? = some x ∧ ys[f.offset]? = some y ∧ (part f.type xs.toArray f.offset).run P w = .ok x w ∧ (part f.type ys.toArray f.offset).run P w = .ok y w ∧ (Op.equalIn (d + 1) f.type x y).run P w = .ok (veq x y) w := by
      have h1 := h.1
      split at h1
      · next k' k a k2 b hu hx hy =>
        have : k = k2 := of_decide_eq_true h1
        subst this
        exact ⟨_, _, hx, hy, part_one (isAgg_of hu rfl) _ _ _ w (by simpa using hx), part_one (isAgg_of hu rfl) _ _ _ w (by simpa using hy), run_equalIn_int w d _ k _ a b hu⟩
      · next a b hu hx hy => exact ⟨_, _, hx, hy, part_one (isAgg_of hu rfl) _ _ _ w (by simpa using hx), part_one (isAgg_of hu rfl) _ _ _ w (by simpa using hy), run_equalIn_bool' w d _ a b hu⟩
      · next a b hu hx hy => exact ⟨_, _, hx, hy, part_one (isAgg_of hu rfl) _ _ _ w (by simpa using hx), part_one (isAgg_of hu rfl) _ _ _ w (by simpa using hy), run_equalIn_string w d _ a b hu⟩
      · cases h1
    obtain ⟨x, y, hx, hy, px, py, pe⟩ := one
    simp only [Op.eqFields, eqRes, hx, hy]
    by_cases hn : f.name = "_"
    · simp [hn, ih]
    · simp only [hn, ne_eq, not_false_eq_true, if_true, if_false, Sem.run_bind, px, py, pe, Result.andThen_ok]
      cases veq x y with
      | true => simpa using ih
      | false => simp

theorem O.eqS {tt yt : TypeId} {x y : Operand} {as bs : List AV} {xs ys : List Value} {fs : Array Field} {r : Bool} (hx : ge t x = some (.agg as)) (hy : ge t y = some (.agg bs)) (hxs : valsOf as = some xs) (hys : valsOf bs = some ys)
    (hu : X.P.underlying tt = some (.struct fs)) (hp : X.P.stoodInHeld tt = false) (hg : X.P.eqGuardType X.P.depth tt = false) (hfit : eqFit X.P xs ys fs.toList = true) (hr : eqRes xs ys fs.toList = r) :
    QJ X ⟨d, .binOp .eql tt x y yt, ty, pos, aft, g⟩ t σ (.d (.v (.bool r))) :=
  QJ.value (by simp) (fun γ H a w so sm => by
    have h1 := so _ (by simp [Op.operands]) _ hx
    have h2 := so _ (by simp [Op.operands]) _ hy
    refine ⟨.bool r, ?_, .d _ _ (.v _ rfl)⟩
    generalize hq1 : a.eval x = q1 at h1
    generalize hq2 : a.eval y = q2 at h2
    cases h1 with
    | agg _ us hl1 hr1 =>
    cases h2 with
    | agg _ vs hl2 hr2 =>
    have e1 := valsOf_rep hxs hl1 hr1
    have e2 := valsOf_rep hys hl2 hr2
    subst e1; subst e2
    have hfs : X.P.fieldsOf tt = fs := by simp [Program.fieldsOf, hu]
    have h3 := run_equalIn_struct (P := X.P) w 9999 tt us.toArray vs.toArray (by rw [hfs]; exact hu) hp
    rw [hfs, eqFields_run (d := 9998) _ hfit, hr] at h3
    simp only [execOp, hq1, hq2, Sem.run_bind, run_eql_struct, run_eqGuard_agg w _ _ _ _ _ _ hg, Result.andThen_ok, h3, Sem.run_pure])

/-! ### Strings -/
theorem O.strAdd {tt yt : TypeId} {x y : Operand} {a b : ByteArray} (hx : ge t x = some (.d (.v (.string a)))) (hy : ge t y = some (.d (.v (.string b)))) (hl : a.size + b.size ≤ 9223372036854775807) :
    QJ X ⟨d, .binOp .add tt x y yt, ty, pos, aft, g⟩ t σ (.d (.v (.string (a ++ b)))) :=
  O.bin hx hy (fun w => by
    have : ¬ (((a.size + b.size : Nat) : Int) > IntKind.i64.max) := by
      have : IntKind.i64.max = 9223372036854775807 := by decide
      omega
    simp [eqGuard, binOp, Op.stringOp]; omega) rfl

def bytesOf : List (List D) → Option (List Int)
  | [] => some []
  | [.v (.int .u8 n)] :: r => match bytesOf r with
    | some l => some (n :: l)
    | none => none
  | _ :: _ => none
theorem bytesOf_get : ∀ {xs : List (List D)} {ns : List Int}, bytesOf xs = some ns → ns.length = xs.length ∧ ∀ (j : Nat) (n : Int), ns[j]? = some n → xs[j]? = some [.v (.int .u8 n)]
  | [], ns, h => by simp only [bytesOf, Option.some.injEq] at h; subst h; simp
  | x :: r, ns, h => by
    unfold bytesOf at h
    split at h
    · next he => cases he
    · next n r' he =>
      simp only [List.cons.injEq] at he
      obtain ⟨rfl, rfl⟩ := he
      split at h
      · next l hl =>
        simp only [Option.some.injEq] at h; subst h
        obtain ⟨h1, h2⟩ := bytesOf_get hl
        refine ⟨by simp [h1], fun j m hm => ?_⟩
        cases j with
        | zero => simp at hm; subst hm; rfl
        | succ j => simpa using h2 j m (by simpa using hm)
      · cases h
    · cases h
def strOf (ns : List Int) : ByteArray := ⟨(ns.map fun n => UInt8.ofNat n.toNat).toArray⟩
theorem foldl_push (ns : List Int) : ∀ (s : ByteArray), ns.foldl (fun r n => r.push (UInt8.ofNat n.toNat)) s = ⟨s.data ++ (ns.map fun n => UInt8.ofNat n.toNat).toArray⟩ := by
  induction ns with
  | nil => intro s; simp
  | cons n r ih =>
    intro s
    rw [List.foldl_cons, ih]
    apply congrArg ByteArray.mk
    simp [ByteArray.push]

theorem O.bytesStr {src dst el : TypeId} {x : Operand} {av : AV} {xs : List (List D)} {ns : List Int} (hx : ge t x = some av) (hel : elems av = some (1, xs)) (hb : bytesOf xs = some ns)
    (hs : X.P.underlying src = some (.slice el)) (hd : X.P.underlying dst = some .string) (he : X.P.underlying el = some (.int .u8)) :
    QJ X ⟨d, .convert src dst x, ty, pos, aft, g⟩ t σ (.d (.v (.string (strOf ns)))) :=
  QJ.value (by simp) (fun γ H a w so sm => by
    have h1 := rep_elems (so _ (by simp [Op.operands]) _ hx) hel
    refine ⟨.string (strOf ns), ?_, .d _ _ (.v _ rfl)⟩
    generalize hq : a.eval x = q at h1
    obtain ⟨b1, b2⟩ := bytesOf_get hb
    have hq2 : ∃ A n c, q = .slice A n c := by cases h1; exact ⟨_, _, _, rfl⟩
    have hconv : (Conv.bytesToString q).run X.P w = .ok (.string (strOf ns)) w := by
      cases h1 with
      | sl _ _ A c b o us hk hn hc hA hH h =>
        cases A with
        | none =>
          have h0 : xs = [] := by
            cases xs with
            | nil => rfl
            | cons y r => exact absurd (hA (by simp)) (by simp)
          subst h0
          have : ns = [] := List.length_eq_zero_iff.1 (by simpa using b1)
          subst this
          simp [Conv.bytesToString, strOf]; rfl
        | some ad =>
          have hload : (loadCells ad xs.length).run X.P w = .ok (ns.map (Value.int .u8)).toArray w := by
            by_cases h0 : xs.length = 0
            · have e0 : xs = [] := List.length_eq_zero_iff.1 h0
              subst e0
              have : ns = [] := List.length_eq_zero_iff.1 (by simpa using b1)
              subst this
              simp [loadCells, loadCellsFrom]
            · have hA' := hA (by omega)
              simp only [Option.some.injEq] at hA'
              subst hA'
              have key := load_cells (P := X.P) (w := w) (b := b) (vs := fun j => .int .u8 (ns.getD j 0)) xs.length o 0 #[] (fun j hj => by
                have hjn : j < ns.length := by omega
                have hx1 := b2 j ns[j] (by simp [hjn])
                have h3 := h j 0 _ _ hx1 (by rfl)
                have h4 : us j 0 = .int .u8 ns[j] := rep_v (γ := γ) (.d _ _ h3)
                have h5 := hH j 0 hj (by omega)
                rw [h4] at h5
                have h6 := sm.hok _ _ _ h5
                rw [show o + 0 + j = o + j * 1 + 0 from by omega, h6, Nat.zero_add, List.getD_eq_getElem?_getD, List.getElem?_eq_getElem hjn]; rfl)
              simp only [loadCells]
              rw [key]
              congr 1
              apply Array.toList_inj.1
              simp only [Array.toList_append, List.nil_append, List.toList_toArray]
              apply List.ext_getElem?
              intro j
              by_cases hj : j < ns.length
              · simp [hj, b1 ▸ hj, List.getElem?_range', List.getD_eq_getElem?_getD]
              · rw [List.getElem?_eq_none (by simp; omega), List.getElem?_eq_none (by simp; omega)]
          have := run_bytesToString w ad xs.length c ns hload
          rw [this, foldl_push]
          simp [strOf]
    obtain ⟨A, n, c, rfl⟩ := hq2
    simp only [execOp, hq, convert, Sem.run_bind, run_underlying hs, run_underlying hd, run_underlying he, Result.andThen_ok, hconv, Sem.run_pure])
end
end Go.Sv
namespace Go.Sv
/-- A text, by its bytes. -/
abbrev sv (l : List UInt8) : AV := .d (.v (.string ⟨l.toArray⟩))
theorem O.strAddL {X : Cx} {d : Option Nat} {ty : TypeId} {pos : String} {aft : Array Edge} {g : Option (Nat × Bool)} {t : T} {σ : Sg} {tt yt : TypeId} {x y : Operand} (a b : List UInt8) (hx : ge t x = some (sv a)) (hy : ge t y = some (sv b))
    (hl : a.length + b.length ≤ 9223372036854775807) : QJ X ⟨d, .binOp .add tt x y yt, ty, pos, aft, g⟩ t σ (sv (a ++ b)) := by
  have := O.strAdd (X := X) (d := d) (ty := ty) (pos := pos) (aft := aft) (g := g) (t := t) (σ := σ) (tt := tt) (yt := yt) hx hy (by simpa [ByteArray.size] using hl)
  have e : (⟨a.toArray⟩ : ByteArray) ++ ⟨b.toArray⟩ = ⟨(a ++ b).toArray⟩ := by
    apply ByteArray.ext
    simp [ByteArray.data_append]
  rwa [e] at this
end Go.Sv
