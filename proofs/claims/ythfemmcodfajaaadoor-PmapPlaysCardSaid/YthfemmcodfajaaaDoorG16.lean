/- Calls, as they are used; structs compared; texts of bytes; contracts out of the library's. -/
import Derived.Test.YthfemmcodfajaaaDoorG15
import Derived.Laws.BytesString
import Derived.Lib.LaidTab
import Derived.Lib.AppendIntMem
set_option linter.unusedVariables false
set_option linter.unusedSimpArgs false
namespace Go.Gv
open Go.RowKit

section
variable {X : Cx} {d : Option Nat} {ty : TypeId} {pos : String} {aft : Array Edge} {g : Option (Nat × Bool)} {t : T} {σ : Sg}
/-- A call whose result names nothing private, in its place. -/
theorem OpJ.callV {K : T → Sg → Prop} {f : FuncId} {args : Array Operand} {tys : Array TypeId} {avs : List AV} {r : AV} (hc : Ct X.Λ X.P f avs [] (fun q _ => q = r)) (hok : callOk X.P f)
    (ha : geAll t args.toList = some avs) (ho : r.open = true) (hN : dOk d X.N = true) (k : K (putT d r t) σ) : OpJ X ⟨d, .call { callee := .value (.func f), args := args, argTypes := tys }, ty, pos, aft, g⟩ t σ K :=
  OpJ.quiet (QJ.call hc hok ha ho) hN k
theorem OpJ.qu {K : T → Sg → Prop} {o : Oper} {V : AV} (h : QJ X o t σ V) (hN : dOk o.dst X.N = true) (k : K (putT o.dst V t) σ) : OpJ X o t σ K := OpJ.quiet h hN k
end

section
variable {X : Cx} {d : Option Nat} {ty : TypeId} {pos : String} {aft : Array Edge} {g : Option (Nat × Bool)} {t : T} {σ : Sg}
/-! ### Comparison of structs of scalars -/
def veq : Value → Value → Bool
  | .int _ a, .int _ b => a == b
  | .bool a, .bool b => a == b
  | .string a, .string b => a.toList == b.toList
  | _, _ => false
def valsOf : List AV → Option (List Value)
  | [] => some []
  | .d (.v x) :: r => match valsOf r with
    | some l => some (x :: l)
    | none => none
  | _ :: _ => none
theorem valsOf_rep {γ : Ids} {H : HF} : ∀ {cs : List AV} {xs us : List Value}, valsOf cs = some xs → us.length = cs.length → (∀ (j : Nat) (a : AV) (u : Value), cs[j]? = some a → us[j]? = some u → Rep γ H a u) → us = xs
  | [], xs, us, h, hl, _ => by
    simp only [valsOf, Option.some.injEq] at h; subst h
    exact List.length_eq_zero_iff.1 hl
  | .d (.v x) :: r, xs, u :: us, h, hl, hr => by
    simp only [valsOf] at h
    split at h
    · next l hl' =>
      simp only [Option.some.injEq] at h; subst h
      have h8 := rep_v (hr 0 _ u rfl rfl)
      have h9 := valsOf_rep (us := us) hl' (by simpa using hl) fun j a u h1 h2 => hr (j + 1) a u (by simpa using h1) (by simpa using h2)
      rw [h8, h9]
    · cases h
  | _ :: _, _, [], _, hl, _ => by simp at hl
  | .d (.sl ..) :: _, _, _, h, _, _ | .d (.ptr ..) :: _, _, _, h, _, _ | .d (.fn ..) :: _, _, _, h, _, _ | .d (.ifc ..) :: _, _, _, h, _, _ | .d (.ifa ..) :: _, _, _, h, _, _ => by simp [valsOf] at h
  | .d (.mp ..) :: _, _, _, h, _, _ | .full .. :: _, _, _, h, _, _ | .boxX .. :: _, _, _, h, _, _ | .box .. :: _, _, _, h, _, _ | .arr .. :: _, _, _, h, _, _ | .fnp .. :: _, _, _, h, _, _ | .agg .. :: _, _, _, h, _, _ | .tup .. :: _, _, _, h, _, _ | .mp .. :: _, _, _, h, _, _ | .junk :: _, _, _, h, _, _ => by simp [valsOf] at h

/-- Each field is a scalar of the two values' kind. -/
def eqFit (P : Program) (xs ys : List Value) : List Field → Bool
  | [] => true
  | f :: fs => (match P.underlying f.type, xs[f.offset]?, ys[f.offset]? with
    | some (.int _), some (.int k _), some (.int k' _) => decide (k = k')
    | some .bool, some (.bool _), some (.bool _) => true
    | some .string, some (.string _), some (.string _) => true
    | _, _, _ => false) && eqFit P xs ys fs
def eqRes (xs ys : List Value) : List Field → Bool
  | [] => true
  | f :: fs => (if f.name = "_" then true else match xs[f.offset]?, ys[f.offset]? with
    | some x, some y => veq x y
    | _, _ => false) && eqRes xs ys fs

theorem isAgg_of {P : Program} {e : TypeId} {d : TypeDesc} (h : P.underlying e = some d) (hd : (match d with | .struct _ => true | .array _ _ => true | _ => false) = false) (w : World) : (isAgg e).run P w = .ok false w := by
  simp only [isAgg, Sem.run_bind, run_underlying h, Result.andThen_ok]
  cases d <;> simp_all

theorem part_one {P : Program} {e : TypeId} (ha : ∀ w, (isAgg e).run P w = .ok false w) : ∀ (cs : Array Value) (i : Nat) (v : Value) (w : World), cs[i]? = some v → (part e cs i).run P w = .ok v w := by
  intro cs i v w h
  simp [part, ha, h]
theorem eqFields_run {P : Program} {w : World} {d : Nat} {xs ys : List Value} : ∀ (fs : List Field), eqFit P xs ys fs = true → (Op.eqFields (d + 1) xs.toArray ys.toArray fs).run P w = .ok (eqRes xs ys fs) w
  | [], _ => by simp [Op.eqFields, eqRes]
  | f :: fs, h => by
    simp only [eqFit, Bool.and_eq_true] at h
    have ih := eqFields_run fs h.2 (w := w) (d := d)
    have one : ∃ x y, xs[f.offset]? = some x ∧ ys[f.offset]? = some y ∧ (part f.type xs.toArray f.offset).run P w = .ok x w ∧ (part f.type ys.toArray f.offset).run P w = .ok y w ∧ (Op.equalIn (d + 1) f.type x y).run P w = .ok (veq x y) w := by
      have h1 := h.1
      split at h1
      · next k' k a k2 b hu hx hy =>
        have : k = k2 := of_decide_eq_true h1
        subst this
        exact ⟨_, _, hx, hy, part_one (isAgg_of hu rfl) _ _ _ w (by simpa using hx), part_one (isAgg_of hu rfl) _ _ _ w (by simpa using hy), run_equalIn_int w d _ k _ a b hu⟩
      · next a b hu hx hy => exact ⟨_, _, hx, hy, part_one (isAgg_of hu rfl) _ _ _ w (by simpa using hx), part_one (isAgg_of hu rfl) _ _ _ w (by simpa using hy), run_equalIn_bool' w d _ a b hu⟩
      · next a b hu hx hy => exact ⟨_, _, hx, hy, part_one (isAgg_of hu rfl) _ _ _ w (by simpa using hx), part_one (isAgg_of hu rfl) _ _ _ w (by simpa using hy), run_equalIn_string w d _ a b hu⟩
      · cases h1
    obtain ⟨x, y, hx, hy, px, py, pe⟩ := one
    simp only [Op.eqFields, eqRes, hx, hy]
    by_cases hn : f.name = "_"
    · simp [hn, ih]
    · simp only [hn, ne_eq, not_false_eq_true, if_true, if_false, Sem.run_bind, px, py, pe, Result.andThen_ok]
      cases veq x y with
      | true => simpa using ih
      | false => simp

theorem O.eqS {tt yt : TypeId} {x y : Operand} {as bs : List AV} {xs ys : List Value} {fs : Array Field} {r : Bool} (hx : ge t x = some (.agg as)) (hy : ge t y = some (.agg bs)) (hxs : valsOf as = some xs) (hys : valsOf bs = some ys)
    (hu : X.P.underlying tt = some (.struct fs)) (hp : X.P.stoodInHeld tt = false) (hg : X.P.eqGuardType X.P.depth tt = false) (hfit : eqFit X.P xs ys fs.toList = true) (hr : eqRes xs ys fs.toList = r) :
    QJ X ⟨d, .binOp .eql tt x y yt, ty, pos, aft, g⟩ t σ (.d (.v (.bool r))) :=
  QJ.value (by simp) (fun γ H a w so sm => by
    have h1 := so _ (by simp [Op.operands]) _ hx
    have h2 := so _ (by simp [Op.operands]) _ hy
    refine ⟨.bool r, ?_, .d _ _ (.v _ rfl)⟩
    generalize hq1 : a.eval x = q1 at h1
    generalize hq2 : a.eval y = q2 at h2
    cases h1 with
    | agg _ us hl1 hr1 =>
    cases h2 with
    | agg _ vs hl2 hr2 =>
    have e1 := valsOf_rep hxs hl1 hr1
    have e2 := valsOf_rep hys hl2 hr2
    subst e1; subst e2
    have hfs : X.P.fieldsOf tt = fs := by simp [Program.fieldsOf, hu]
    have h3 := run_equalIn_struct (P := X.P) w 9999 tt us.toArray vs.toArray (by rw [hfs]; exact hu) hp
    rw [hfs, eqFields_run (d := 9998) _ hfit, hr] at h3
    simp only [execOp, hq1, hq2, Sem.run_bind, run_eql_struct, run_eqGuard_agg w _ _ _ _ _ _ hg, Result.andThen_ok, h3, Sem.run_pure])

/-! ### Texts of bytes -/
def bytesOf : List (List D) → Option (List Int)
  | [] => some []
  | [.v (.int .u8 n)] :: r => match bytesOf r with
    | some l => some (n :: l)
    | none => none
  | _ :: _ => none
theorem bytesOf_get : ∀ {xs : List (List D)} {ns : List Int}, bytesOf xs = some ns → ns.length = xs.length ∧ ∀ (j : Nat) (n : Int), ns[j]? = some n → xs[j]? = some [.v (.int .u8 n)]
  | [], ns, h => by simp only [bytesOf, Option.some.injEq] at h; subst h; simp
  | x :: r, ns, h => by
    unfold bytesOf at h
    split at h
    · next he => cases he
    · next n r' he =>
      simp only [List.cons.injEq] at he
      obtain ⟨rfl, rfl⟩ := he
      split at h
      · next l hl =>
        simp only [Option.some.injEq] at h; subst h
        obtain ⟨h1, h2⟩ := bytesOf_get hl
        refine ⟨by simp [h1], fun j m hm => ?_⟩
        cases j with
        | zero => simp at hm; subst hm; rfl
        | succ j => simpa using h2 j m (by simpa using hm)
      · cases h
    · cases h
def strOf (ns : List Int) : ByteArray := ⟨(ns.map fun n => UInt8.ofNat n.toNat).toArray⟩
theorem foldl_push (ns : List Int) : ∀ (s : ByteArray), ns.foldl (fun r n => r.push (UInt8.ofNat n.toNat)) s = ⟨s.data ++ (ns.map fun n => UInt8.ofNat n.toNat).toArray⟩ := by
  induction ns with
  | nil => intro s; simp
  | cons n r ih =>
    intro s
    rw [List.foldl_cons, ih]
    apply congrArg ByteArray.mk
    simp [ByteArray.push]

theorem O.bytesStr {src dst el : TypeId} {x : Operand} {av : AV} {xs : List (List D)} {ns : List Int} (hx : ge t x = some av) (hel : elems av = some (1, xs)) (hb : bytesOf xs = some ns)
    (hs : X.P.underlying src = some (.slice el)) (hd : X.P.underlying dst = some .string) (he : X.P.underlying el = some (.int .u8)) :
    QJ X ⟨d, .convert src dst x, ty, pos, aft, g⟩ t σ (.d (.v (.string (strOf ns)))) :=
  QJ.value (by simp) (fun γ H a w so sm => by
    have h1 := rep_elems (so _ (by simp [Op.operands]) _ hx) hel
    refine ⟨.string (strOf ns), ?_, .d _ _ (.v _ rfl)⟩
    generalize hq : a.eval x = q at h1
    obtain ⟨b1, b2⟩ := bytesOf_get hb
    have hq2 : ∃ A n c, q = .slice A n c := by cases h1; exact ⟨_, _, _, rfl⟩
    have hconv : (Conv.bytesToString q).run X.P w = .ok (.string (strOf ns)) w := by
      cases h1 with
      | sl _ _ A c b o us hk hn hc hA hH h =>
        cases A with
        | none =>
          have h0 : xs = [] := by
            cases xs with
            | nil => rfl
            | cons y r => exact absurd (hA (by simp)) (by simp)
          subst h0
          have : ns = [] := List.length_eq_zero_iff.1 (by simpa using b1)
          subst this
          simp [Conv.bytesToString, strOf]; rfl
        | some ad =>
          have hload : (loadCells ad xs.length).run X.P w = .ok (ns.map (Value.int .u8)).toArray w := by
            by_cases h0 : xs.length = 0
            · have e0 : xs = [] := List.length_eq_zero_iff.1 h0
              subst e0
              have : ns = [] := List.length_eq_zero_iff.1 (by simpa using b1)
              subst this
              simp [loadCells, loadCellsFrom]
            · have hA' := hA (by omega)
              simp only [Option.some.injEq] at hA'
              subst hA'
              have key := load_cells (P := X.P) (w := w) (b := b) (vs := fun j => .int .u8 (ns.getD j 0)) xs.length o 0 #[] (fun j hj => by
                have hjn : j < ns.length := by omega
                have hx1 := b2 j ns[j] (by simp [hjn])
                have h3 := h j 0 _ _ hx1 (by rfl)
                have h4 : us j 0 = .int .u8 ns[j] := rep_v (γ := γ) (.d _ _ h3)
                have h5 := hH j 0 hj (by omega)
                rw [h4] at h5
                have h6 := sm.hok.c _ _ _ h5
                rw [show o + 0 + j = o + j * 1 + 0 from by omega, h6, Nat.zero_add, List.getD_eq_getElem?_getD, List.getElem?_eq_getElem hjn]; rfl)
              simp only [loadCells]
              rw [key]
              congr 1
              apply Array.toList_inj.1
              simp only [Array.toList_append, List.nil_append, List.toList_toArray]
              apply List.ext_getElem?
              intro j
              by_cases hj : j < ns.length
              · simp [hj, b1 ▸ hj, List.getElem?_range', List.getD_eq_getElem?_getD]
              · rw [List.getElem?_eq_none (by simp; omega), List.getElem?_eq_none (by simp; omega)]
          have := run_bytesToString w ad xs.length c ns hload
          rw [this, foldl_push]
          simp [strOf]
    obtain ⟨A, n, c, rfl⟩ := hq2
    simp only [execOp, hq, convert, Sem.run_bind, run_underlying hs, run_underlying hd, run_underlying he, Result.andThen_ok, hconv, Sem.run_pure])
end
/-- The cells and maps of a world. -/
def cellH (w : World) : HF := ⟨fun b o => w.cell? ⟨b, o, none⟩, fun b => match w.heap[b]? with | some (.map es c) => some (es, c) | _ => none⟩
theorem HOk.le {H : HF} {w : World} (h : HOk H w) : HLe H (cellH w) := ⟨h.c, fun b x hx => by
  have := h.m b x.1 x.2 hx
  show (match w.heap[b]? with | some (.map es c) => some (es, c) | _ => none) = some x
  rw [this]⟩
theorem cellH_ok (w : World) : HOk (cellH w) w := ⟨fun _ _ _ h => h, fun b es c h => by
  have h' : (match w.heap[b]? with | some (.map es c) => some (es, c) | _ => none) = some (es, c) := h
  split at h'
  · next es' c' hb => simp only [Option.some.injEq, Prod.mk.injEq] at h'; obtain ⟨rfl, rfl⟩ := h'; exact hb
  · cases h'⟩
/-- What a private thing looks like to who only reads. -/
inductive View (σ : Sg) : AV → AV → Prop where
  | same (a : AV) (h : a.open = true) : View σ a a
  | arr (i k n : Nat) (xs : List (List D)) (h : look i σ = some (.arr k xs)) (hn : xs.length = n) (hm : n ≤ 9223372036854775807) : View σ (.arr i k n) (.d (.sl k xs))
  | box (i : Nat) (cs : List AV) (ds : List D) (h : look i σ = some (.cells cs)) (hd : dAll cs = some ds) : View σ (.box i 0) (.d (.ptr ds))

def Views (σ : Sg) : List AV → List AV → Prop
  | [], [] => True
  | a :: r, b :: s => View σ a b ∧ Views σ r s
  | _, _ => False

theorem View.sound {σ : Sg} {w0 w : World} {H0 H : HF} {B : Nat → Prop} {γ γ' : Ids} (m : Mem w0 H0 B γ H σ w) {a b : AV} {u : Value} (v : View σ a b) (r : Rep γ H a u) : Rep γ' (cellH w) b u := by
  have hle : HLe H (cellH w) := m.hok.le
  cases v with
  | same a h => exact (r.mono hle).free h
  | arr i k n xs hi hn hm =>
    obtain ⟨e1, e2, e3⟩ := m.ent i _ hi
    cases r with
    | arr _ _ _ A hn' hA =>
      refine .d _ _ ?_
      by_cases h0 : 0 < (γ i).n
      · obtain ⟨tt, us, q1, q2, q3⟩ := e3 h0
        have key := RepD.sl (H := cellH w) k xs A (γ i).n (γ i).b 0 (fun j l => us.getD (j * k + l) undef) e2 e1 (by omega) (fun _ => hA h0) (fun j l hj hl => by
          have hlt : j * k + l < us.length := by
            rw [q2]
            calc j * k + l < j * k + k := by omega
              _ = (j + 1) * k := by rw [Nat.succ_mul]
              _ ≤ (γ i).n * k := Nat.mul_le_mul_right _ (by omega)
          show w.cell? _ = _
          rw [cell_of_block q1, Nat.zero_add, List.getD_eq_getElem?_getD, List.getElem?_eq_getElem hlt]; rfl) (fun j l cs d hj hd => by
          have hjl : j < xs.length := (List.getElem?_eq_some_iff.1 hj).1
          have hlk : l < k := by rw [← e2 cs (mem_of_get hj)]; exact (List.getElem?_eq_some_iff.1 hd).1
          have hlt : j * k + l < us.length := by
            rw [q2]
            calc j * k + l < j * k + k := by omega
              _ = (j + 1) * k := by rw [Nat.succ_mul]
              _ ≤ (γ i).n * k := Nat.mul_le_mul_right _ (by omega)
          exact (q3 j l cs d _ hj hd (by rw [List.getD_eq_getElem?_getD, List.getElem?_eq_getElem hlt]; rfl)).mono hle)
        rw [hn] at key; exact key
      · have hxl : xs = [] := by
          cases xs with
          | nil => rfl
          | cons x r => simp only [List.length_cons] at e1; omega
        subst hxl
        have hn0 : n = 0 := by simpa using hn.symm
        subst hn0
        exact .sl k [] A _ 0 0 (fun _ _ => undef) (fun _ h => by simp at h) (by simp) (by simp) (fun h => by simp at h) (fun j i h => by simp at h) (fun j i cs a h => by simp at h)
  | box i cs ds hi hd =>
    obtain ⟨tt, us, q1, q2, q3⟩ := m.ent i _ hi
    obtain ⟨d1, d2⟩ := dAll_get hd
    cases r
    refine .d _ _ (.ptr ds (γ i).b 0 (fun j => us.getD j undef) (fun j hj => ?_) fun j a ha => ?_)
    · have hlt : j < us.length := by omega
      show w.cell? _ = _
      rw [cell_of_block q1, Nat.zero_add, List.getD_eq_getElem?_getD, List.getElem?_eq_getElem hlt]; rfl
    · obtain ⟨x, h1, h2⟩ := d2 j a ha
      have hlt : j < us.length := by rw [q2]; exact (List.getElem?_eq_some_iff.1 h1).1
      exact (dOf_sound h2 (q3 j x _ h1 (by rw [List.getD_eq_getElem?_getD, List.getElem?_eq_getElem hlt]; rfl))).mono hle

theorem views_get {σ : Sg} : ∀ {l m : List AV}, Views σ l m → l.length = m.length ∧ ∀ (j : Nat) (b : AV), m[j]? = some b → ∃ a, l[j]? = some a ∧ View σ a b
  | [], [], _ => ⟨rfl, fun j b h => by simp at h⟩
  | a :: r, b :: s, ⟨h1, h2⟩ => by
    obtain ⟨e, f⟩ := views_get h2
    refine ⟨by simp [e], fun j c hj => ?_⟩
    cases j with
    | zero => simp at hj; subst hj; exact ⟨a, rfl, h1⟩
    | succ j => simpa using f j c (by simpa using hj)
  | [], _ :: _, h => h.elim
  | _ :: _, [], h => h.elim

theorem blks_nil (γ : Ids) : blks γ [] = fun _ => False := by
  funext b; simp [blks, look]
/-- **A call that only reads what is private**: its result says nothing of memory. -/
theorem QJ.callB {X : Cx} {d : Option Nat} {ty : TypeId} {pos : String} {aft : Array Edge} {g : Option (Nat × Bool)} {t : T} {σ : Sg} {f : FuncId} {args : Array Operand} {tys : Array TypeId} {avs bvs : List AV} {r : AV}
    (hc : Ct X.Λ X.P f bvs [] (fun q _ => q = r)) (hok : callOk X.P f)
    (ha : geAll t args.toList = some avs) (hv : Views σ avs bvs) (ho : r.scal = true) : QJ X ⟨d, .call { callee := .value (.func f), args := args, argTypes := tys }, ty, pos, aft, g⟩ t σ r := by
  intro γ H a w hl so sm next Q' hk
  rw [semAt_of (by simp), call_run hok, Oper.uponIn_enter]
  refine ⟨fun h => by simp [Fr] at h, ?_⟩
  have hso : ∀ x, x ∈ args.toList → ∀ v, ge t x = some v → Rep γ H v (a.eval x) := fun x hx => so x (by simp [Op.operands, Call.operands] at hx ⊢; exact .inr hx)
  obtain ⟨vl, vg⟩ := views_get hv
  have := hc X.ro γ (cellH w) w (args.map a.eval).toList (hl.keep sm.keep (by rw [blks_nil]; exact fun b h => h.elim)) (by
    rw [blks_nil]
    exact ⟨Keeps.refl _ _, HLe.refl _, HNew.refl _ _ _, cellH_ok w, fun i e h => by simp [look] at h, fun i e h => by simp [look] at h, fun i e h => by simp [look] at h, fun i e j e' b h => by simp [look] at h⟩)
    (by have := congrArg List.length (geAll_map ha); simp at this; simp; omega) (by
    have := ge_list hso (geAll_map ha)
    intro j b u hj hu
    obtain ⟨x, hx, hvw⟩ := vg j b hj
    exact hvw.sound sm (this j x u hx (by simpa using hu)))
  simp only [Array.toArray_toList] at this
  refine (this.mono ?_)
  rintro e w' ⟨v, r', σ', γ', H', rfl, rfl, hr, _, _, hm⟩
  rw [blks_nil] at hm
  have hblk : ∀ k, k < w.heap.size → w'.heap[k]? = w.heap[k]? := fun k hk => hm.keep.block k hk (fun x => x)
  have hm' : Mem w H (fun _ => False) γ H [] w' := ⟨hm.keep, HLe.refl _, HNew.refl _ _ _, ⟨fun b o v h => by
    have h1 := sm.hok.c b o v h
    have hlt := lt_of_cell h1
    simp only [World.cell?] at h1 ⊢
    rw [hblk b hlt]; exact h1, fun b es c h => by
    have h1 := sm.hok.m b es c h
    exact (hblk b (lt_of_heap h1)).trans h1⟩, fun i e h => by simp [look] at h, fun i e h => by simp [look] at h, fun i e h => by simp [look] at h, fun i e j e' b h => by simp [look] at h⟩
  exact hk v γ [] H w' hm' (hr.scal ho)

/-! ### Out of the kit's calls -/
theorem Mem.quiet {w0 w w' : World} {H0 H : HF} {B : Nat → Prop} {γ : Ids} {σ : Sg} (h : Mem w0 H0 B γ H σ w) (k : Keeps w (fun _ => False) w') : Mem w H (fun _ => False) γ H [] w' :=
  ⟨k, HLe.refl _, HNew.refl _ _ _, ⟨fun b o v hv => by
    have h1 := h.hok.c b o v hv
    have hlt := lt_of_cell h1
    simp only [World.cell?] at h1 ⊢
    rw [k.block b hlt (fun x => x)]; exact h1, fun b es c hv => by
    have h1 := h.hok.m b es c hv
    exact (k.block b (lt_of_heap h1) (fun x => x)).trans h1⟩, fun i e h => by simp [look] at h, fun i e h => by simp [look] at h, fun i e h => by simp [look] at h, fun i e j e' b h => by simp [look] at h⟩
theorem Ct.of_calls {Λ : Amb} {P : Program} {f : FuncId} {avs : List AV} {V : AV}
    (h : ∀ (γ : Ids) (H : HF) (w : World) (vs : List Value), Λ.p w → HOk H w → vs.length = avs.length → (∀ (j : Nat) (a : AV) (u : Value), avs[j]? = some a → vs[j]? = some u → Rep γ H a u) → Calls P f vs.toArray w fun e w' => ∃ v H', e = .returned v ∧ Rep γ H' V v ∧ Mem w H (fun _ => False) γ H' [] w') :
    Ct Λ P f avs [] (fun r _ => r = V) := by
  intro ro γ H w vs hΛ hm hlen hr
  have key : CallsIn (Fr none) 0 P f vs.toArray w fun e w' => ∃ v r σ' γ' H', e = .returned v ∧ r = V ∧ Rep γ' H' r v ∧ (∀ i, look i σ' = none → γ i = γ' i) ∧ (∀ i cs, look i ([] : Sg) = some (.cells cs) → γ i = γ' i) ∧ Mem w H (blks γ []) γ' H' σ' w' := by
    refine callsIn_wide.2 ((h γ H w vs hΛ.1 hm.hok hlen hr).mono fun e w' ⟨v, H', he, hrep, hk⟩ => ?_)
    exact ⟨v, V, [], γ, H', he, rfl, hrep, fun _ _ => rfl, fun _ _ _ => rfl, by rw [blks_nil]; exact hk⟩
  cases ro with
  | none => exact key
  | some l => exact CallsIn.inRound l key

/-- Scalars as arguments. -/
def scalars (xs : List Value) : List AV := xs.map fun x => .d (.v x)
theorem scalars_eq {γ : Ids} {H : HF} {xs vs : List Value} (hl : vs.length = (scalars xs).length) (h : ∀ (j : Nat) (a : AV) (u : Value), (scalars xs)[j]? = some a → vs[j]? = some u → Rep γ H a u) : vs = xs := by
  apply List.ext_getElem?
  intro j
  cases hx : xs[j]? with
  | none => simp [scalars] at hl hx; rw [List.getElem?_eq_none]; omega
  | some x =>
    have hlt : j < vs.length := by rw [hl]; simp [scalars]; exact (List.getElem?_eq_some_iff.1 hx).1
    have := rep_v (h j (.d (.v x)) vs[j] (by simp [scalars, hx]) (by simp [hlt]))
    simp [hlt, this]
theorem Ct.of_calls_scalars {Λ : Amb} {P : Program} {f : FuncId} (xs : List Value) {V : Value} (h1 : V.oneCell' = true)
    (h : ∀ (w : World), Λ.p w → Calls P f xs.toArray w fun e w' => e = .returned V ∧ Keeps w (fun _ => False) w') : Ct Λ P f (scalars xs) [] (fun r _ => r = .d (.v V)) :=
  Ct.of_calls fun γ H w vs hΛ hok hl hr => by
    rw [scalars_eq hl hr]
    have hm : Mem w H (fun _ => False) γ H [] w := ⟨Keeps.refl _ _, HLe.refl _, HNew.refl _ _ _, hok, fun i e h => by simp [look] at h, fun i e h => by simp [look] at h, fun i e h => by simp [look] at h, fun i e j e' b h => by simp [look] at h⟩
    exact (h w hΛ).mono fun e w' ⟨he, hk⟩ => ⟨V, H, he, .d _ _ (.v V h1), hm.quiet hk⟩

theorem keeps_below {w w' : World} (h : Below w.heap.size w w') : Keeps w (fun _ => False) w' := ⟨h.os, h.tape, h.output, h.size, fun k hk _ => h.block k hk⟩

/-- A contract, as the kit's call. -/
theorem Ct.calls {Λ : Amb} {P : Program} {f : FuncId} {avs : List AV} {V : Value} (h : Ct Λ P f avs [] (fun r _ => r = .d (.v V))) (w : World) (hΛ : Λ.p w) (hg : Λ.g ≤ w.heap.size) (vs : List Value) (hl : vs.length = avs.length)
    (hr : ∀ (j : Nat) (a : AV) (u : Value), avs[j]? = some a → vs[j]? = some u → Rep (fun _ => ⟨0, 0, fun _ => False⟩) (cellH w) a u) :
    Calls P f vs.toArray w fun e w' => e = .returned V ∧ Below w.heap.size w w' := by
  have := h none (fun _ => ⟨0, 0, fun _ => False⟩) (cellH w) w vs ⟨hΛ, hg, by rw [blks_nil]; exact fun b h => h.elim⟩ (by
    rw [blks_nil]
    exact ⟨Keeps.refl _ _, HLe.refl _, HNew.refl _ _ _, cellH_ok w, fun i e h => by simp [look] at h, fun i e h => by simp [look] at h, fun i e h => by simp [look] at h, fun i e j e' b h => by simp [look] at h⟩) hl hr
  refine (callsIn_wide.1 this).mono fun e w' ⟨v, r, σ, γ', H', he, hq, hrep, _, _, hm⟩ => ?_
  subst hq
  rw [blks_nil] at hm
  cases hrep with
  | d _ _ hd => cases hd with
    | v _ _ => exact ⟨he, hm.keep.below fun _ => id⟩

/-! ### Tables of the library -/
/-- Variables of the library's hold what they hold: told by the first g blocks. -/
def tabAmb (P : Program) (g : Nat) (tabs : List (String × IntKind × List Int)) (hg : ∀ n, n ∈ tabs → ∀ i, P.globalNamed n.1 = some i → i < g) : Amb :=
  ⟨fun w => ∀ n, n ∈ tabs → Lib.TabIs P w n.1 n.2.1 n.2.2, g, fun {w w'} h hk n hn => by
    have h := h n hn
    obtain ⟨i, hi, hm⟩ := Option.bind_eq_some_iff.1 (show World.var? P w n.1 = some _ from h)
    show World.var? P w' n.1 = some _
    unfold World.var?
    rw [hi]
    simp only [Option.bind_some]
    rw [hk i (hg n hn i hi)]; exact hm⟩
end Go.Gv
