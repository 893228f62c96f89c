/- Slicing of data and of strings. -/
import Derived.Test.YthfemmcodfajaaaDoorFwO
set_option linter.unusedVariables false
set_option linter.unusedSimpArgs false
namespace Go.Sv
open Go.RowKit

def loOk (t : T) : Option Operand → Nat → Prop
  | none, l => l = 0
  | some o, l => ge t o = some (.d (.v (.int .i64 l)))
def hiOk (t : T) : Option Operand → Nat → Nat → Prop
  | none, n, h => h = n
  | some o, _, h => ge t o = some (.d (.v (.int .i64 h)))

section
variable {X : Cx} {d : Option Nat} {ty : TypeId} {pos : String} {aft : Array Edge} {g : Option (Nat × Bool)} {t : T} {σ : Sg}

theorem bound_run {P : Program} {w : World} {i y : Nat} {code : BoundsCode} (h : i ≤ y) : (Instr.sliceBound (.int .i64 i) y code).run P w = .ok i w := by
  have h1 : (0 : Int) ≤ (i : Int) ∧ (i : Int) ≤ (y : Int) := ⟨by omega, by omega⟩
  simp [Instr.sliceBound, asIntOf, h1, h]

theorem bounds_run {P : Program} {w : World} {γ : Ids} {H : HF} {a : Act} {lo hi : Option Operand} {isS : Bool} {len cap l h : Nat} (hl : loOk t lo l) (hh : hiOk t hi len h) (h1 : l ≤ h) (h2 : h ≤ len) (h3 : len ≤ cap)
    (so : ∀ x, (lo = some x ∨ hi = some x) → ∀ v, ge t x = some v → Rep γ H v (a.eval x)) : (Instr.sliceBounds isS len cap (lo.map a.eval) (hi.map a.eval) none).run P w = .ok (l, h, cap) w := by
  cases lo with
  | none =>
    simp only [loOk] at hl; subst hl
    cases hi with
    | none => simp only [hiOk] at hh; subst hh; simp [Instr.sliceBounds]
    | some o =>
      have := rep_v (so o (.inr rfl) _ hh)
      have h4 : h ≤ cap := by omega
      simp [Instr.sliceBounds, this, bound_run h4]
  | some p =>
    have e1 := rep_v (so p (.inl rfl) _ hl)
    cases hi with
    | none => simp only [hiOk] at hh; subst hh; simp [Instr.sliceBounds, e1, bound_run h1]
    | some o =>
      have := rep_v (so o (.inr rfl) _ hh)
      have h4 : h ≤ cap := by omega
      simp [Instr.sliceBounds, this, e1, bound_run h4, bound_run h1]

theorem RepD.cut {H : HF} {k l h : Nat} {xs : List (List D)} {A : Option Addr} {c : Nat} (r : RepD H (.sl k xs) (.slice A xs.length c)) (h1 : l ≤ h) (h2 : h ≤ xs.length) :
    RepD H (.sl k ((xs.take h).drop l)) (.slice (if c = l then A else A.map (·.add (l * k))) (h - l) (c - l)) := by
  cases r with
  | sl _ _ _ _ b o us hk hn hc hA hH hr =>
    have hlen : ((xs.take h).drop l).length = h - l := by simp; omega
    have get : ∀ (j : Nat) (cs : List D), ((xs.take h).drop l)[j]? = some cs → xs[l + j]? = some cs ∧ l + j < h := by
      intro j cs hj
      rw [List.getElem?_drop, List.getElem?_take] at hj
      split at hj
      · exact ⟨hj, by assumption⟩
      · cases hj
    have key := RepD.sl (H := H) k ((xs.take h).drop l) (if c = l then A else A.map (·.add (l * k))) (c - l) b (o + l * k) (fun j i => us (l + j) i) (fun cs hcs => hk cs (List.mem_of_mem_take (List.mem_of_mem_drop hcs)))
      (by omega) (by omega) (fun h0 => by
        rw [hlen] at h0
        rw [if_neg (by omega), hA (by omega)]
        simp only [Option.map_some, Addr.add]
        split
        · next e => rw [e]; rfl
        · rfl) (fun j i hj hi => by
          rw [hlen] at hj
          rw [show o + l * k + j * k + i = o + (l + j) * k + i from by rw [Nat.add_mul]; omega]
          exact hH (l + j) i (by omega) hi) (fun j i cs a hj ha => hr (l + j) i cs a (get j cs hj).1 ha)
    rw [hlen] at key
    exact key

/-- A slice of data, cut. -/
theorem O.sliceD {st el : TypeId} {x : Operand} {lo hi : Option Operand} {av : AV} {k : Nat} {xs : List (List D)} (l h : Nat) (hx : ge t x = some av) (hel : elems av = some (k, xs)) (hu : X.P.underlying st = some (.slice el)) (hz : ∀ w, (sizeOf el).run X.P w = .ok k w)
    (hl : loOk t lo l) (hh : hiOk t hi xs.length h) (h1 : l ≤ h) (h2 : h ≤ xs.length) : QJ X ⟨d, .slice st x lo hi none, ty, pos, aft, g⟩ t σ (.d (.sl k ((xs.take h).drop l))) :=
  QJ.value (by simp) (fun γ H a w so sm => by
    have hr := rep_elems (so x (by simp [Op.operands]) _ hx) hel
    generalize hq : a.eval x = q at hr
    have hr' := hr
    cases hr with
    | sl _ _ A c b o us hk hn hc hA hH hr2 =>
      refine ⟨_, ?_, .d _ _ (hr'.cut h1 h2)⟩
      have hb := bounds_run (P := X.P) (w := w) (γ := γ) (H := H) (a := a) (isS := true) hl hh h1 h2 hn (fun y hy v hv => so y (by
        rcases hy with rfl | rfl <;> simp [Op.operands]) v hv)
      simp only [execOp, hq, Instr.sliceAt, Instr.slice, Sem.run_bind, run_underlying hu, Result.andThen_ok, hb, hz, Sem.run_pure, Option.map_none])

/-- A text, cut. -/
theorem O.sliceS {st : TypeId} {x : Operand} {lo hi : Option Operand} {s : List UInt8} (l h : Nat) (hx : ge t x = some (sv s)) (hu : X.P.underlying st = some .string)
    (hl : loOk t lo l) (hh : hiOk t hi s.length h) (h1 : l ≤ h) (h2 : h ≤ s.length) : QJ X ⟨d, .slice st x lo hi none, ty, pos, aft, g⟩ t σ (sv ((s.take h).drop l)) :=
  QJ.value (by simp) (fun γ H a w so sm => by
    have hr := rep_v (so x (by simp [Op.operands]) _ hx)
    refine ⟨.string ⟨((s.take h).drop l).toArray⟩, ?_, .d _ _ (.v _ rfl)⟩
    have hb := bounds_run (P := X.P) (w := w) (γ := γ) (H := H) (a := a) (isS := false) (len := s.length) (cap := s.length) hl hh h1 h2 (Nat.le_refl _) (fun y hy v hv => so y (by
      rcases hy with rfl | rfl <;> simp [Op.operands]) v hv)
    have e : (⟨s.toArray⟩ : ByteArray).extract l h = ⟨((s.take h).drop l).toArray⟩ := by
      apply ByteArray.ext
      simp [ByteArray.data_extract, List.drop_take]
    have hsz : (⟨s.toArray⟩ : ByteArray).size = s.length := by simp [ByteArray.size]
    simp only [execOp, hr, Instr.sliceAt, Instr.slice, Sem.run_bind, run_underlying hu, Result.andThen_ok, hsz, hb, Sem.run_pure, Option.map_none, e, Option.isSome_none, Bool.false_eq_true, if_false])
end
end Go.Sv
