/- An array given to all, cut to a slice. -/
import Derived.Test.YthfemmcodfajaaaDoorG17
set_option linter.unusedVariables false
set_option linter.unusedSimpArgs false
namespace Go.Gv
open Go.RowKit

section
variable {X : Cx} {d : Option Nat} {ty : TypeId} {pos : String} {aft : Array Edge} {g : Option (Nat × Bool)} {t : T} {σ : Sg}

/-- A slice of an array that is data. -/
theorem O.sliceP {st e : TypeId} {x : Operand} {lo hi : Option Operand} {n k : Nat} {cs : List D} {l h : Int} (hx : ge t x = some (.d (.ptr cs))) (hu : X.P.underlying st = some (.array n e)) (hs : szOf X.P e = some k)
    (hl : loV t lo = some l) (hh : hiV t n hi = some h) (h0 : 0 ≤ l) (h1 : l ≤ h) (h2 : h ≤ (n : Int)) (hc : cs.length = n * k) (hn : n ≤ 9223372036854775807) {xs : List (List D)} (hv : ((chunkL k n cs).take h.toNat).drop l.toNat = xs) :
    QJ X ⟨d, .slice st x lo hi none, ty, pos, aft, g⟩ t σ (.d (.sl k xs)) := by
  subst hv
  refine QJ.value (by simp) (fun γ H a w so sm => ?_)
  obtain ⟨b, o, us, hq, hcc, hr⟩ := repd_ptr (rep_d (so x (by simp [Op.operands]) _ hx))
  have hb := bounds_run (P := X.P) (w := w) (γ := γ) (H := H) (a := a) (isS := false) hl hh h0 h1 h2 (Nat.le_refl _) (fun y hy v hv => so y (by
    rcases hy with rfl | rfl <;> simp [Op.operands]) v hv)
  rw [chunkL_eq]
  obtain ⟨c1, c2⟩ := chunk_len (k := k) (n := n) (ds := cs) hc
  have hsl : RepD H (.sl k (chunk k n cs)) (.slice (some ⟨b, o, none⟩) (chunk k n cs).length n) := by
    refine .sl k _ _ n b o (fun j i => us (j * k + i)) c2 (by omega) (by omega) (fun _ => rfl) (fun j i hj hi => ?_) (fun j i ds d hj hd => ?_)
    · rw [c1] at hj
      rw [Nat.add_assoc]
      refine hcc _ ?_
      rw [hc]
      calc j * k + i < j * k + k := by omega
        _ = (j + 1) * k := by rw [Nat.add_mul]; omega
        _ ≤ n * k := Nat.mul_le_mul_right _ (by omega)
    · obtain ⟨_, _, hx⟩ := chunk_get hc hj hd
      exact hr _ d hx
  have hcut := hsl.cut (l := l.toNat) (h := h.toNat) (c' := n) (by omega) (by rw [c1]; omega) (by omega) (Nat.le_refl _)
  refine ⟨_, ?_, .d _ _ hcut⟩
  simp only [execOp, hq, Instr.sliceAt, Instr.sureAddr, Sem.run_bind, run_underlying hu, Result.andThen_ok, hb, szOf_run hs, Sem.run_pure, Option.map_none]
  congr 3
  split <;> rfl
end
/-! ### Comparison of structs, however deep -/
def eqT (P : Program) : Nat → TypeId → List Value → List Value → Option Bool
  | 0, _, _, _ => none
  | n + 1, t, xs, ys => match P.underlying t with
    | some (.struct fs) => fs.toList.foldr (fun f r => match eqT P n f.type ((xs.drop f.offset).take (P.cellsOf f.type)) ((ys.drop f.offset).take (P.cellsOf f.type)), r with
      | some b, some r => some (b && r)
      | _, _ => none) (some true)
    | some (.int _) => match xs, ys with
      | [.int k a], [.int k' b] => match kEq k k' with
        | true => some (decide (a = b))
        | false => none
      | _, _ => none
    | some .bool => match xs, ys with
      | [.bool a], [.bool b] => some (a == b)
      | _, _ => none
    | some .string => match xs, ys with
      | [.string a], [.string b] => some (a.toList == b.toList)
      | _, _ => none
    | _ => none
/-- Each struct within may be compared, and each of its fields is. -/
def eqOk (P : Program) : Nat → TypeId → Bool
  | 0, _ => false
  | n + 1, t => match P.underlying t with
    | some (.struct fs) => !P.stoodInHeld t && fs.toList.all fun f => f.name != "_" && (P.info? f.type).isSome && eqOk P n f.type && (match P.underlying f.type with | some (.struct _) => true | some (.array ..) => false | _ => Nat.beq (P.cellsOf f.type) 1)
    | some (.array ..) => false
    | _ => true
def valAt (P : Program) (t : TypeId) (xs : List Value) : Value := match P.underlying t with
  | some (.struct _) => .agg xs.toArray
  | _ => xs.headD undef

def aggD : TypeDesc → Bool
  | .struct _ => true
  | .array _ _ => true
  | _ => false
theorem isAgg_aggD {P : Program} {e : TypeId} {d : TypeDesc} (h : P.underlying e = some d) (hd : aggD d = false) (w : World) : (isAgg e).run P w = .ok false w := by
  cases d <;> first | (exact isAgg_of h rfl w) | (cases hd)
theorem eqT_some {P : Program} {n : Nat} {t : TypeId} {xs ys : List Value} {r : Bool} (he : eqT P (n + 1) t xs ys = some r) :
    (∃ fs, P.underlying t = some (.struct fs)) ∨ ((∃ x, xs = [x]) ∧ (∃ y, ys = [y]) ∧ ∃ d, P.underlying t = some d ∧ aggD d = false) := by
  simp only [eqT] at he
  cases hu : P.underlying t with
  | none => rw [hu] at he; simp at he
  | some d =>
    rw [hu] at he
    cases d with
    | struct fs => exact .inl ⟨fs, rfl⟩
    | int k => right; simp only at he; split at he; exact ⟨⟨_, rfl⟩, ⟨_, rfl⟩, _, rfl, rfl⟩; cases he
    | bool => right; simp only at he; split at he; exact ⟨⟨_, rfl⟩, ⟨_, rfl⟩, _, rfl, rfl⟩; cases he
    | string => right; simp only at he; split at he; exact ⟨⟨_, rfl⟩, ⟨_, rfl⟩, _, rfl, rfl⟩; cases he
    | _ => simp at he
theorem part_run {P : Program} {t : TypeId} {off : Nat} {xs : List Value} {w : World} (hi : (P.info? t).isSome = true) (hc : (match P.underlying t with | some (.struct _) => true | some (.array ..) => false | _ => Nat.beq (P.cellsOf t) 1) = true)
    (he : (∃ fs, P.underlying t = some (.struct fs)) ∨ ((∃ x, (xs.drop off).take (P.cellsOf t) = [x]) ∧ ∃ d, P.underlying t = some d ∧ aggD d = false)) :
    (part t xs.toArray off).run P w = .ok (valAt P t ((xs.drop off).take (P.cellsOf t))) w := by
  unfold part valAt
  rcases he with ⟨fs, hu⟩ | ⟨⟨x, hx⟩, d, hu, hd⟩
  · have ha : (isAgg t).run P w = .ok true w := by simp [isAgg, run_underlying hu]
    rw [hu]
    simp only [Sem.run_bind, ha, Result.andThen_ok, if_true, sizeOf_cells hi, Sem.run_pure]
    congr 2
    apply Array.toList_inj.1
    simp
  · have ha := isAgg_aggD hu hd w
    rw [hu] at hc
    have hk : P.cellsOf t = 1 := Nat.eq_of_beq_eq_true (by cases d <;> first | exact hc | cases hd)
    rw [hx]
    have hv : xs[off]? = some x := by
      have := congrArg (fun l => l[0]?) hx
      rw [hk] at this
      simpa using this
    have : (match P.underlying t with | some (.struct _) => Value.agg ([x] : List Value).toArray | _ => ([x] : List Value).headD undef) = x := by rw [hu]; cases d <;> first | rfl | cases hd
    rw [this]
    simp [ha, hv]

theorem eqT_run {P : Program} {w : World} : ∀ (n d : Nat) (t : TypeId) (xs ys : List Value) (r : Bool), eqOk P n t = true → eqT P n t xs ys = some r → (Op.equalIn (d + n) t (valAt P t xs) (valAt P t ys)).run P w = .ok r w
  | 0, _, _, _, _, _, _, h => by simp [eqT] at h
  | n + 1, d, t, xs, ys, r, ho, h => by
    simp only [eqT] at h
    cases hu : P.underlying t with
    | none => rw [hu] at h; simp at h
    | some de =>
      rw [hu] at h
      unfold valAt
      rw [hu]
      cases de with
      | struct fs =>
        simp only at h ⊢
        simp only [eqOk, hu, Bool.and_eq_true, Bool.not_eq_true'] at ho
        have hfs : P.fieldsOf t = fs := by simp [Program.fieldsOf, hu]
        have h3 := run_equalIn_struct (P := P) w (d + n) t xs.toArray ys.toArray (by rw [hfs]; exact hu) ho.1
        rw [← Nat.add_assoc, h3, hfs]
        have key : ∀ (l : List Field) (r : Bool), (l.all fun f => f.name != "_" && (P.info? f.type).isSome && eqOk P n f.type && (match P.underlying f.type with | some (.struct _) => true | some (.array ..) => false | _ => Nat.beq (P.cellsOf f.type) 1)) = true →
            l.foldr (fun f r => match eqT P n f.type ((xs.drop f.offset).take (P.cellsOf f.type)) ((ys.drop f.offset).take (P.cellsOf f.type)), r with
              | some b, some r => some (b && r)
              | _, _ => none) (some true) = some r → (Op.eqFields (d + n) xs.toArray ys.toArray l).run P w = .ok r w := by
          intro l
          induction l with
          | nil => intro r _ h; simp only [List.foldr_nil, Option.some.injEq] at h; subst h; simp [Op.eqFields]
          | cons f l ih =>
            intro r ha h
            simp only [List.all_cons, Bool.and_eq_true] at ha
            obtain ⟨⟨⟨⟨a1, a2⟩, a3⟩, a4⟩, a5⟩ := ha
            simp only [List.foldr_cons] at h
            split at h
            · next b r' hb hr =>
              simp only [Option.some.injEq] at h
              subst h
              cases n with
              | zero => simp [eqT] at hb
              | succ n =>
                have q := eqT_some hb
                have p1 := part_run (w := w) (xs := xs) a2 a4 (q.imp (fun h => h) fun h => ⟨h.1, h.2.2⟩)
                have p2 := part_run (w := w) (xs := ys) a2 a4 (q.imp (fun h => h) fun h => ⟨h.2.1, h.2.2⟩)
                have e1 := eqT_run (w := w) (n + 1) d f.type _ _ b a3 hb
                have i1 := ih r' a5 hr
                have hn : f.name ≠ "_" := by simpa using a1
                simp only [Op.eqFields, hn, ne_eq, not_false_eq_true, if_true, Sem.run_bind, p1, p2, Result.andThen_ok, e1]
                cases b with
                | true => simpa using i1
                | false => simp
            · cases h
        exact key _ _ ho.2 h
      | int k =>
        simp only at h ⊢
        split at h
        · next k1 a k2 b =>
          split at h
          · next hk =>
            obtain rfl := kEq_eq hk
            simp only [Option.some.injEq] at h; subst h
            show (Op.equalIn (d + n + 1) t (.int k1 a) (.int k1 b)).run P w = _
            rw [run_equalIn_int w _ t k1 k a b hu]; rfl
          · cases h
        · cases h
      | bool =>
        simp only at h ⊢
        split at h
        · next a b =>
          simp only [Option.some.injEq] at h; subst h
          show (Op.equalIn (d + n + 1) t (.bool a) (.bool b)).run P w = _
          rw [run_equalIn_bool' w _ t a b hu]
        · cases h
      | string =>
        simp only at h ⊢
        split at h
        · next a b =>
          simp only [Option.some.injEq] at h; subst h
          show (Op.equalIn (d + n + 1) t (.string a) (.string b)).run P w = _
          rw [run_equalIn_string w _ t a b hu]
        · cases h
      | _ => simp at h
section
variable {X : Cx} {d : Option Nat} {ty : TypeId} {pos : String} {aft : Array Edge} {g : Option (Nat × Bool)} {t : T} {σ : Sg}
theorem cmp_run {γ : Ids} {H : HF} {P : Program} {tt : TypeId} {u v : Value} {as bs : List AV} {xs ys : List Value} {fs : Array Field} {r : Bool} (n : Nat) {w : World} (h1 : Rep γ H (.agg as) u) (h2 : Rep γ H (.agg bs) v) (hxs : valsOf as = some xs) (hys : valsOf bs = some ys)
    (hu : P.underlying tt = some (.struct fs)) (ho : eqOk P n tt = true) (hn : n ≤ 10000) (hr : eqT P n tt xs ys = some r) :
    u = .agg xs.toArray ∧ v = .agg ys.toArray ∧ (Op.equalIn 10000 tt (.agg xs.toArray) (.agg ys.toArray)).run P w = .ok r w := by
  cases h1 with
  | agg _ us hl1 hr1 =>
  cases h2 with
  | agg _ vs hl2 hr2 =>
  have e1 := valsOf_rep hxs hl1 hr1
  have e2 := valsOf_rep hys hl2 hr2
  subst e1; subst e2
  have := eqT_run (w := w) n (10000 - n) tt us vs r ho hr
  rw [show 10000 - n + n = 10000 by omega] at this
  simp only [valAt, hu] at this
  exact ⟨rfl, rfl, this⟩
theorem O.eqT {tt yt : TypeId} {x y : Operand} {as bs : List AV} {xs ys : List Value} {fs : Array Field} {r : Bool} (n : Nat) (hx : ge t x = some (.agg as)) (hy : ge t y = some (.agg bs)) (hxs : valsOf as = some xs) (hys : valsOf bs = some ys)
    (hu : X.P.underlying tt = some (.struct fs)) (ho : eqOk X.P n tt = true) (hg : X.P.eqGuardType X.P.depth tt = false) (hr : Gv.eqT X.P n tt xs ys = some r) (hn : n ≤ 10000 := by decide) :
    QJ X ⟨d, .binOp .eql tt x y yt, ty, pos, aft, g⟩ t σ (.d (.v (.bool r))) :=
  QJ.value (by simp) (fun γ H a w so sm => by
    obtain ⟨h1, h2, h3⟩ := cmp_run (P := X.P) n (w := w) (so _ (by simp [Op.operands]) _ hx) (so _ (by simp [Op.operands]) _ hy) hxs hys hu ho hn hr
    refine ⟨.bool r, ?_, .d _ _ (.v _ rfl)⟩
    simp only [execOp, h1, h2, Sem.run_bind, run_eql_struct, run_eqGuard_agg w _ _ _ _ _ _ hg, Result.andThen_ok, h3, Sem.run_pure])
theorem O.neT {tt yt : TypeId} {x y : Operand} {as bs : List AV} {xs ys : List Value} {fs : Array Field} {r : Bool} (n : Nat) (hx : ge t x = some (.agg as)) (hy : ge t y = some (.agg bs)) (hxs : valsOf as = some xs) (hys : valsOf bs = some ys)
    (hu : X.P.underlying tt = some (.struct fs)) (ho : eqOk X.P n tt = true) (hg : X.P.eqGuardType X.P.depth tt = false) (hr : Gv.eqT X.P n tt xs ys = some r) (hn : n ≤ 10000 := by decide) :
    QJ X ⟨d, .binOp .neq tt x y yt, ty, pos, aft, g⟩ t σ (.d (.v (.bool (!r)))) :=
  QJ.value (by simp) (fun γ H a w so sm => by
    obtain ⟨h1, h2, h3⟩ := cmp_run (P := X.P) n (w := w) (so _ (by simp [Op.operands]) _ hx) (so _ (by simp [Op.operands]) _ hy) hxs hys hu ho hn hr
    refine ⟨.bool (!r), ?_, .d _ _ (.v _ rfl)⟩
    simp only [execOp, h1, h2, Sem.run_bind, run_neq_struct, run_eqGuard_agg w _ _ _ _ _ _ hg, Result.andThen_ok, h3, Sem.run_pure])
end
theorem Mem.start {w : World} {H : HF} (hok : HOk H w) (γ : Ids) : Mem w H (fun _ => False) γ H [] w :=
  ⟨Keeps.refl _ _, HLe.refl _, HNew.refl _ _ _, hok, fun i e h => by simp [look] at h, fun i e h => by simp [look] at h, fun i e h => by simp [look] at h, fun i e j e' b h => by simp [look] at h⟩
theorem chunkL_one : ∀ (ds : List D), chunkL 1 ds.length ds = ds.map fun d => [d]
  | [] => rfl
  | d :: r => by
    have := chunkL_one r
    simp only [List.length_cons, chunkL, List.map_cons]
    simpa using this
abbrev bD (b : UInt8) : D := .v (.int .u8 b.toNat)
theorem bytesOf_map : ∀ (l : List UInt8), bytesOf (l.map fun b => [bD b]) = some (l.map fun b => (b.toNat : Int))
  | [] => rfl
  | b :: r => by simp [bytesOf, bytesOf_map r]
theorem strOf_map (l : List UInt8) : strOf (l.map fun b => (b.toNat : Int)) = ⟨⟨l⟩⟩ := by
  unfold strOf
  simp only [List.map_map]
  have : ((fun n : Int => UInt8.ofNat n.toNat) ∘ fun b : UInt8 => (b.toNat : Int)) = id := by funext b; simp
  rw [this, List.map_id]
theorem dAll_map {α : Type} (f : α → D) : ∀ (l : List α), dAll (l.map fun a => AV.d (f a)) = some (l.map f)
  | [] => rfl
  | a :: r => by simp [dAll, dOf, dAll_map f r]
end Go.Gv
