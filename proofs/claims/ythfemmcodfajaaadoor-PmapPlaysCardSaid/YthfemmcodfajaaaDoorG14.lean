/- The weakest precondition of code, reckoned. -/
import Derived.Test.YthfemmcodfajaaaDoorGM
set_option linter.unusedVariables false
set_option linter.unusedSimpArgs false
namespace Go.Gv
open Go.RowKit

/-! ### Literals -/
def chunkL (k : Nat) : Nat → List D → List (List D)
  | 0, _ => []
  | n + 1, ds => ds.take k :: chunkL k n (ds.drop k)
theorem chunkL_eq (k : Nat) : ∀ (n : Nat) (ds : List D), chunkL k n ds = chunk k n ds
  | 0, ds => by simp [chunkL, chunk]
  | n + 1, ds => by
    rw [chunkL, chunkL_eq k n]
    simp only [chunk]
    rw [List.range_succ_eq_map]
    simp only [List.map_cons, List.map_map, Nat.zero_mul, List.drop_zero, List.cons.injEq, true_and]
    refine List.map_congr_left fun j _ => ?_
    simp only [Function.comp, List.drop_drop, Nat.succ_eq_add_one]
    rw [Nat.add_mul, Nat.one_mul, Nat.add_comm]
def cellsP (P : Program) (t : TypeId) : Nat := match inf P t with | some i => i.size | none => 0
theorem cellsP_eq (P : Program) (t : TypeId) : cellsP P t = P.cellsOf t := by
  unfold cellsP Program.cellsOf; rw [inf_eq]; cases P.info? t <;> rfl
def placeS (fs : List Field) (P : Program) (i : Nat) : Option (Nat × Nat) := match fs[i]? with
  | some f => some (f.offset, cellsP P f.type)
  | none => none
theorem placeS_eq (fs : List Field) (P : Program) (i : Nat) : (fs.map fun f => (f.offset, P.cellsOf f.type))[i]? = placeS fs P i := by
  unfold placeS
  rw [List.getElem?_map]
  cases fs[i]? <;> simp [cellsP_eq]
def infoAll (P : Program) : List Field → Bool
  | [] => true
  | f :: r => isSomeB (inf P f.type) && infoAll P r
theorem infoAll_eq {P : Program} : ∀ {fs : List Field}, infoAll P fs = true → (fs.all fun f => (P.info? f.type).isSome) = true
  | [], _ => rfl
  | f :: r, h => by
    simp only [infoAll, inf_eq, Bool.and_eq_true] at h
    simp only [List.all_cons, Bool.and_eq_true]
    refine ⟨?_, infoAll_eq h.2⟩
    cases hx : P.info? f.type with
    | none => rw [hx] at h; simp [isSomeB] at h
    | some i => rfl

section
variable {X : Cx} {d : Option Nat} {ty : TypeId} {pos : String} {aft : Array Edge} {g : Option (Nat × Bool)} {t : T} {σ : Sg} {K : AV → Prop} {F : Prop}
/-- An array's literal. -/
theorem O.buildA {s el : TypeId} {n k : Nat} {parts : Array (Nat × Operand)} {z : Value} {ps : List (Nat × AV)} {cs : List AV} (hp : geParts t parts.toList = some ps) (hu : X.P.underlying s = some (.array n el))
    (hzv : ∀ w, (zeroValue s).run X.P w = .ok z w) (hs : ∀ w, (sizeOf el).run X.P w = .ok k w)
    (hf : fillAV (fun i => some (i * k, k)) (z.cells.toList.map cellAV) ps = some cs) : QJ X ⟨d, .build s parts, ty, pos, aft, g⟩ t σ (.agg cs) :=
  QJ.value (by simp) (fun γ H a w so sm => by
    obtain ⟨h1, h2⟩ := geParts_sound (t := t) (l := parts.toList) (fun x hx => so x (by simp [Op.operands] at hx ⊢; exact hx)) hp
    obtain ⟨us', e1, e2, e3⟩ := fill_sound (γ := γ) (H := H) ps _ (z.cells.toList.map cellAV) z.cells.toList (by simp) (fun j x y hx hy => by
      simp only [List.getElem?_map, hy, Option.map_some, Option.some.injEq] at hx
      subst hx; exact rep_cellAV y) h1 h2 hf
    simp only [Array.toArray_toList] at e1
    refine ⟨.agg us'.toArray, ?_, .agg _ _ e2 e3⟩
    have e : parts.map (fun (i, x) => (i, a.eval x)) = (parts.toList.map fun p => (p.1, a.eval p.2)).toArray := by
      apply Array.toList_inj.1; simp
    simp only [execOp, Sem.run_bind, e, Instr.build, hzv, Result.andThen_ok, run_underlying hu, hs]
    simp only [e1, Sem.run_pure, Result.andThen_ok])

def qBuild (X : Cx) (s : TypeId) (parts : Array (Nat × Operand)) (t : T) (K : AV → Prop) (F : Prop) : Prop :=
  match und X.P s, zeroOf X.P s, geParts t parts.toList with
  | some (.struct fs), some z, some ps => (match infoAll X.P fs.toList, fillAV (placeS fs.toList X.P) (z.cells.toList.map cellAV) ps with
    | true, some cs => K (.agg cs)
    | _, _ => F)
  | some (.array _ el), some z, some ps => (match szOf X.P el with
    | some k => (match fillAV (fun i => some (i * k, k)) (z.cells.toList.map cellAV) ps with
      | some cs => K (.agg cs)
      | none => F)
    | none => F)
  | _, _, _ => F
theorem qBuild_sound {s : TypeId} {parts : Array (Nat × Operand)} (h : qBuild X s parts t K F) : Yields X ⟨d, .build s parts, ty, pos, aft, g⟩ t σ K F := by
  simp only [qBuild, und_eq] at h
  split at h
  · next fs z ps hu hz hp =>
    split at h
    · next cs hi hf =>
      refine .inl ⟨_, O.build hp hu (zeroOf_run hz) (infoAll_eq hi) ?_, h⟩
      have : (fun i => (fs.toList.map fun f => (f.offset, X.P.cellsOf f.type))[i]?) = placeS fs.toList X.P := funext fun i => placeS_eq _ _ _
      rw [this]; exact hf
    · exact .inr h
  · next n el z ps hu hz hp =>
    split at h
    · next k hs =>
      split at h
      · next cs hf => exact .inl ⟨_, O.buildA hp hu (zeroOf_run hz) (szOf_run hs) hf, h⟩
      · exact .inr h
    · exact .inr h
  · exact .inr h

def qBuildSlice (X : Cx) (st : TypeId) (len : Nat) (parts : Array (Nat × Operand)) (t : T) (K : AV → Prop) (F : Prop) : Prop :=
  match und X.P st with
  | some (.slice el) => (match szOf X.P el, zeroOf X.P el, geParts t parts.toList with
    | some k, some z, some ps => (match Nat.ble (len * k) 16777216 && Nat.ble len 16777216, fillAV (fun i => some (i * k, k)) (zeroAV z.cells.toList (len * k)) ps with
      | true, some cs => (match dAll cs with
        | some ds => (match Nat.beq ds.length (len * k) with
          | true => K (.full k (chunkL k len ds))
          | false => F)
        | none => F)
      | _, _ => F)
    | _, _, _ => F)
  | _ => F
theorem qBuildSlice_sound {st : TypeId} {len : Nat} {parts : Array (Nat × Operand)} (h : qBuildSlice X st len parts t K F) : Yields X ⟨d, .buildSlice st len parts, ty, pos, aft, g⟩ t σ K F := by
  simp only [qBuildSlice, und_eq] at h
  split at h
  · next el hu =>
    split at h
    · next k z ps hs hz hp =>
      split at h
      · next cs hb hf =>
        split at h
        · next ds hd =>
          split at h
          · next hl =>
            simp only [Bool.and_eq_true, Nat.ble_eq] at hb
            rw [chunkL_eq] at h
            exact .inl ⟨_, O.mkD hp hu (szOf_run hs) (zeroOf_run hz) hb.1 hb.2 hf hd (Nat.eq_of_beq_eq_true hl), h⟩
          · exact .inr h
        · exact .inr h
      · exact .inr h
    · exact .inr h
  · exact .inr h

/-- Quiet operations, literals too. -/
def qw (X : Cx) (o : Oper) (t : T) (σ : Sg) (K : AV → Prop) (F : Prop) : Prop := match o.op with
  | .build s parts => qBuild X s parts t K F
  | .buildSlice st len parts => qBuildSlice X st len parts t K F
  | .lookup mt x y ok => qLook X mt x y ok t σ K F
  | _ => qv X o t σ K F
theorem qw_sound {o : Oper} (h : qw X o t σ K F) : Yields X o t σ K F := by
  unfold qw at h
  split at h
  · next e => obtain ⟨d, op, ty, pos, aft, g⟩ := o; simp only at e; subst e; exact qBuild_sound h
  · next e => obtain ⟨d, op, ty, pos, aft, g⟩ := o; simp only at e; subst e; exact qBuildSlice_sound h
  · next e => obtain ⟨d, op, ty, pos, aft, g⟩ := o; simp only at e; subst e; exact qLook_sound h
  · exact qv_sound h
end

/-! ### Operations that turn what is private -/
def StoreP (off n kk : Nat) (xs : List (List D)) (ds : List D) (K : List (List D) → Prop) : Prop := ∃ j l cs, off = j * kk + l ∧ xs[j]? = some cs ∧ l + n ≤ cs.length ∧ ds.length = n ∧ K (xs.set j (setL cs l ds))
theorem StoreP.of {off n kk : Nat} {xs : List (List D)} {ds : List D} {K : List (List D) → Prop} (j l : Nat) (cs : List D) (h : off = j * kk + l) (h1 : xs[j]? = some cs) (h2 : l + n ≤ cs.length) (h3 : ds.length = n) (k : K (xs.set j (setL cs l ds))) :
    StoreP off n kk xs ds K := ⟨j, l, cs, h, h1, h2, h3, k⟩

def eff (X : Cx) (o : Oper) (t : T) (σ : Sg) (K : T → Sg → Prop) : Prop := match o.op, o.dst with
  | .box _ x, some i => (match ge t x with
    | some av => (match oneAV av && isFresh i t σ X.pin && !(avCells av).any (has2 i) && dOk (some i) X.N with
      | true => K ((i, .box i 0) :: t) ((i, .cells (avCells av)) :: σ)
      | false => OpJ X o t σ K)
    | none => OpJ X o t σ K)
  | .alloc e, some i => (match zeroOf X.P e with
    | some z => (match oneAV (ofConst z) && isFresh i t σ X.pin && !(avCells (ofConst z)).any (has2 i) && dOk (some i) X.N with
      | true => K ((i, .box i 0) :: t) ((i, .cells (avCells (ofConst z))) :: σ)
      | false => OpJ X o t σ K)
    | none => OpJ X o t σ K)
  | .store e x y, none => (match szOf X.P e, ge t x, ge t y with
    | some n, some (.box i off), some v => (match look i σ with
      | some (.cells cs) => (match oneAV v && oneAll (avCells v) && Nat.beq (avCells v).length n && Nat.ble (off + n) cs.length with
        | true => frcN (off + n) (setF cs off (avCells v)) fun cs' => K t ((i, .cells cs') :: σ)
        | false => OpJ X o t σ K)
      | _ => OpJ X o t σ K)
    | some n, some (.boxX i off), some v => (match look i σ with
      | some (.cells cs) => (match oneAV v && oneAll (avCells v) && Nat.beq (avCells v).length n with
        | true => Req (off + n ≤ cs.length) (K t ((i, .cells (setL cs off (avCells v))) :: σ))
        | false => OpJ X o t σ K)
      | some (.arr kk xs) => (match oneAV v, dAll (avCells v) with
        | true, some ds => StoreP off n kk xs ds fun ys => K t ((i, .arr kk ys) :: σ)
        | _, _ => OpJ X o t σ K)
      | _ => OpJ X o t σ K)
    | _, _, _ => OpJ X o t σ K)
  | .call ⟨.builtin .append, ⟨[x, y]⟩, ⟨[st, xt]⟩⟩, d => eApp X d x y st xt t σ K (OpJ X o t σ K)
  | .mapUpdate mt x y z, d => eMapPut X d mt x y z t σ K (OpJ X o t σ K)
  | .insert mt x y z, d => eMapPut X d mt x y z t σ K (OpJ X o t σ K)
  | .makeMap mt none, some i => eMakeMap X i mt t σ K (OpJ X o t σ K)
  | _, d => qw X o t σ (fun V => match dOk d X.N with | true => K (putT d V t) σ | false => False) (OpJ X o t σ K)

theorem eff_sound {X : Cx} {o : Oper} {t : T} {σ : Sg} {K : T → Sg → Prop} (h : eff X o t σ K) : OpJ X o t σ K := by
  obtain ⟨d, op, ty, pos, aft, g⟩ := o
  unfold eff at h
  simp only at h
  split at h
  · split at h
    · next av hx =>
      split at h
      · next hb =>
        simp only [Bool.and_eq_true, Bool.not_eq_true'] at hb
        exact O.box hb.2 hx hb.1.1.1 hb.1.1.2 hb.1.2 h
      · exact h
    · exact h
  · split at h
    · next z hz =>
      split at h
      · next hb =>
        simp only [Bool.and_eq_true, Bool.not_eq_true'] at hb
        exact O.alloc hb.2 (zeroOf_run hz) hb.1.1.1 hb.1.1.2 hb.1.2 h
      · exact h
    · exact h
  · split at h
    · next n i off v hs hx hy =>
      split at h
      · next cs hi =>
        split at h
        · next hb =>
          simp only [Bool.and_eq_true, Nat.ble_eq, Nat.beq_eq] at hb
          rw [frcN_eq, setF_eq] at h
          exact O.store hx rfl hy hi hb.1.1.1 hb.1.1.2 (szOf_run hs) hb.1.2 hb.2 rfl h
        · exact h
      · exact h
    · next n i off v hs hx hy =>
      split at h
      · next cs hi =>
        split at h
        · next hb =>
          simp only [Bool.and_eq_true, Nat.beq_eq] at hb
          exact O.store hx rfl hy hi hb.1.1 hb.1.2 (szOf_run hs) hb.2 h.1 rfl h.2
        · exact h
      · next kk xs hi =>
        split at h
        · next ds h1 hd =>
          obtain ⟨j, l, cs, h2, h3, h4, h5, h⟩ := h
          exact O.storeA hx rfl hy hi h1 hd h2 h3 (szOf_run hs) h5 h4 h
        · exact h
      · exact h
    · exact h
  · exact eApp_sound h
  · exact eMapPut_run (fun _ => rfl) (by simp) h
  · exact eMapPut_run (fun _ => rfl) (by simp) h
  · exact eMakeMap_sound h
  · rcases qw_sound h with ⟨V, hq, hk⟩ | h
    · split at hk
      · next hN => exact OpJ.quiet hq hN hk
      · exact hk.elim
    · exact h

/-! ### Regions -/
/-- A guard's two ways; what it came to is written down. -/
def grd (b0 : Bool) (b : Bool) (d : Nat) (t : T) (yes no : T → Prop) : Prop := match b0 with
  | true => Spl b (yes ((d, .d (.v (.bool true))) :: t)) (no ((d, .d (.v (.bool false))) :: t))
  | false => Spl b (no ((d, .d (.v (.bool true))) :: t)) (yes ((d, .d (.v (.bool false))) :: t))

def dstOf (all : Array Oper) (j : Nat) : Option Nat := match all[j]? with
  | some o => o.dst
  | none => none
theorem dstOf_eq (all : Array Oper) (j : Nat) : ((all[j]?).bind (·.dst)) = dstOf all j := by
  unfold dstOf; cases all[j]? <;> rfl

def vL (X : Cx) (all : Array Oper) : List Oper → T → Sg → (T → Sg → Prop) → Prop
  | [], t, σ, Q => Q t σ
  | o :: rest, t, σ, Q => match o.guard with
    | none => eff X o t σ fun t σ => vL X all rest t σ Q
    | some (j, b0) => match dstOf all j, dOk o.dst X.N with
      | some d, true => (match look d t with
        | some (.d (.v (.bool b))) => grd b0 b d t (fun t => eff X o t σ fun t σ => vL X all rest t σ Q) (fun t => vL X all rest (putT o.dst (.tup []) t) σ Q)
        | some (.tup []) => vL X all rest (putT o.dst (.tup []) t) σ Q
        | _ => False)
      | _, _ => False

theorem LJ.wk {X : Cx} {all : Array Oper} {k : Nat} {rest : List Oper} {t t' : T} {σ : Sg} {Q : T → Sg → Prop} (hw : Wk t' t) (h : LJ X all k rest t' σ Q) : LJ X all k rest t σ Q := LJ.shift (SJ.wk hw (Wk.refl _)) h

theorem vL_sound {X : Cx} {all : Array Oper} {Q : T → Sg → Prop} : ∀ (rest : List Oper) (k : Nat) (t : T) (σ : Sg), vL X all rest t σ Q → LJ X all k rest t σ Q
  | [], k, t, σ, h => LJ.done h
  | o :: rest, k, t, σ, h => by
    unfold vL at h
    split at h
    · next hg => exact LJ.op hg ((eff_sound h).mono fun t σ h => vL_sound rest (k + 1) t σ h)
    · next j b0 hg =>
      split at h
      · next d hd hN =>
        have hd' : ((all[j]?).bind (·.dst)) = some d := by rw [dstOf_eq]; exact hd
        split at h
        · next b hb =>
          have yes : ∀ c, b = c → eff X o ((d, .d (.v (.bool c))) :: t) σ (fun t σ => vL X all rest t σ Q) → c = b0 → LJ X all k (o :: rest) t σ Q := fun c hc he hcb => by
            subst hc; subst hcb
            refine LJ.wk (Wk.cons hb (Wk.refl t)) (LJ.guard hg hd' hN ?_)
            rw [look_cons, if_pos rfl]
            exact ⟨fun _ => (eff_sound he).mono fun t σ h => vL_sound rest (k + 1) t σ h, fun hne => absurd rfl hne⟩
          have no : ∀ c, b = c → vL X all rest (putT o.dst (.tup []) ((d, .d (.v (.bool c))) :: t)) σ Q → c ≠ b0 → LJ X all k (o :: rest) t σ Q := fun c hc he hcb => by
            subst hc
            refine LJ.wk (Wk.cons hb (Wk.refl t)) (LJ.guard hg hd' hN ?_)
            rw [look_cons, if_pos rfl]
            exact ⟨fun e => absurd e hcb, fun _ => vL_sound rest (k + 1) _ σ he⟩
          cases b0 with
          | true => cases b with
            | true => exact yes true rfl (h.1 rfl) rfl
            | false => exact no false rfl (h.2 rfl) (by simp)
          | false => cases b with
            | true => exact no true rfl (h.1 rfl) (by simp)
            | false => exact yes false rfl (h.2 rfl) rfl
        · next hb =>
          refine LJ.guard hg hd' hN ?_
          rw [hb]
          exact vL_sound rest (k + 1) _ σ h
        · exact h.elim
      · exact h.elim

/-! ### Regions that draw -/
/-- The birth of a variable. -/
def bornV (X : Cx) (o : Oper) (t : T) : Option (List AV) := match o.op with
  | .alloc e => (match zeroOf X.P e with
    | some z => (match oneAV (ofConst z) with | true => some (avCells (ofConst z)) | false => none)
    | none => none)
  | .box _ x => (match ge t x with
    | some av => (match oneAV av with | true => some (avCells av) | false => none)
    | none => none)
  | _ => none
theorem bornV_sound {X : Cx} {o : Oper} {t : T} {cs : List AV} (h : bornV X o t = some cs) : NewJ X o t cs := by
  obtain ⟨d, op, ty, pos, aft, g⟩ := o
  unfold bornV at h
  simp only at h
  split at h
  · next e =>
    split at h
    · next z hz =>
      split at h
      · next h1 =>
        cases h
        intro γ H a w so
        obtain ⟨us, hu, hl, hr⟩ := rep_cells (rep_const γ H z) h1
        refine ⟨us, e, ?_, hl, hr⟩
        rw [semAt_of (by simp)]
        simp [execOp, Instr.alloc, newVar, newRow, hu, zeroOf_run hz]
      · cases h
    · cases h
  · next e x =>
    split at h
    · next av hx =>
      split at h
      · next h1 =>
        cases h
        intro γ H a w so
        obtain ⟨us, hu, hl, hr⟩ := rep_cells (so x (by simp [Op.operands]) _ hx) h1
        refine ⟨us, e, ?_, hl, hr⟩
        rw [semAt_of (by simp)]
        simp [execOp, Instr.box, newVar, newRow, hu]
      · cases h
    · cases h
  · cases h

/-- A quiet operation that the reckoning does not know. -/
def QuietP (X : Cx) (o : Oper) (t : T) (σ : Sg) (K : AV → Prop) : Prop := ∃ V, QJ X o t σ V ∧ K V
theorem QuietP.of {X : Cx} {o : Oper} {t : T} {σ : Sg} {K : AV → Prop} {V : AV} (h : QJ X o t σ V) (k : K V) : QuietP X o t σ K := ⟨V, h, k⟩

def stepB (X : Cx) (o : Oper) (t : T) (σ bs : Sg) (K : T → Sg → Prop) : Prop := match bornV X o t, o.dst, o.guard with
  | some cs, some id, none => (match isFresh id t (bs ++ σ) X.pin && !cs.any (has2 id) && dOk (some id) X.N && bs.all (fun p => !entHas p.1 (.cells cs)) with
    | true => K ((id, .box id 0) :: t) ((id, .cells cs) :: bs)
    | false => False)
  | _, d, _ => qw X o t σ (fun V => match dOk d X.N && bs.all (fun p => !has2 p.1 V) with | true => K (putT d V t) bs | false => False)
      (QuietP X o t σ fun V => match dOk d X.N && bs.all (fun p => !has2 p.1 V) with | true => K (putT d V t) bs | false => False)

def vB (X : Cx) (all : Array Oper) (σ : Sg) (Q : T → Sg → Prop) : List Oper → T → Sg → Prop
  | [], t, bs => Q t (bs ++ σ)
  | o :: rest, t, bs => match o.guard with
    | none => stepB X o t σ bs fun t bs => vB X all σ Q rest t bs
    | some (j, b0) => match dstOf all j, dOk o.dst X.N with
      | some d, true => (match look d t with
        | some (.d (.v (.bool b))) => grd b0 b d t (fun t => stepB X o t σ bs fun t bs => vB X all σ Q rest t bs) (fun t => vB X all σ Q rest (putT o.dst (.tup []) t) bs)
        | some (.tup []) => vB X all σ Q rest (putT o.dst (.tup []) t) bs
        | _ => False)
      | _, _ => False

theorem putT_wk {t t' : T} {d : Option Nat} {V : AV} (h : Wk t' t) : Wk (putT d V t') (putT d V t) := Wk.put h

theorem CB.wk {X : Cx} {all : Array Oper} {σ : Sg} {Q : T → Sg → Prop} : ∀ (rest : List Oper) (t t' : T) (bs : Sg), Wk t' t → (∀ p, p ∈ t → p ∈ t') → CB X all σ Q rest t' bs → CB X all σ Q rest t bs
  | [], t, t', bs, hw, _, ⟨t'', h1, h2⟩ => ⟨t'', h1.trans hw, h2⟩
  | o :: rest, t, t', bs, hw, hm, h => by
    rcases h with ⟨V, h1, h2, h3, h4⟩ | ⟨id, cs, hd, hg, hn, hc, hN, hf, hb, h4⟩
    · refine .inl ⟨V, h1.wk hw, h2, h3, CB.wk rest _ _ bs hw.put (fun p hp => ?_) h4⟩
      cases ho : o.dst with
      | none => rw [ho] at hp; exact hm p hp
      | some d =>
        rw [ho] at hp
        rcases List.mem_cons.1 hp with h | h
        · exact List.mem_cons.2 (.inl h)
        · exact List.mem_cons.2 (.inr (hm p h))
    · refine .inr ⟨id, cs, hd, hg, hn.wk hw, hc, hN, isFresh_wkT hf hm, hb, CB.wk rest _ _ _ (fun i a hi => ?_) (fun p hp => ?_) h4⟩
      · rw [look_cons] at hi ⊢
        split
        · next e => rw [if_pos e] at hi; exact hi
        · next e => rw [if_neg e] at hi; exact hw i a hi
      · rcases List.mem_cons.1 hp with h | h
        · exact List.mem_cons.2 (.inl h)
        · exact List.mem_cons.2 (.inr (hm p h))

theorem stepB_sound {X : Cx} {all : Array Oper} {o : Oper} {t : T} {σ bs : Sg} {rest : List Oper} {Q : T → Sg → Prop} {K : T → Sg → Prop} (hK : ∀ t bs, K t bs → CB X all σ Q rest t bs)
    (hg : o.guard = none ∨ ∃ j b d, o.guard = some (j, b) ∧ ((all[j]?).bind (·.dst)) = some d ∧ look d t = some (.d (.v (.bool b)))) (h : stepB X o t σ bs K) : CB X all σ Q (o :: rest) t bs := by
  have fin : ∀ V, QJ X o t σ V → (match dOk o.dst X.N && bs.all (fun p => !has2 p.1 V) with | true => K (putT o.dst V t) bs | false => False) → CB X all σ Q (o :: rest) t bs := fun V hq hk => by
    split at hk
    · next hb =>
      simp only [Bool.and_eq_true] at hb
      rcases hg with hg | ⟨j, b, d, h1, h2, h3⟩
      · exact CB.q hg hq hb.1 hb.2 (hK _ _ hk)
      · exact CB.qy h1 h2 h3 hq hb.1 hb.2 (hK _ _ hk)
    · exact hk.elim
  unfold stepB at h
  split at h
  · next cs id hb hd hg0 =>
    split at h
    · next hx =>
      simp only [Bool.and_eq_true, Bool.not_eq_true'] at hx
      exact CB.born hd hg0 (bornV_sound hb) hx.1.1.2 hx.1.2 hx.1.1.1 hx.2 (hK _ _ h)
    · exact h.elim
  · rcases qw_sound h with ⟨V, hq, hk⟩ | ⟨V, hq, hk⟩
    · exact fin V hq hk
    · exact fin V hq hk

theorem vB_sound {X : Cx} {all : Array Oper} {σ : Sg} {Q : T → Sg → Prop} : ∀ (rest : List Oper) (t : T) (bs : Sg), vB X all σ Q rest t bs → CB X all σ Q rest t bs
  | [], t, bs, h => CB.done h
  | o :: rest, t, bs, h => by
    unfold vB at h
    split at h
    · next hg => exact stepB_sound (fun t bs h => vB_sound rest t bs h) (.inl hg) h
    · next j b0 hg =>
      split at h
      · next d hd hN =>
        have hd' : ((all[j]?).bind (·.dst)) = some d := by rw [dstOf_eq]; exact hd
        split at h
        · next b hb =>
          have yes : ∀ c, b = c → stepB X o ((d, .d (.v (.bool c))) :: t) σ bs (fun t bs => vB X all σ Q rest t bs) → c = b0 → CB X all σ Q (o :: rest) t bs := fun c hc he hcb => by
            subst hc; subst hcb
            exact CB.wk _ _ _ _ (Wk.cons hb (Wk.refl t)) (fun p hp => List.mem_cons.2 (.inr hp)) (stepB_sound (fun t bs h => vB_sound rest t bs h) (.inr ⟨j, b, d, hg, hd', by rw [look_cons, if_pos rfl]⟩) he)
          have no : ∀ c, b = c → vB X all σ Q rest (putT o.dst (.tup []) ((d, .d (.v (.bool c))) :: t)) bs → c ≠ b0 → CB X all σ Q (o :: rest) t bs := fun c hc he hcb => by
            subst hc
            exact CB.wk _ _ _ _ (Wk.cons hb (Wk.refl t)) (fun p hp => List.mem_cons.2 (.inr hp)) (CB.no hg hd' (by rw [look_cons, if_pos rfl]) (by cases b <;> cases b0 <;> simp_all) hN (vB_sound rest _ bs he))
          cases b0 with
          | true => cases b with
            | true => exact yes true rfl (h.1 rfl) rfl
            | false => exact no false rfl (h.2 rfl) (by simp)
          | false => cases b with
            | true => exact no true rfl (h.1 rfl) (by simp)
            | false => exact yes false rfl (h.2 rfl) rfl
        · next hb => exact CB.noU hg hd' hb hN (vB_sound rest _ bs h)
        · exact h.elim
      · exact h.elim

def loud : Op → Bool
  | .store _ _ _ | .mapUpdate _ _ _ _ | .mapEntry _ _ _ | .entryStore _ _ _ _ | .insert _ _ _ _ | .next _ _ | .makeMap _ _ => true
  | .call ⟨.builtin .append, _, _⟩ | .call ⟨.builtin .copy, _, _⟩ | .call ⟨.builtin .delete, _, _⟩ => true
  | .call ⟨.value (.tmp _), _, _⟩ => true
  | _ => false
/-- How many operations stand ahead of the first loud one. -/
def quietN : List Oper → Nat
  | [] => 0
  | o :: r => match loud o.op with
    | true => 0
    | false => quietN r + 1
def drawOk (ops : Array Oper) : Bool := calmOk ops (quietN ops.toList) && Nat.ble (quietN ops.toList) ops.size
def takeQ : List Oper → List Oper
  | [] => []
  | o :: r => match loud o.op with
    | true => []
    | false => o :: takeQ r
def dropQ : List Oper → List Oper
  | [] => []
  | o :: r => match loud o.op with
    | true => o :: r
    | false => dropQ r
theorem takeQ_eq : ∀ l : List Oper, takeQ l = l.take (quietN l)
  | [] => rfl
  | o :: r => by
    unfold takeQ quietN
    split
    · rfl
    · rw [takeQ_eq r]; rfl
theorem dropQ_eq : ∀ l : List Oper, dropQ l = l.drop (quietN l)
  | [] => rfl
  | o :: r => by
    unfold dropQ quietN
    split
    · rfl
    · rw [dropQ_eq r]; rfl

/-- A region that draws its order. -/
def RegP (X : Cx) (id : Nat) (ops : Array Oper) (t : T) (σ : Sg) (Q : T → Sg → Prop) : Prop := ∀ Q' : Qt, (∀ t σ, Q t σ → Q' .normal t σ) → WJ X (.region id ops true) t σ Q'
theorem RegP.of {X : Cx} {id : Nat} {ops : Array Oper} {t : T} {σ : Sg} {Q : T → Sg → Prop} (hm : X.P.follows .mixedOrders = true) (hc : drawOk ops = true)
    (h : vB X ops σ (fun t σ => vL X ops (dropQ ops.toList) t σ Q) (takeQ ops.toList) t []) : RegP X id ops t σ Q := by
  intro Q' hQ
  simp only [drawOk, Bool.and_eq_true, Nat.ble_eq] at hc
  refine WJ.calmB (quietN ops.toList) hm hc.1 hc.2 ?_
  rw [← takeQ_eq]
  have h' := vB_sound _ _ _ h
  have mono : ∀ (rest : List Oper) (t : T) (bs : Sg), CB X ops σ (fun t σ => vL X ops (dropQ ops.toList) t σ Q) rest t bs → CB X ops σ (fun t σ => LJ X ops (quietN ops.toList) (ops.toList.drop (quietN ops.toList)) t σ (Q' .normal)) rest t bs := by
    intro rest
    induction rest with
    | nil =>
      rintro t bs ⟨t', h1, h2⟩
      refine ⟨t', h1, ?_⟩
      rw [← dropQ_eq]
      exact (vL_sound _ _ _ _ h2).mono hQ
    | cons o r ih =>
      intro t bs h
      rcases h with ⟨V, h1, h2, h3, h4⟩ | ⟨id, cs, hd, hg, hn, hc, hN, hf, hb, h4⟩
      · exact .inl ⟨V, h1, h2, h3, ih _ _ h4⟩
      · exact .inr ⟨id, cs, hd, hg, hn, hc, hN, hf, hb, ih _ _ h4⟩
  exact mono _ _ _ h'

/-! ### Code -/
def vc (X : Cx) : Code → T → Sg → Qt → Prop
  | .skip, t, σ, Q => Q .normal t σ
  | .label _, t, σ, Q => Q .normal t σ
  | .seq a b, t, σ, Q => vc X a t σ fun e t σ => match e with
    | .normal => vc X b t σ Q
    | e => Q e t σ
  | .cond c a b, t, σ, Q => (match ge t c with
    | some (.d (.v (.bool x))) => Spl x (vc X a t σ Q) (vc X b t σ Q)
    | _ => False)
  | .block id c, t, σ, Q => vc X c t σ fun e t σ => match e with
    | .exit id' => (match Nat.beq id' id with
      | true => Q .normal t σ
      | false => Q (.exit id') t σ)
    | e => Q e t σ
  | .region _ ops false, t, σ, Q => vL X ops ops.toList t σ (Q .normal)
  | .region id ops true, t, σ, Q => RegP X id ops t σ (Q .normal)
  | .exit id, t, σ, Q => Q (.exit id) t σ
  | .goto l, t, σ, Q => Q (.goto l) t σ
  | .ret, t, σ, Q => Q .ret t σ
  | c, t, σ, Q => WJ X c t σ Q

theorem vc_sound {X : Cx} : ∀ (c : Code) (t : T) (σ : Sg) (Q : Qt), vc X c t σ Q → WJ X c t σ Q
  | .skip, t, σ, Q, h => WJ.skip h
  | .label l, t, σ, Q, h => fun γ H _ _ s => wpIn_label ⟨γ, H, t, σ, s, h⟩
  | .seq a b, t, σ, Q, h => WJ.seq ((vc_sound a t σ _ h).mono fun e t σ q => by
      cases e <;> first | exact vc_sound b t σ Q q | exact q)
  | .cond c a b, t, σ, Q, h => by
    unfold vc at h
    split at h
    · next x hx =>
      intro γ H ac w s
      exact wpIn_cond_split (t := x) (rep_v (ge_sound s.tmp hx)) (fun e => vc_sound a t σ Q (h.1 e) γ H ac w s) (fun e => vc_sound b t σ Q (h.2 e) γ H ac w s)
    · exact h.elim
  | .block id c, t, σ, Q, h => WJ.block ((vc_sound c t σ _ h).mono fun e t σ q => by
      cases e <;> exact q)
  | .region id ops false, t, σ, Q, h => WJ.region (vL_sound _ 0 t σ h)
  | .region id ops true, t, σ, Q, h => h Q fun _ _ h => h
  | .exit id, t, σ, Q, h => WJ.exit h
  | .goto l, t, σ, Q, h => WJ.goto h
  | .ret, t, σ, Q, h => WJ.ret h
  | .loop c, t, σ, Q, h => h
  | .rangeFunc .., t, σ, Q, h => h
  | .scope c, t, σ, Q, h => h
  | .refuse w, t, σ, Q, h => h

/-! ### Results -/
def resV (X : Cx) (t : T) (σ : Sg) : ResultVar → Option AV
  | .tmp i => look i t
  | .cell i ty => match look i t with
    | some (.box j off) => (match look j σ with
      | some (.cells cs) => (match aggOf X.P ty, szOf X.P ty with
        | some true, some n => (match Nat.ble (off + n) cs.length with
          | true => some (.agg ((cs.drop off).take n))
          | false => none)
        | some false, _ => cs[off]?
        | _, _ => none)
      | _ => none)
    | _ => none
def resAll (X : Cx) (t : T) (σ : Sg) : List ResultVar → Option (List AV)
  | [] => some []
  | r :: l => match resV X t σ r with
    | some a => match resAll X t σ l with
      | some as => some (a :: as)
      | none => none
    | none => none

/-- The end of a function: what is handed back. -/
def FinP (X : Cx) (σ : Sg) (r : AV) (Q : AV → Sg → Prop) : Prop := ∃ σ' r', PubR σ r σ' r' ∧ closedB X.pin r' σ' ∧ Q r' σ'
theorem FinP.open {X : Cx} {σ : Sg} {r : AV} {Q : AV → Sg → Prop} (h : r.open = true) (k : Q r []) : FinP X σ r Q :=
  ⟨[], r, .wk (Wk.nil _), ⟨(fun j hj => by rw [has2_open h] at hj; cases hj), (fun i e hi => by simp [look] at hi)⟩, k⟩
theorem FinP.of {X : Cx} {σ : Sg} {r : AV} {Q : AV → Sg → Prop} (σ' : Sg) (hw : Wk σ' σ) (hc : closedB X.pin r σ') (k : Q r σ') : FinP X σ r Q := ⟨σ', r, .wk hw, hc, k⟩
theorem FinP.view {X : Cx} {σ : Sg} {r r1 : AV} {Q : AV → Sg → Prop} (hv : ∀ γ H u, Rep γ H r u → Rep γ H r1 u) (k : FinP X σ r1 Q) : FinP X σ r Q :=
  let ⟨σ', r', hp, hc, hq⟩ := k; ⟨σ', r', .view hv hp, hc, hq⟩
/-- A variable, or a map, is given to all. -/
theorem FinP.pub {X : Cx} {σ : Sg} {r : AV} {Q : AV → Sg → Prop} (i : Nat) {e : Ent} {p : Pub} (hi : look i σ = some e) (hp : pubOf e = some p) (k : FinP X ((i, .gone) :: subS i p σ) (sub2 i p r) Q) : FinP X σ r Q :=
  let ⟨σ', r', h1, hc, hq⟩ := k; ⟨σ', r', .pub i hi hp (fun _ _ _ ok rr => sub2_sound ok rr) h1, hc, hq⟩
/-- A row is given to all. -/
theorem FinP.pubA {X : Cx} {σ : Sg} {Q : AV → Sg → Prop} (i : Nat) {k n : Nat} {xs : List (List D)} (hi : look i σ = some (.arr k xs)) (hn : n ≤ xs.length) (hm : n ≤ 9223372036854775807)
    (kk : FinP X ((i, .gone) :: subS i (.a k xs) σ) (.d (.sl k (xs.take n))) Q) : FinP X σ (.arr i k n) Q :=
  let ⟨σ', r', h1, hc, hq⟩ := kk; ⟨σ', r', .pub i hi rfl (fun γ H u ok rr => by
    cases rr with
    | arr _ _ _ A h1 hA => exact .d _ _ (ok n A hn h1 hA hm)) h1, hc, hq⟩

def one : List AV → AV
  | [r] => r
  | rs => .tup rs
def vRet (X : Cx) (fn : Func) (Q : AV → Sg → Prop) : Qt
  | .normal, t, σ => (match resAll X t σ fn.results.toList with
    | some rs => FinP X σ (one rs) Q
    | none => False)
  | .ret, t, σ => (match resAll X t σ fn.results.toList with
    | some rs => FinP X σ (one rs) Q
    | none => False)
  | _, _, _ => False
end Go.Gv
