/- Operations on what is private, and on scalars. -/
import Derived.Test.YthfemmcodfajaaaDoorFwC
set_option linter.unusedVariables false
set_option linter.unusedSimpArgs false
namespace Go.Sv
open Go.RowKit

section scalars
variable {X : Cx} {d : Option Nat} {ty : TypeId} {pos : String} {aft : Array Edge} {g : Option (Nat × Bool)} {t : T} {σ : Sg} {K : T → Sg → Prop}

theorem O.bin {op : BinOp} {ot yt : TypeId} {x y : Operand} {vx vy v : Value} (hx : ge t x = some (.d (.v vx))) (hy : ge t y = some (.d (.v vy)))
    (hv : ∀ w, (do eqGuard op ot x y vx vy; binOp op ot vx vy : Sem Value).run X.P w = .ok v w) (h1c : v.oneCell' = true) : QJ X ⟨d, .binOp op ot x y yt, ty, pos, aft, g⟩ t σ ((.d (.v v))) :=
  QJ.value (by simp) (fun γ H a w so sm => by
    have h1 := rep_v (so _ (by simp [Op.operands, Call.operands]) _ hx)
    have h2 := rep_v (so _ (by simp [Op.operands, Call.operands]) _ hy)
    refine ⟨v, ?_, .d _ _ (.v v h1c)⟩
    have := hv w
    simp only [execOp, h1, h2]
    simp only [Sem.run_bind] at this ⊢
    rw [this]; rfl)

theorem O.un {op : UnOp} {ot : TypeId} {x : Operand} {vx v : Value} (hx : ge t x = some (.d (.v vx)))
    (hv : ∀ w, (Op.unary op vx).run X.P w = .ok v w) (h1c : v.oneCell' = true) : QJ X ⟨d, .unOp op ot x, ty, pos, aft, g⟩ t σ ((.d (.v v))) :=
  QJ.value (by simp) (fun γ H a w so sm => by
    have h1 := rep_v (so _ (by simp [Op.operands, Call.operands]) _ hx)
    refine ⟨v, ?_, .d _ _ (.v v h1c)⟩
    simp only [execOp, h1, Sem.run_bind, hv w]; rfl)

theorem O.conv {src dst : TypeId} {x : Operand} {vx v : Value} (hx : ge t x = some (.d (.v vx)))
    (hv : ∀ w, (convert src dst vx).run X.P w = .ok v w) (h1c : v.oneCell' = true) : QJ X ⟨d, .convert src dst x, ty, pos, aft, g⟩ t σ ((.d (.v v))) :=
  QJ.value (by simp) (fun γ H a w so sm => by
    have h1 := rep_v (so _ (by simp [Op.operands, Call.operands]) _ hx)
    refine ⟨v, ?_, .d _ _ (.v v h1c)⟩
    simp only [execOp, h1, Sem.run_bind, hv w]; rfl)

/-- A builtin on scalars. -/
theorem O.bi1 {b : Builtin} {x : Operand} {tys : Array TypeId} {vx v : Value} (hx : ge t x = some (.d (.v vx)))
    (hv : ∀ cs w, (builtin b tys ty cs #[vx]).run X.P w = .ok (.value v) w) (h1c : v.oneCell' = true) : QJ X ⟨d, .call { callee := .builtin b, args := #[x], argTypes := tys }, ty, pos, aft, g⟩ t σ ((.d (.v v))) :=
  QJ.value (by simp) (fun γ H a w so sm => by
    have h1 := rep_v (so _ (by simp [Op.operands, Call.operands]) _ hx)
    refine ⟨v, ?_, .d _ _ (.v v h1c)⟩
    simp [execOp, resolve, invoke, h1, hv])

theorem O.bi2 {b : Builtin} {x y : Operand} {tys : Array TypeId} {vx vy v : Value} (hx : ge t x = some (.d (.v vx))) (hy : ge t y = some (.d (.v vy)))
    (hv : ∀ cs w, (builtin b tys ty cs #[vx, vy]).run X.P w = .ok (.value v) w) (h1c : v.oneCell' = true) : QJ X ⟨d, .call { callee := .builtin b, args := #[x, y], argTypes := tys }, ty, pos, aft, g⟩ t σ ((.d (.v v))) :=
  QJ.value (by simp) (fun γ H a w so sm => by
    have h1 := rep_v (so _ (by simp [Op.operands, Call.operands]) _ hx)
    have h2 := rep_v (so _ (by simp [Op.operands, Call.operands]) _ hy)
    refine ⟨v, ?_, .d _ _ (.v v h1c)⟩
    simp [execOp, resolve, invoke, h1, h2, hv])

/-- The length of what stands for a slice. -/
def lenAV : AV → Option Nat
  | .d (.sl _ xs) => some xs.length
  | .d (.v (.slice _ n _)) => some n
  | .own _ _ xs => some xs.length
  | .arr _ _ n => some n
  | _ => none
theorem rep_len {γ : Ids} {H : HF} {a : AV} {u : Value} {n : Nat} (r : Rep γ H a u) (h : lenAV a = some n) : ∃ A c, u = .slice A n c := by
  cases r with
  | d x u hr =>
    cases hr with
    | sl k xs A c b o us => simp only [lenAV, Option.some.injEq] at h; subst h; exact ⟨A, c, rfl⟩
    | v _ hc => cases u <;> simp [lenAV] at h; subst h; exact ⟨_, _, rfl⟩
    | _ => simp [lenAV] at h
  | own w k xs A c hr ho => simp only [lenAV, Option.some.injEq] at h; subst h; exact ⟨A, c, rfl⟩
  | arr i k n A _ _ => simp only [lenAV, Option.some.injEq] at h; subst h; exact ⟨A, _, rfl⟩
  | _ => simp [lenAV] at h

theorem O.len {x : Operand} {tt e : TypeId} {av : AV} {n : Nat} (hx : ge t x = some av) (hl : lenAV av = some n) (hu : X.P.underlying tt = some (.slice e))
    : QJ X ⟨d, .call { callee := .builtin .len, args := #[x], argTypes := #[tt] }, ty, pos, aft, g⟩ t σ ((.d (.v (.int .i64 n)))) :=
  QJ.value (by simp) (fun γ H a w so sm => by
    obtain ⟨A, c, h1⟩ := rep_len (so _ (by simp [Op.operands, Call.operands]) _ hx) hl
    refine ⟨.int .i64 n, ?_, .d _ _ (.v _ rfl)⟩
    simp [execOp, resolve, invoke, h1, builtin, Builtin.len_, underlying, hu, goInt])
end scalars

/-! ### Cells -/
def setL {α : Type} : List α → Nat → List α → List α
  | us, _, [] => us
  | us, p, v :: vs => setL (us.set p v) (p + 1) vs
theorem setL_length {α : Type} : ∀ (vs us : List α) (p : Nat), (setL us p vs).length = us.length
  | [], _, _ => rfl
  | v :: vs, us, p => by simp only [setL]; rw [setL_length vs]; simp

structure SameBut (b : Nat) (w w' : World) : Prop where
  os : w'.os = w.os
  tape : w'.tape = w.tape
  output : w'.output = w.output
  size : w'.heap.size = w.heap.size
  block : ∀ k, k ≠ b → w'.heap[k]? = w.heap[k]?
theorem SameBut.refl (b : Nat) (w : World) : SameBut b w w := ⟨rfl, rfl, rfl, rfl, fun _ _ => rfl⟩
theorem SameBut.trans {b : Nat} {u v w : World} (h : SameBut b u v) (k : SameBut b v w) : SameBut b u w :=
  ⟨k.os.trans h.os, k.tape.trans h.tape, k.output.trans h.output, k.size.trans h.size, fun i hi => (k.block i hi).trans (h.block i hi)⟩

theorem store_one {P : Program} {w : World} {b o : Nat} {t : TypeId} {us : List Value} {v : Value} (h : w.heap[b]? = some (.cells us.toArray t (0, 0))) (ho : o < us.length) (hv : v.oneCell' = true) :
    (store ⟨b, o, none⟩ v).run P w = .ok () (w.setCell ⟨b, o, none⟩ v) ∧ (w.setCell ⟨b, o, none⟩ v).heap[b]? = some (.cells (us.set o v).toArray t (0, 0)) ∧ SameBut b w (w.setCell ⟨b, o, none⟩ v) := by
  have hc : w.cell? ⟨b, o, none⟩ = some us[o] := by simp [World.cell?, h, ho]
  have hf : w.frozen? ⟨b, o, none⟩ = false := by simp [World.frozen?, h]
  refine ⟨?_, ?_, rfl, rfl, rfl, by simp [World.setCell], fun k hk => ?_⟩
  · rw [run_store P w _ v .plain hv]
    simp [hc, hf]
  · simp [World.setCell, Array.getElem?_modify, h]
  · simp only [World.setCell, Array.getElem?_modify]
    rw [if_neg (fun e => hk e.symm)]

theorem store_run {P : Program} {b : Nat} {t : TypeId} : ∀ (vs : List Value) (w : World) (us : List Value) (off i : Nat), w.heap[b]? = some (.cells us.toArray t (0, 0)) →
    off + i + vs.length ≤ us.length → (∀ v, v ∈ vs → v.oneCell' = true) →
    ∃ w', (storeCells ⟨b, off, none⟩ vs i).run P w = .ok () w' ∧ w'.heap[b]? = some (.cells (setL us (off + i) vs).toArray t (0, 0)) ∧ SameBut b w w'
  | [], w, us, off, i, h, _, _ => ⟨w, rfl, h, SameBut.refl _ _⟩
  | v :: vs, w, us, off, i, h, hl, hv => by
    simp only [List.length_cons] at hl
    obtain ⟨h1, h2, h3⟩ := store_one (P := P) h (o := off + i) (by omega) (hv v (by simp))
    obtain ⟨w', h4, h5, h6⟩ := store_run (P := P) vs _ _ off (i + 1) h2 (by simp; omega) (fun v hm => hv v (by simp [hm]))
    refine ⟨w', ?_, h5, h3.trans h6⟩
    have ha : (⟨b, off, none⟩ : Addr).add i = ⟨b, off + i, none⟩ := by
      unfold Addr.add; split <;> simp_all
    simp only [storeCells, ha, Sem.run_bind, h1, Result.andThen_ok, h4]

/-- What lies in one private block turns. -/
theorem Mem.turn {w0 w w' : World} {H0 H : HF} {B : Nat → Prop} {γ : Ids} {σ : Sg} {i : Nat} {e e' : Ent} (h : Mem w0 H0 B γ H σ w) (hi : look i σ = some e) (hr : Real γ i e) (hH : ∀ o, H (γ i).1 o = none)
    (hs : SameBut (γ i).1 w w') (hr' : Real γ i e' → Real γ i e) (he : EntOk γ H w' i e') : Mem w0 H0 B γ H ((i, e') :: σ) w' := by
  have hfr := h.fresh i e hi hr
  refine ⟨⟨hs.os.trans h.keep.os, hs.tape.trans h.keep.tape, hs.output.trans h.keep.output, by rw [hs.size]; exact h.keep.size, fun k hk hb => ?_⟩, h.hle, h.hnew, ?_, ?_, ?_, ?_⟩
  · rw [hs.block k (fun ek => ?_)]
    · exact h.keep.block k hk hb
    · subst ek; rcases hfr with x | x
      · omega
      · exact hb x
  · intro b o v hv
    have hb : b ≠ (γ i).1 := fun e => by subst e; rw [hH] at hv; cases hv
    have := h.hok b o v hv
    simp only [World.cell?] at this ⊢
    rw [hs.block b hb]; exact this
  · intro j f hj
    rw [look_cons] at hj
    split at hj
    · next e => subst e; simp only [Option.some.injEq] at hj; subst hj; exact he
    · next hne =>
      have hok := h.ent j f hj
      by_cases hrj : Real γ j f
      · have hb : (γ j).1 ≠ (γ i).1 := fun e => hne (h.apart j f i _ hj hi hrj hr e)
        cases f with
        | gone => exact hok
        | cells cs => obtain ⟨h0, t, us, h1, h2, h3⟩ := hok; exact ⟨h0, t, us, (hs.block _ hb).trans h1, h2, h3⟩
        | row k n =>
          refine ⟨hok.1, fun hr => ?_⟩
          obtain ⟨h0, t, us, h1, h2⟩ := hok.2 hr
          exact ⟨h0, t, us, (hs.block _ hb).trans h1, h2⟩
        | arr k xs =>
          refine ⟨hok.1, hok.2.1, fun hr => ?_⟩
          obtain ⟨h0, t, us, h1, h2, h3⟩ := hok.2.2 hr
          exact ⟨h0, t, us, (hs.block _ hb).trans h1, h2, h3⟩
        | obj o => exact (hs.block _ hb).trans hok
      · cases f with
        | gone => exact hok
        | cells cs => exact absurd trivial hrj
        | row k n => exact ⟨hok.1, fun hr => absurd hr hrj⟩
        | arr k xs => exact ⟨hok.1, hok.2.1, fun hr => absurd hr hrj⟩
        | obj o => exact absurd trivial hrj
  · intro j f hj hrj
    rw [look_cons] at hj
    split at hj
    · next e => subst e; exact hfr
    · exact h.fresh j f hj hrj
  · intro j f l f' hj hl hrj hrl hjl
    rw [look_cons] at hj hl
    split at hj <;> split at hl
    · next e1 e2 => exact e1.trans e2.symm
    · next e1 e2 => subst e1; simp only [Option.some.injEq] at hj; subst hj; exact h.apart _ e l f' hi hl hr hrl hjl
    · next e1 e2 => subst e2; simp only [Option.some.injEq] at hl; subst hl; exact h.apart j f _ e hj hi hrj hr hjl
    · exact h.apart j f l f' hj hl hrj hrl hjl

/-! ### A new private block -/
def has0 (i : Nat) : AV → Bool
  | .d _ => false
  | .box j _ => Nat.beq i j
  | .arr j _ _ => Nat.beq i j
  | .mp j => Nat.beq i j
  | .own (.row j) _ _ => Nat.beq i j
  | .own .full _ _ => false
  | .junk => false
  | _ => true
def has1 (i : Nat) : AV → Bool
  | .agg cs => cs.any (has0 i)
  | .tup cs => cs.any (has0 i)
  | .fnp _ cs => cs.any (has0 i)
  | a => has0 i a
def has2 (i : Nat) : AV → Bool
  | .agg cs => cs.any (has1 i)
  | .tup cs => cs.any (has1 i)
  | .fnp _ cs => cs.any (has1 i)
  | a => has1 i a
def entHas (i : Nat) : Ent → Bool
  | .cells cs => cs.any (has2 i)
  | _ => false
/-- The id i is named nowhere. -/
def isFresh (i : Nat) (t : T) (σ : Sg) : Bool := t.all (fun p => !has2 i p.2) && σ.all (fun p => !Nat.beq i p.1 && !entHas i p.2)

def upd (γ : Ids) (i : Nat) (p : Nat × Nat) : Ids := fun j => if j = i then p else γ j
theorem upd_same (γ : Ids) (i : Nat) (p : Nat × Nat) : upd γ i p i = p := by simp [upd]
theorem upd_other (γ : Ids) {i j : Nat} (p : Nat × Nat) (h : j ≠ i) : upd γ i p j = γ j := by simp [upd, h]

theorem rep_upd0 {γ : Ids} {H : HF} {a : AV} {u : Value} {i : Nat} {p : Nat × Nat} (r : Rep γ H a u) (h : has0 i a = false) : Rep (upd γ i p) H a u := by
  cases r with
  | junk => exact .junk _
  | d x u h => exact .d x u h
  | agg => simp [has0] at h
  | tup => simp [has0] at h
  | fnp => simp [has0] at h
  | box j off =>
    simp only [has0] at h
    have hne : j ≠ i := fun e => by subst e; simp at h
    have := Rep.box (γ := upd γ i p) (H := H) j off
    rw [upd_other γ p hne] at this; exact this
  | mp j =>
    simp only [has0] at h
    have hne : j ≠ i := fun e => by subst e; simp at h
    have := Rep.mp (γ := upd γ i p) (H := H) j
    rw [upd_other γ p hne] at this; exact this
  | own w k xs A c hr ho =>
    refine .own w k xs A c hr ?_
    cases w with
    | full => exact ho
    | row j =>
      simp only [has0] at h
      have hne : j ≠ i := fun e => by subst e; simp at h
      simp only [OwnOk] at ho ⊢
      rw [upd_other γ p hne]; exact ho
  | arr j k n A hn hA =>
    simp only [has0] at h
    have hne : j ≠ i := fun e => by subst e; simp at h
    have := Rep.arr (γ := upd γ i p) (H := H) j k n A
    rw [upd_other γ p hne] at this; exact this hn hA

theorem any_get {α : Type} {f : α → Bool} {l : List α} (h : l.any f = false) {j : Nat} {a : α} (ha : l[j]? = some a) : f a = false := by
  have := List.any_eq_false.1 h a (mem_of_get ha)
  simpa using this

theorem rep_upd1 {γ : Ids} {H : HF} {a : AV} {u : Value} {i : Nat} {p : Nat × Nat} (r : Rep γ H a u) (h : has1 i a = false) : Rep (upd γ i p) H a u := by
  cases r with
  | agg cs us hl hr => exact .agg cs us hl fun j a u h1 h2 => rep_upd0 (hr j a u h1 h2) (any_get h h1)
  | tup cs us hl hr => exact .tup cs us hl fun j a u h1 h2 => rep_upd0 (hr j a u h1 h2) (any_get h h1)
  | fnp f cs us hl hr => exact .fnp f cs us hl fun j a u h1 h2 => rep_upd0 (hr j a u h1 h2) (any_get h h1)
  | junk => exact .junk _
  | d x u hr => exact rep_upd0 (.d x u hr) h
  | box j off => exact rep_upd0 (.box j off) h
  | mp j => exact rep_upd0 (.mp j) h
  | own w k xs A c hr ho => exact rep_upd0 (.own w k xs A c hr ho) h
  | arr j k n A hn hA => exact rep_upd0 (.arr j k n A hn hA) h
theorem rep_upd {γ : Ids} {H : HF} {a : AV} {u : Value} {i : Nat} {p : Nat × Nat} (r : Rep γ H a u) (h : has2 i a = false) : Rep (upd γ i p) H a u := by
  cases r with
  | agg cs us hl hr => exact .agg cs us hl fun j a u h1 h2 => rep_upd1 (hr j a u h1 h2) (any_get h h1)
  | tup cs us hl hr => exact .tup cs us hl fun j a u h1 h2 => rep_upd1 (hr j a u h1 h2) (any_get h h1)
  | fnp f cs us hl hr => exact .fnp f cs us hl fun j a u h1 h2 => rep_upd1 (hr j a u h1 h2) (any_get h h1)
  | junk => exact .junk _
  | d x u hr => exact rep_upd1 (.d x u hr) h
  | box j off => exact rep_upd1 (.box j off) h
  | mp j => exact rep_upd1 (.mp j) h
  | own w k xs A c hr ho => exact rep_upd1 (.own w k xs A c hr ho) h
  | arr j k n A hn hA => exact rep_upd1 (.arr j k n A hn hA) h

theorem look_mem {α : Type} : ∀ {l : List (Nat × α)} {i : Nat} {a : α}, look i l = some a → (i, a) ∈ l
  | [], i, a, h => by simp [look] at h
  | (j, b) :: r, i, a, h => by
    rw [look_cons] at h
    split at h
    · next e => subst e; simp only [Option.some.injEq] at h; subst h; simp
    · exact List.mem_cons_of_mem _ (look_mem h)

theorem fresh_t {i j : Nat} {t : T} {σ : Sg} {a : AV} (h : isFresh i t σ = true) (hj : look j t = some a) : has2 i a = false := by
  simp only [isFresh, Bool.and_eq_true, List.all_eq_true] at h
  have := h.1 _ (look_mem hj)
  simpa using this
theorem fresh_s {i j : Nat} {t : T} {σ : Sg} {e : Ent} (h : isFresh i t σ = true) (hj : look j σ = some e) : j ≠ i ∧ entHas i e = false := by
  simp only [isFresh, Bool.and_eq_true, List.all_eq_true] at h
  have := h.2 _ (look_mem hj)
  simp only [Bool.not_eq_true', Bool.and_eq_true] at this
  exact ⟨fun e => by subst e; simp at this, this.2⟩

theorem TmpOk.upd {γ : Ids} {H : HF} {t : T} {σ : Sg} {tm : Array Value} {i : Nat} {p : Nat × Nat} (h : TmpOk γ H t tm) (hf : isFresh i t σ = true) : TmpOk (upd γ i p) H t tm :=
  fun j a hj => let ⟨u, hu, r⟩ := h j a hj; ⟨u, hu, rep_upd r (fresh_t hf hj)⟩

theorem EntOk.upd {γ : Ids} {H : HF} {w : World} {i j : Nat} {p : Nat × Nat} {e : Ent} (h : EntOk γ H w j e) (hne : j ≠ i) (hh : entHas i e = false) : EntOk (upd γ i p) H w j e := by
  cases e with
  | gone => trivial
  | cells cs =>
    simp only [EntOk, upd_other γ p hne] at h ⊢
    obtain ⟨h0, t, us, h1, h2, h3⟩ := h
    exact ⟨h0, t, us, h1, h2, fun l a u x y => rep_upd (h3 l a u x y) (any_get hh x)⟩
  | row k n => simpa only [EntOk, upd_other γ p hne] using h
  | arr k xs => simpa only [EntOk, upd_other γ p hne] using h
  | obj o => simpa only [EntOk, upd_other γ p hne] using h

theorem real_upd {γ : Ids} {i j : Nat} {p : Nat × Nat} {e : Ent} (hne : j ≠ i) : Real (upd γ i p) j e ↔ Real γ j e := by
  cases e <;> simp [Real, upd_other γ p hne]

/-- A new block, of an id that is named nowhere. -/
theorem Mem.new {w0 w : World} {H0 H : HF} {B : Nat → Prop} {γ : Ids} {t : T} {σ : Sg} {i : Nat} {e : Ent} {o : Obj} {c : Nat} (h : Mem w0 H0 B γ H σ w) (hf : isFresh i t σ = true)
    (he : EntOk (upd γ i (w.heap.size, c)) H (w.alloc o) i e) : Mem w0 H0 B (upd γ i (w.heap.size, c)) H ((i, e) :: σ) (w.alloc o) := by
  have hb : ∀ k, k < w.heap.size → (w.alloc o).heap[k]? = w.heap[k]? := fun k hk => Below.heap_alloc w o k hk
  have hlt : ∀ j f, look j σ = some f → Real γ j f → (γ j).1 < w.heap.size := fun j f hj hr => (h.ent j f hj).lt hr
  refine ⟨⟨h.keep.os, h.keep.tape, h.keep.output, by have := h.keep.size; rw [World.size_alloc]; omega, fun k hk hB => ?_⟩, h.hle, h.hnew, ?_, ?_, ?_, ?_⟩
  · rw [hb k (Nat.lt_of_lt_of_le hk h.keep.size)]; exact h.keep.block k hk hB
  · intro b o' v hv
    have := h.hok b o' v hv
    simp only [World.cell?] at this ⊢
    cases hx : w.heap[b]? with
    | none => rw [hx] at this; cases this
    | some ob => rw [hb b (lt_of_heap hx)]; exact this
  · intro j f hj
    rw [look_cons] at hj
    split at hj
    · next e => subst e; simp only [Option.some.injEq] at hj; subst hj; exact he
    · next hne =>
      obtain ⟨h1, h2⟩ := fresh_s hf hj
      exact ((h.ent j f hj).upd h1 h2).later (HLe.refl _) hb (fun b o v x => .inl x)
  · intro j f hj hr
    rw [look_cons] at hj
    split at hj
    · next e => subst e; rw [upd_same]; exact .inl h.keep.size
    · next hne => rw [upd_other γ _ hne]; exact h.fresh j f hj ((real_upd hne).1 hr)
  · intro j f l f' hj hl hrj hrl hjl
    rw [look_cons] at hj hl
    split at hj <;> split at hl
    · next e1 e2 => exact e1.trans e2.symm
    · next e1 e2 => subst e1; rw [upd_same, upd_other γ _ e2] at hjl; have := hlt l f' hl ((real_upd e2).1 hrl); omega
    · next e1 e2 => subst e2; rw [upd_same, upd_other γ _ e1] at hjl; have := hlt j f hj ((real_upd e1).1 hrj); omega
    · next e1 e2 => rw [upd_other γ _ e1, upd_other γ _ e2] at hjl; exact h.apart j f l f' hj hl ((real_upd e1).1 hrj) ((real_upd e2).1 hrl) hjl

end Go.Sv
