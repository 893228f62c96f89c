/- What is reckoned is what an operation yields. -/
import Derived.Test.YthfemmcodfajaaaDoorG7
set_option linter.unusedVariables false
set_option linter.unusedSimpArgs false
namespace Go.Gv
open Go.RowKit

section
variable {X : Cx} {d : Option Nat} {ty : TypeId} {pos : String} {aft : Array Edge} {g : Option (Nat × Bool)} {t : T} {σ : Sg} {K : AV → Prop} {F : Prop}

/-- What is yielded, or what stands for what is not told. -/
def Yields (X : Cx) (o : Oper) (t : T) (σ : Sg) (K : AV → Prop) (F : Prop) : Prop := (∃ V, QJ X o t σ V ∧ K V) ∨ F

theorem O.bin {op : BinOp} {ot yt : TypeId} {x y : Operand} {vx vy v : Value} (hx : ge t x = some (.d (.v vx))) (hy : ge t y = some (.d (.v vy))) (hv : BinRun X.P op ot vx vy v) : QJ X ⟨d, .binOp op ot x y yt, ty, pos, aft, g⟩ t σ (.d (.v v)) :=
  QJ.value (by simp) (fun γ H a w so sm => by
    have h1 := rep_v (so _ (by simp [Op.operands]) _ hx)
    have h2 := rep_v (so _ (by simp [Op.operands]) _ hy)
    refine ⟨v, ?_, .d _ _ (.v v hv.1)⟩
    have := hv.2 x y w
    simp only [execOp, h1, h2]
    simp only [Sem.run_bind] at this ⊢
    rw [this]; rfl)

/-- Nil's fellow. -/
def Fellow : Value → Value → Prop
  | u, .pointer none => ∃ p, u = .pointer (some p)
  | u, .nilFunc => ∃ f xs ys, u = .func f xs ys
  | u, .map none => ∃ p, u = .map (some p)
  | u, .nilIface => ∃ ti v, u = .iface ti v
  | _, _ => False
theorem rep_nilOk {γ : Ids} {H : HF} {a : AV} {b u : Value} (h : nilOk a b = true) (r : Rep γ H a u) : Fellow u b := by
  unfold nilOk at h
  split at h
  · cases r with | d _ _ hr => cases hr; exact ⟨_, rfl⟩
  · cases r; exact ⟨_, rfl⟩
  · cases r; exact ⟨_, rfl⟩
  · cases r with | d _ _ hr => cases hr; exact ⟨_, _, _, rfl⟩
  · cases r; exact ⟨_, _, _, rfl⟩
  · cases r with | d _ _ hr => cases hr; exact ⟨_, rfl⟩
  · cases r; exact ⟨_, rfl⟩
  · cases r with | d _ _ hr => cases hr; exact ⟨_, _, rfl⟩
  · cases r with | d _ _ hr => cases hr; exact ⟨_, _, rfl⟩
  · cases h

/-- Against nil. -/
theorem nilK_sound {op : BinOp} {ot yt : TypeId} {x y : Operand} {a : AV} {b : Value} (hx : ge t x = some a) (hn : nilOk a b = true) (hy : ge t y = some (.d (.v b))) (h : nilK X.P op ot b (rd K) F) : Yields X ⟨d, .binOp op ot x y yt, ty, pos, aft, g⟩ t σ K F := by
  have fin : ∀ (b' : Bool), (∀ u, Fellow u b → BinRun X.P op ot u b (.bool b')) → K (.d (.v (.bool b'))) → Yields X ⟨d, .binOp op ot x y yt, ty, pos, aft, g⟩ t σ K F := fun b' h2 hk =>
    .inl ⟨_, QJ.value (by simp) (fun γ H ac w so sm => by
      have e1 := so _ (by simp [Op.operands]) _ hx
      have e2 := rep_v (so _ (by simp [Op.operands]) _ hy)
      have hv := h2 _ (rep_nilOk hn e1)
      refine ⟨.bool b', ?_, .d _ _ (.v _ rfl)⟩
      have := hv.2 x y w
      simp only [execOp, e2]
      simp only [Sem.run_bind] at this ⊢
      rw [this]; rfl), hk⟩
  have two : ∀ (he : ∀ u w, Fellow u b → (Op.equal ot u b).run X.P w = .ok false w) (hg : ∀ op ox oy u w, Fellow u b → (eqGuard op ot ox oy u b).run X.P w = .ok () w) (hb : ∀ u, Fellow u b → binOp .eql ot u b = (do pure (.bool (← Op.equal ot u b))) ∧ binOp .neq ot u b = (do pure (.bool (!(← Op.equal ot u b))))),
      nilCmp op false (rd K) F → Yields X ⟨d, .binOp op ot x y yt, ty, pos, aft, g⟩ t σ K F := fun he hg hb h => by
    unfold nilCmp at h
    split at h
    · exact fin false (fun u hu => ⟨rfl, fun ox oy w => by rw [(hb u hu).1]; simp [hg _ _ _ _ _ hu, he u w hu]⟩) h
    · exact fin true (fun u hu => ⟨rfl, fun ox oy w => by rw [(hb u hu).2]; simp [hg _ _ _ _ _ hu, he u w hu]⟩) h
    · exact .inr h
  unfold nilK at h
  simp only [und_eq] at h
  split at h
  · split at h
    · next hu =>
      exact two (fun u w ⟨p, e⟩ => by subst e; exact equal_at.trans (eqn_ptr' 9999 hu)) (fun op ox oy u w ⟨p, e⟩ => by subst e; unfold eqGuard; split <;> simp) (fun u ⟨p, e⟩ => by subst e; exact ⟨rfl, rfl⟩) h
    · exact .inr h
  · split at h
    · next hu =>
      exact two (fun u w ⟨f, xs, ys, e⟩ => by subst e; exact equal_at.trans (eqn_func' 9999 hu)) (fun op ox oy u w ⟨f, xs, ys, e⟩ => by subst e; unfold eqGuard; split <;> simp) (fun u ⟨f, xs, ys, e⟩ => by subst e; exact ⟨rfl, rfl⟩) h
    · exact .inr h
  · split at h
    · next hu =>
      exact two (fun u w ⟨p, e⟩ => by subst e; exact equal_at.trans (eqn_map' 9999 hu)) (fun op ox oy u w ⟨p, e⟩ => by subst e; unfold eqGuard; split <;> simp) (fun u ⟨p, e⟩ => by subst e; exact ⟨rfl, rfl⟩) h
    · exact .inr h
  · split at h
    · next hu =>
      exact two (fun u w ⟨p, v, e⟩ => by subst e; exact equal_at.trans (eqn_iface' 9999 hu)) (fun op ox oy u w ⟨p, v, e⟩ => by subst e; unfold eqGuard; split <;> simp) (fun u ⟨p, v, e⟩ => by subst e; exact ⟨rfl, rfl⟩) h
    · exact .inr h
  · exact .inr h

theorem qBin_sound {op : BinOp} {ot yt : TypeId} {x y : Operand} (h : qBin X op ot x y t K F) : Yields X ⟨d, .binOp op ot x y yt, ty, pos, aft, g⟩ t σ K F := by
  unfold qBin at h
  split at h
  · next a b hx hy =>
    rcases binK_sound h with ⟨v, hv, hk⟩ | h
    · exact .inl ⟨_, O.bin hx hy hv, hk⟩
    · exact .inr h
  · next a b _ hx hy =>
    split at h
    · next hn => exact nilK_sound hx hn hy h
    · exact .inr h
  · exact .inr h

theorem qUn_sound {op : UnOp} {ot : TypeId} {x : Operand} (h : qUn op x t K F) : Yields X ⟨d, .unOp op ot x, ty, pos, aft, g⟩ t σ K F := by
  unfold qUn at h
  split at h
  · next k a hx =>
    split at h
    · exact .inl ⟨_, O.un hx (fun w => rfl) rfl, h⟩
    · exact .inr h
  · next b hx =>
    split at h
    · exact .inl ⟨_, O.un hx (fun w => rfl) rfl, h⟩
    · exact .inr h
  · exact .inr h

theorem qConv_sound {src dst : TypeId} {x : Operand} (h : qConv X src dst x t K F) : Yields X ⟨d, .convert src dst x, ty, pos, aft, g⟩ t σ K F := by
  unfold qConv at h
  simp only [und_eq] at h
  split at h
  · next hs hd hx => exact .inl ⟨_, O.conv hx (fun w => by simp [convert, run_underlying hs, run_underlying hd, Conv.intToInt]) rfl, h⟩
  · next hs hd hx => exact .inl ⟨_, O.conv hx (fun w => by simp [convert, run_underlying hs, run_underlying hd, Conv.intToFloat]) rfl, h⟩
  · next hs hd hx => exact .inl ⟨_, O.conv hx (fun w => by simp [convert, run_underlying hs, run_underlying hd, Conv.intToString]) rfl, h⟩
  · next hs hd hx => exact .inl ⟨_, O.conv hx (fun w => by simp [convert, run_underlying hs, run_underlying hd]) rfl, h⟩
  · exact .inr h
end
end Go.Gv
