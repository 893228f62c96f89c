/- An array given to all, cut to a slice. -/
import Derived.Test.YthfemmcodfajaaaDoorG17
set_option linter.unusedVariables false
set_option linter.unusedSimpArgs false
namespace Go.Gv
open Go.RowKit

section
variable {X : Cx} {d : Option Nat} {ty : TypeId} {pos : String} {aft : Array Edge} {g : Option (Nat × Bool)} {t : T} {σ : Sg}

/-- A slice of an array that is data. -/
theorem O.sliceP {st e : TypeId} {x : Operand} {lo hi : Option Operand} {n k : Nat} {cs : List D} {l h : Int} (hx : ge t x = some (.d (.ptr cs))) (hu : X.P.underlying st = some (.array n e)) (hs : szOf X.P e = some k)
    (hl : loV t lo = some l) (hh : hiV t n hi = some h) (h0 : 0 ≤ l) (h1 : l ≤ h) (h2 : h ≤ (n : Int)) (hc : cs.length = n * k) (hn : n ≤ 9223372036854775807) {xs : List (List D)} (hv : ((chunkL k n cs).take h.toNat).drop l.toNat = xs) :
    QJ X ⟨d, .slice st x lo hi none, ty, pos, aft, g⟩ t σ (.d (.sl k xs)) := by
  subst hv
  refine QJ.value (by simp) (fun γ H a w so sm => ?_)
  obtain ⟨b, o, us, hq, hcc, hr⟩ := repd_ptr (rep_d (so x (by simp [Op.operands]) _ hx))
  have hb := bounds_run (P := X.P) (w := w) (γ := γ) (H := H) (a := a) (isS := false) hl hh h0 h1 h2 (Nat.le_refl _) (fun y hy v hv => so y (by
    rcases hy with rfl | rfl <;> simp [Op.operands]) v hv)
  rw [chunkL_eq]
  obtain ⟨c1, c2⟩ := chunk_len (k := k) (n := n) (ds := cs) hc
  have hsl : RepD H (.sl k (chunk k n cs)) (.slice (some ⟨b, o, none⟩) (chunk k n cs).length n) := by
    refine .sl k _ _ n b o (fun j i => us (j * k + i)) c2 (by omega) (by omega) (fun _ => rfl) (fun j i hj hi => ?_) (fun j i ds d hj hd => ?_)
    · rw [c1] at hj
      rw [Nat.add_assoc]
      refine hcc _ ?_
      rw [hc]
      calc j * k + i < j * k + k := by omega
        _ = (j + 1) * k := by rw [Nat.add_mul]; omega
        _ ≤ n * k := Nat.mul_le_mul_right _ (by omega)
    · obtain ⟨_, _, hx⟩ := chunk_get hc hj hd
      exact hr _ d hx
  have hcut := hsl.cut (l := l.toNat) (h := h.toNat) (c' := n) (by omega) (by rw [c1]; omega) (by omega) (Nat.le_refl _)
  refine ⟨_, ?_, .d _ _ hcut⟩
  simp only [execOp, hq, Instr.sliceAt, Instr.sureAddr, Sem.run_bind, run_underlying hu, Result.andThen_ok, hb, szOf_run hs, Sem.run_pure, Option.map_none]
  congr 3
  split <;> rfl
end
theorem chunkL_one : ∀ (ds : List D), chunkL 1 ds.length ds = ds.map fun d => [d]
  | [] => rfl
  | d :: r => by
    have := chunkL_one r
    simp only [List.length_cons, chunkL, List.map_cons]
    simpa using this
abbrev bD (b : UInt8) : D := .v (.int .u8 b.toNat)
theorem bytesOf_map : ∀ (l : List UInt8), bytesOf (l.map fun b => [bD b]) = some (l.map fun b => (b.toNat : Int))
  | [] => rfl
  | b :: r => by simp [bytesOf, bytesOf_map r]
theorem strOf_map (l : List UInt8) : strOf (l.map fun b => (b.toNat : Int)) = ⟨⟨l⟩⟩ := by
  unfold strOf
  simp only [List.map_map]
  have : ((fun n : Int => UInt8.ofNat n.toNat) ∘ fun b : UInt8 => (b.toNat : Int)) = id := by funext b; simp
  rw [this, List.map_id]
theorem dAll_map {α : Type} (f : α → D) : ∀ (l : List α), dAll (l.map fun a => AV.d (f a)) = some (l.map f)
  | [] => rfl
  | a :: r => by simp [dAll, dOf, dAll_map f r]
end Go.Gv
