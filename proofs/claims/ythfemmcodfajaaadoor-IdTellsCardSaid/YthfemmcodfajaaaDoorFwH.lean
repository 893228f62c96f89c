/- Rows that are made and appended to. -/
import Derived.Test.YthfemmcodfajaaaDoorFwG
set_option linter.unusedVariables false
set_option linter.unusedSimpArgs false
namespace Go.Sv
open Go.RowKit

/-- What lies in a slice that is read: its cells, one behind the other. -/
theorem repd_flat {P : Program} {H : HF} {k : Nat} {ys : List (List D)} {u : Value} (r : RepD H (.sl k ys) u) :
    ∃ (A : Option Addr) (c : Nat) (vs : List Value), u = .slice A ys.length c ∧ (∀ w : World, (∀ b o v, H b o = some v → w.cell? ⟨b, o, none⟩ = some v) → (Builtin.firstCells k ys.length u).run P w = .ok vs.toArray w) ∧ vs.length = ys.length * k ∧ (∀ v, v ∈ vs → v.oneCell' = true) ∧
      ∀ (j l : Nat) (cs : List D) (a : D) (v : Value), ys[j]? = some cs → cs[l]? = some a → vs[j * k + l]? = some v → RepD H a v := by
  cases r with
  | sl _ _ A c b o us hk hn hc hA hH hrep =>
    by_cases h0 : ys.length = 0
    · have hy : ys = [] := List.length_eq_zero_iff.1 h0
      subst hy
      refine ⟨A, c, [], rfl, fun w _ => ?_, by simp, by simp, by simp⟩
      cases A <;> simp [Builtin.firstCells, loadCells, loadCellsFrom]
    · have hA' := hA (by omega)
      subst hA'
      let f : Nat → Value := fun p => us (p / k) (p % k)
      have hcell : ∀ w : World, (∀ b o v, H b o = some v → w.cell? ⟨b, o, none⟩ = some v) → ∀ p, p < ys.length * k → w.cell? ⟨b, o + p, none⟩ = some (f p) := fun w hok p hp => by
        have hk0 : 0 < k := by
          rcases Nat.eq_zero_or_pos k with h | h
          · subst h; simp at hp
          · exact h
        have h1 : p / k < ys.length := (Nat.div_lt_iff_lt_mul hk0).2 hp
        have := hok _ _ _ (hH (p / k) (p % k) h1 (Nat.mod_lt _ hk0))
        rw [show o + p / k * k + p % k = o + p from by rw [Nat.add_assoc, Nat.div_add_mod']] at this
        exact this
      refine ⟨_, c, (List.range (ys.length * k)).map f, rfl, fun w hok => ?_, by simp, ?_, ?_⟩
      · have := load_cells (P := P) (w := w) (b := b) (vs := f) (ys.length * k) o 0 #[] (fun j hj => by simpa using hcell w hok j hj)
        simp only [Builtin.firstCells, loadCells]
        rw [this, List.range_eq_range']
        simp
      · intro v hv
        simp only [List.mem_map, List.mem_range] at hv
        obtain ⟨p, hp, rfl⟩ := hv
        have hk0 : 0 < k := by
          rcases Nat.eq_zero_or_pos k with h | h
          · subst h; simp at hp
          · exact h
        have h1 : p / k < ys.length := (Nat.div_lt_iff_lt_mul hk0).2 hp
        have h2 : (ys[p / k]).length = k := hk _ (List.getElem_mem h1)
        exact (repd_one (hrep (p / k) (p % k) ys[p / k] ((ys[p / k])[p % k]'(by rw [h2]; exact Nat.mod_lt _ hk0)) (by simp [h1]) (by rw [List.getElem?_eq_getElem]))).1
      · intro j l cs a v hj hl hv
        have h1 : l < k := by rw [← hk cs (mem_of_get hj)]; exact (List.getElem?_eq_some_iff.1 hl).1
        have hv' : v = f (j * k + l) := by
          have := (List.getElem?_eq_some_iff.1 hv).2
          simp at this; exact this.symm
        have e1 : (j * k + l) / k = j := by
          rw [Nat.mul_comm, Nat.mul_add_div (by omega)]; simp [Nat.div_eq_of_lt h1]
        have e2 : (j * k + l) % k = l := by
          rw [Nat.mul_comm, Nat.mul_add_mod]; exact Nat.mod_eq_of_lt h1
        rw [hv']
        show RepD H a (us ((j * k + l) / k) ((j * k + l) % k))
        rw [e1, e2]
        exact hrep j l cs a hj hl

theorem repd_sl_len {H : HF} {k : Nat} {ys : List (List D)} {u : Value} (r : RepD H (.sl k ys) u) : (∀ cs, cs ∈ ys → cs.length = k) ∧ ys.length ≤ 9223372036854775807 := by
  cases r with
  | sl _ _ A c b o us hk hn hc hA hH hrep => exact ⟨hk, hc⟩

/-- Where nothing is known to hold for good yet. -/
theorem h_none {H : HF} {w : World} (hok : ∀ b o v, H b o = some v → w.cell? ⟨b, o, none⟩ = some v) (o : Nat) : H w.heap.size o = none := by
  cases hx : H w.heap.size o with
  | none => rfl
  | some v =>
    have := hok _ _ _ hx
    simp [World.cell?] at this

/-- A drawn world is the same memory. -/
theorem Mem.drew {w0 w : World} {H0 H : HF} {B : Nat → Prop} {γ : Ids} {σ : Sg} (h : Mem w0 H0 B γ H σ w) : Mem w0 H0 B γ H σ w.drew :=
  ⟨⟨h.keep.os, h.keep.tape, h.keep.output, h.keep.size, h.keep.block⟩, h.hle, h.hnew, h.hok, fun i e hi => by
    have := h.ent i e hi
    cases e <;> exact this, h.fresh, h.apart⟩

/-- What append answers where there is room. -/
theorem append_room {P : Program} {w : World} {st xt el : TypeId} {ty : TypeId} {k : Nat} {A : Option Addr} {n c m : Nat} {x : Value} {vs : List Value} (hu : P.underlying st = some (.slice el)) (hx : P.underlying xt = some (.slice el))
    (hz : ∀ w, (sizeOf el).run P w = .ok k w) (hl : ∀ w, (Builtin.lenOf x).run P w = .ok m w) (hf : (Builtin.firstCells k m x).run P w = .ok vs.toArray w) (hroom : n + m ≤ c) :
    (Builtin.append_ #[st, xt] ty #[.slice A n c, x]).run P w = (match A with
      | some a => (storeCells (a.add (n * k)) vs).run P w
      | none => .ok () w).andThen fun _ w => .ok (.slice A (n + m) c) w := by
  cases A with
  | none => simp [Builtin.append_, underlying, hu, hx, hz, hl, hf, hroom]
  | some a => simp [Builtin.append_, underlying, hu, hx, hz, hl, hf, hroom]

theorem nextcap_le (n c : Nat) (h : c < n) : Builtin.nextslicecap n c ≤ 3 * n + 4096 := by
  unfold Builtin.nextslicecap
  split
  · omega
  · split
    · omega
    · unfold Builtin.growBy; split
      · omega
      · unfold Builtin.growBy; split
        · omega
        · unfold Builtin.growBy; split
          · omega
          · unfold Builtin.growBy; split
            · omega
            · unfold Builtin.growBy; omega

/-- What it answers where there is none. -/
theorem append_grow {P : Program} {w : World} {st xt el : TypeId} {ty : TypeId} {k bytes : Nat} {z : Value} {A : Option Addr} {n c m : Nat} {x : Value} {us vs : List Value} (hu : P.underlying st = some (.slice el)) (hx : P.underlying xt = some (.slice el))
    (hz : ∀ w, (sizeOf el).run P w = .ok k w) (hzv : ∀ w, (zeroValue el).run P w = .ok z w) (hb : ∀ w, ((fun i : TypeInfo => i.bytes) <$> typeInfo el).run P w = .ok bytes w) (hl : ∀ w, (Builtin.lenOf x).run P w = .ok m w)
    (hf : ∀ w' : World, w'.heap = w.heap → (Builtin.firstCells k m x).run P w' = .ok vs.toArray w') (hs : ∀ w' : World, w'.heap = w.heap → (Builtin.firstCells k n (.slice A n c)).run P w' = .ok us.toArray w')
    (hroom : c < n + m) (hbytes : (3 * (n + m) + 4096) * bytes ≤ 281474976710656) (hb0 : bytes ≠ 0) :
    ∃ cap, n + m ≤ cap ∧ (Builtin.append_ #[st, xt] ty #[.slice A n c, x]).run P w =
      .ok (.slice (some ⟨w.heap.size, 0, none⟩) (n + m) cap) (World.alloc w.drew (.cells (us ++ vs ++ (Builtin.zeroCells z.cells (cap - (n + m))).toList).toArray el)) := by
  have hbi : ∃ ti : TypeInfo, (∀ w, (typeInfo el).run P w = .ok ti w) ∧ ti.bytes = bytes := by
    unfold typeInfo at hb ⊢
    have := hb w
    cases hi : P.info? el with
    | none => simp [hi] at this
    | some ti => simp [hi] at this; exact ⟨ti, fun w => by simp [hi], this⟩
  obtain ⟨ti, hti, htb⟩ := hbi
  have hnc : Builtin.nextslicecap (n + m) c * ti.bytes ≤ 281474976710656 := by
    rw [htb]
    exact Nat.le_trans (Nat.mul_le_mul_right _ (nextcap_le _ _ hroom)) hbytes
  have hroom' : ¬ (n + m ≤ c) := by omega
  refine ⟨Question.cut (.appendCap (n + m) c el) (w.tape w.drawn (.appendCap (n + m) c el)), by simp [Question.cut], ?_⟩
  have e1 := hf w.drew rfl
  have e2 := hs w.drew rfl
  have hnb : ¬ ((↑(n + m) : Int) > IntKind.i64.max ∧ (False ∨ ti.bytes = 0)) := fun h => by
    rcases h.2 with h | h
    · exact h
    · exact hb0 (by rw [← htb]; exact h)
  have hn2 : ¬ (Builtin.nextslicecap (n + m) c * ti.bytes > 281474976710656) := by omega
  have hn3 : ¬ (Builtin.nextslicecap (n + m) c * ti.bytes > 2 ^ 48) := hn2
  have hbne : ti.bytes ≠ 0 := by rw [htb]; exact hb0
  simp [Builtin.append_, underlying, hu, hx, hz, hl, hroom', hti, hn2, hbne, Question.forced, e1, e2, hzv, newRow]
  congr 2
  apply Array.toList_inj.1
  simp
end Go.Sv
