/- Rows that are appended to. -/
import Derived.Test.YthfemmcodfajaaaDoorG13
import Derived.Test.YthfemmcodfajaaaDoorGP
set_option linter.unusedVariables false
set_option linter.unusedSimpArgs false
namespace Go.Gv
open Go.RowKit

/-- What lies in a slice that is read: its cells, one behind the other. -/
theorem repd_flat {P : Program} {H : HF} {k : Nat} {ys : List (List D)} {u : Value} (r : RepD H (.sl k ys) u) :
    ∃ (A : Option Addr) (c : Nat) (vs : List Value), u = .slice A ys.length c ∧ (∀ w : World, (∀ b o v, H.c b o = some v → w.cell? ⟨b, o, none⟩ = some v) → (Builtin.firstCells k ys.length u).run P w = .ok vs.toArray w) ∧ vs.length = ys.length * k ∧ (∀ v, v ∈ vs → v.oneCell' = true) ∧
      ∀ (j l : Nat) (cs : List D) (a : D) (v : Value), ys[j]? = some cs → cs[l]? = some a → vs[j * k + l]? = some v → RepD H a v := by
  cases r with
  | sl _ _ A c b o us hk hn hc hA hH hrep =>
    by_cases h0 : ys.length = 0
    · have hy : ys = [] := List.length_eq_zero_iff.1 h0
      subst hy
      refine ⟨A, c, [], rfl, fun w _ => ?_, by simp, by simp, by simp⟩
      cases A <;> simp [Builtin.firstCells, loadCells, loadCellsFrom]
    · have hA' := hA (by omega)
      subst hA'
      let f : Nat → Value := fun p => us (p / k) (p % k)
      have hcell : ∀ w : World, (∀ b o v, H.c b o = some v → w.cell? ⟨b, o, none⟩ = some v) → ∀ p, p < ys.length * k → w.cell? ⟨b, o + p, none⟩ = some (f p) := fun w hok p hp => by
        have hk0 : 0 < k := by
          rcases Nat.eq_zero_or_pos k with h | h
          · subst h; simp at hp
          · exact h
        have h1 : p / k < ys.length := (Nat.div_lt_iff_lt_mul hk0).2 hp
        have := hok _ _ _ (hH (p / k) (p % k) h1 (Nat.mod_lt _ hk0))
        rw [show o + p / k * k + p % k = o + p from by rw [Nat.add_assoc, Nat.div_add_mod']] at this
        exact this
      refine ⟨_, c, (List.range (ys.length * k)).map f, rfl, fun w hok => ?_, by simp, ?_, ?_⟩
      · have := load_cells (P := P) (w := w) (b := b) (vs := f) (ys.length * k) o 0 #[] (fun j hj => by simpa using hcell w hok j hj)
        simp only [Builtin.firstCells, loadCells]
        rw [this, List.range_eq_range']
        simp
      · intro v hv
        simp only [List.mem_map, List.mem_range] at hv
        obtain ⟨p, hp, rfl⟩ := hv
        have hk0 : 0 < k := by
          rcases Nat.eq_zero_or_pos k with h | h
          · subst h; simp at hp
          · exact h
        have h1 : p / k < ys.length := (Nat.div_lt_iff_lt_mul hk0).2 hp
        have h2 : (ys[p / k]).length = k := hk _ (List.getElem_mem h1)
        exact (repd_one (hrep (p / k) (p % k) ys[p / k] ((ys[p / k])[p % k]'(by rw [h2]; exact Nat.mod_lt _ hk0)) (by simp [h1]) (by rw [List.getElem?_eq_getElem]))).1
      · intro j l cs a v hj hl hv
        have h1 : l < k := by rw [← hk cs (mem_of_get hj)]; exact (List.getElem?_eq_some_iff.1 hl).1
        have hv' : v = f (j * k + l) := by
          have := (List.getElem?_eq_some_iff.1 hv).2
          simp at this; exact this.symm
        have e1 : (j * k + l) / k = j := by
          rw [Nat.mul_comm, Nat.mul_add_div (by omega)]; simp [Nat.div_eq_of_lt h1]
        have e2 : (j * k + l) % k = l := by
          rw [Nat.mul_comm, Nat.mul_add_mod]; exact Nat.mod_eq_of_lt h1
        rw [hv']
        show RepD H a (us ((j * k + l) / k) ((j * k + l) % k))
        rw [e1, e2]
        exact hrep j l cs a hj hl

theorem repd_sl_len {H : HF} {k : Nat} {ys : List (List D)} {u : Value} (r : RepD H (.sl k ys) u) : (∀ cs, cs ∈ ys → cs.length = k) ∧ ys.length ≤ 9223372036854775807 := by
  cases r with
  | sl _ _ A c b o us hk hn hc hA hH hrep => exact ⟨hk, hc⟩

/-- What append answers where there is room. -/
theorem append_room {P : Program} {w : World} {st xt el : TypeId} {ty : TypeId} {k : Nat} {A : Option Addr} {n c m : Nat} {x : Value} {vs : List Value} (hu : P.underlying st = some (.slice el)) (hx : P.underlying xt = some (.slice el))
    (hz : ∀ w, (sizeOf el).run P w = .ok k w) (hl : ∀ w, (Builtin.lenOf x).run P w = .ok m w) (hf : (Builtin.firstCells k m x).run P w = .ok vs.toArray w) (hroom : n + m ≤ c) :
    (Builtin.append_ #[st, xt] ty #[.slice A n c, x]).run P w = (match A with
      | some a => (storeCells (a.add (n * k)) vs).run P w
      | none => .ok () w).andThen fun _ w => .ok (.slice A (n + m) c) w := by
  cases A with
  | none => simp [Builtin.append_, underlying, hu, hx, hz, hl, hf, hroom]
  | some a => simp [Builtin.append_, underlying, hu, hx, hz, hl, hf, hroom]

theorem nextcap_le (n c : Nat) (h : c < n) : Builtin.nextslicecap n c ≤ 3 * n + 4096 := by
  unfold Builtin.nextslicecap
  split
  · omega
  · split
    · omega
    · unfold Builtin.growBy; split
      · omega
      · unfold Builtin.growBy; split
        · omega
        · unfold Builtin.growBy; split
          · omega
          · unfold Builtin.growBy; split
            · omega
            · unfold Builtin.growBy; omega

/-- What it answers where there is none. -/
theorem append_grow {P : Program} {w : World} {st xt el : TypeId} {ty : TypeId} {k bytes : Nat} {z : Value} {A : Option Addr} {n c m : Nat} {x : Value} {us vs : List Value} (hu : P.underlying st = some (.slice el)) (hx : P.underlying xt = some (.slice el))
    (hz : ∀ w, (sizeOf el).run P w = .ok k w) (hzv : ∀ w, (zeroValue el).run P w = .ok z w) (hb : ∀ w, ((fun i : TypeInfo => i.bytes) <$> typeInfo el).run P w = .ok bytes w) (hl : ∀ w, (Builtin.lenOf x).run P w = .ok m w)
    (hf : ∀ w' : World, w'.heap = w.heap → (Builtin.firstCells k m x).run P w' = .ok vs.toArray w') (hs : ∀ w' : World, w'.heap = w.heap → (Builtin.firstCells k n (.slice A n c)).run P w' = .ok us.toArray w')
    (hroom : c < n + m) (hbytes : (3 * (n + m) + 4096) * bytes ≤ 281474976710656) (hb0 : bytes ≠ 0) :
    ∃ cap, n + m ≤ cap ∧ (Builtin.append_ #[st, xt] ty #[.slice A n c, x]).run P w =
      .ok (.slice (some ⟨w.heap.size, 0, none⟩) (n + m) cap) (World.alloc w.drew (.cells (us ++ vs ++ (Builtin.zeroCells z.cells (cap - (n + m))).toList).toArray el)) := by
  have hbi : ∃ ti : TypeInfo, (∀ w, (typeInfo el).run P w = .ok ti w) ∧ ti.bytes = bytes := by
    unfold typeInfo at hb ⊢
    have := hb w
    cases hi : P.info? el with
    | none => simp [hi] at this
    | some ti => simp [hi] at this; exact ⟨ti, fun w => by simp [hi], this⟩
  obtain ⟨ti, hti, htb⟩ := hbi
  have hnc : Builtin.nextslicecap (n + m) c * ti.bytes ≤ 281474976710656 := by
    rw [htb]
    exact Nat.le_trans (Nat.mul_le_mul_right _ (nextcap_le _ _ hroom)) hbytes
  have hroom' : ¬ (n + m ≤ c) := by omega
  refine ⟨Question.cut (.appendCap (n + m) c el) (w.tape w.drawn (.appendCap (n + m) c el)), by simp [Question.cut], ?_⟩
  have e1 := hf w.drew rfl
  have e2 := hs w.drew rfl
  have hnb : ¬ ((↑(n + m) : Int) > IntKind.i64.max ∧ (False ∨ ti.bytes = 0)) := fun h => by
    rcases h.2 with h | h
    · exact h
    · exact hb0 (by rw [← htb]; exact h)
  have hn2 : ¬ (Builtin.nextslicecap (n + m) c * ti.bytes > 281474976710656) := by omega
  have hn3 : ¬ (Builtin.nextslicecap (n + m) c * ti.bytes > 2 ^ 48) := hn2
  have hbne : ti.bytes ≠ 0 := by rw [htb]; exact hb0
  simp [Builtin.append_, underlying, hu, hx, hz, hl, hroom', hti, hn2, hbne, Question.forced, e1, e2, hzv, newRow]
  congr 2
  apply Array.toList_inj.1
  simp
theorem setL_get {α : Type} : ∀ (vs us : List α) (p j : Nat), p + vs.length ≤ us.length → (setL us p vs)[j]? = if p ≤ j ∧ j < p + vs.length then vs[j - p]? else us[j]?
  | [], us, p, j, _ => by simp only [setL, List.length_nil, Nat.add_zero]; rw [if_neg (by omega)]
  | v :: vs, us, p, j, h => by
    simp only [List.length_cons] at h
    simp only [setL]
    rw [setL_get vs (us.set p v) (p + 1) j (by simp; omega)]
    by_cases h1 : p + 1 ≤ j ∧ j < p + 1 + vs.length
    · rw [if_pos h1, if_pos (by simp; omega)]
      rw [show j - p = (j - (p + 1)) + 1 from by omega]; simp
    · rw [if_neg h1, List.getElem?_set]
      by_cases h2 : p = j
      · subst h2; rw [if_pos rfl, if_pos (by omega), if_pos (by simp)]; simp
      · rw [if_neg h2, if_neg (by simp; omega)]

/-- The elements of a row that is appended to. -/
theorem arr_snoc {R : D → Value → Prop} {k : Nat} {xs ys : List (List D)} {us vs us' : List Value} (hxk : ∀ cs, cs ∈ xs → cs.length = k) (hyk : ∀ cs, cs ∈ ys → cs.length = k)
    (h1 : ∀ (j l : Nat) (cs : List D) (a : D) (u : Value), xs[j]? = some cs → cs[l]? = some a → us[j * k + l]? = some u → R a u)
    (h2 : ∀ (j l : Nat) (cs : List D) (a : D) (u : Value), ys[j]? = some cs → cs[l]? = some a → vs[j * k + l]? = some u → R a u)
    (he1 : ∀ p, p < xs.length * k → us'[p]? = us[p]?) (he2 : ∀ p, p < ys.length * k → us'[xs.length * k + p]? = vs[p]?) :
    ∀ (j l : Nat) (cs : List D) (a : D) (u : Value), (xs ++ ys)[j]? = some cs → cs[l]? = some a → us'[j * k + l]? = some u → R a u := by
  intro j l cs a u hj hl hu
  have mul_lt : ∀ {n j l : Nat}, j < n → l < k → j * k + l < n * k := fun {n j l} h h' => by
    calc j * k + l < j * k + k := by omega
      _ = (j + 1) * k := by rw [Nat.add_mul]; omega
      _ ≤ n * k := Nat.mul_le_mul_right _ (by omega)
  by_cases hx : j < xs.length
  · rw [List.getElem?_append_left hx] at hj
    have hlk : l < k := by rw [← hxk cs (mem_of_get hj)]; exact (List.getElem?_eq_some_iff.1 hl).1
    rw [he1 _ (mul_lt hx hlk)] at hu
    exact h1 j l cs a u hj hl hu
  · rw [List.getElem?_append_right (by omega)] at hj
    have hlk : l < k := by rw [← hyk cs (mem_of_get hj)]; exact (List.getElem?_eq_some_iff.1 hl).1
    have hjy : j - xs.length < ys.length := (List.getElem?_eq_some_iff.1 hj).1
    have e : j * k + l = xs.length * k + ((j - xs.length) * k + l) := by
      rw [← Nat.add_assoc, ← Nat.add_mul, show xs.length + (j - xs.length) = j from by omega]
    rw [e, he2 _ (mul_lt hjy hlk)] at hu
    exact h2 _ l cs a u hj hl hu


/-! ### A name is dropped -/
def drop (i : Nat) (a : AV) : AV := match has2 i a with
  | true => .junk
  | false => a
def dropT (i : Nat) (t : T) : T := t.map fun q => (q.1, drop i q.2)
def dropE (i : Nat) : Ent → Ent
  | .cells cs => .cells (cs.map (drop i))
  | e => e
def dropS (i : Nat) (σ : Sg) : Sg := σ.map fun q => (q.1, dropE i q.2)
theorem drop_rep {γ : Ids} {H : HF} {i : Nat} {a : AV} {u : Value} (r : Rep γ H a u) : Rep γ H (drop i a) u := by
  unfold drop; split
  · exact .junk u
  · exact r
theorem drop_has (i : Nat) (a : AV) : has2 i (drop i a) = false := by
  unfold drop; split
  · rfl
  · assumption
theorem dropE_has (i : Nat) (e : Ent) : entHas i (dropE i e) = false := by
  cases e with
  | cells cs =>
    simp only [dropE, entHas, List.any_map, List.any_eq_false, Function.comp_apply]
    intro x _
    rw [drop_has]; decide
  | _ => rfl
theorem blk_drop (γ : Ids) (j i : Nat) (e : Ent) : blk γ j (dropE i e) = blk γ j e := by cases e <;> rfl
theorem EntOk.drop {γ : Ids} {H : HF} {w : World} {i j : Nat} {e : Ent} (h : EntOk γ H w j e) : EntOk γ H w j (dropE i e) := by
  cases e with
  | cells cs =>
    obtain ⟨t, us, h1, h2, h3⟩ := h
    exact ⟨t, us, h1, by simp [h2], map_sub drop_rep h3⟩
  | gone => exact h
  | arr k xs => exact h
  | mp ag ks vs => exact h
  | obj o => exact h
  | res ρ s => exact h
theorem look_drop {σ : Sg} {i j : Nat} {f : Ent} (h : look j (dropS i σ) = some f) : ∃ e, look j σ = some e ∧ f = dropE i e := by
  rw [dropS, look_map] at h
  simp only [Option.map_eq_some_iff] at h
  obtain ⟨x, hx, rfl⟩ := h
  exact ⟨x, hx, rfl⟩
theorem St.drop {X : Cx} {γ : Ids} {H : HF} {t : T} {σ : Sg} {a : Act} {w : World} (s : St X γ H t σ a w) (i : Nat) : St X γ H (dropT i t) (dropS i σ) a w := by
  refine ⟨s.lam, s.round, ?_, s.size, s.pinned, fun j b hj => ?_, ⟨s.mem.keep, s.mem.hle, s.mem.hnew, s.mem.hok, fun j f hj => ?_, fun j f hj b hb => ?_, fun j f hj b hb => ?_, fun j f l f' b hj hl hb hb' => ?_⟩⟩
  · obtain ⟨ms, h1, h2⟩ := s.defers
    refine ⟨ms, h1, h2.1, fun b hb => ⟨(h2.2 b hb).1, (h2.2 b hb).2.1, ?_⟩⟩
    rintro ⟨j, f, hj, hbk⟩
    obtain ⟨x, hx, rfl⟩ := look_drop hj
    rw [blk_drop] at hbk
    exact (h2.2 b hb).2.2 ⟨j, x, hx, hbk⟩
  · rw [dropT, look_map0] at hj
    simp only [Option.map_eq_some_iff] at hj
    obtain ⟨x, hx, rfl⟩ := hj
    obtain ⟨u, hu, r⟩ := s.tmp j x hx
    exact ⟨u, hu, drop_rep r⟩
  · obtain ⟨x, hx, rfl⟩ := look_drop hj
    exact (s.mem.ent j x hx).drop
  · obtain ⟨x, hx, rfl⟩ := look_drop hj
    rw [blk_drop] at hb; exact s.mem.free j x hx b hb
  · obtain ⟨x, hx, rfl⟩ := look_drop hj
    rw [blk_drop] at hb; exact s.mem.fresh j x hx b hb
  · obtain ⟨x, hx, rfl⟩ := look_drop hj
    obtain ⟨y, hy, rfl⟩ := look_drop hl
    rw [blk_drop] at hb hb'; exact s.mem.apart j x l y b hx hy hb hb'

section append
variable {X : Cx} {d : Option Nat} {ty : TypeId} {pos : String} {aft : Array Edge} {g : Option (Nat × Bool)} {t : T} {σ : Sg} {K : T → Sg → Prop}
theorem lenOf_sl {P : Program} {w : World} {A : Option Addr} {n c : Nat} : (Builtin.lenOf (.slice A n c)).run P w = .ok n w := rfl
theorem setL_get' {α : Type} : ∀ (vs us : List α) (p j : Nat), p + vs.length ≤ us.length → (setL us p vs)[j]? = if p ≤ j ∧ j < p + vs.length then vs[j - p]? else us[j]?
  | [], us, p, j, _ => by simp only [setL, List.length_nil, Nat.add_zero]; rw [if_neg (by omega)]
  | v :: vs, us, p, j, h => by
    simp only [List.length_cons] at h
    simp only [setL]
    rw [setL_get' vs (us.set p v) (p + 1) j (by simp; omega)]
    by_cases h1 : p + 1 ≤ j ∧ j < p + 1 + vs.length
    · rw [if_pos h1, if_pos (by simp; omega)]
      rw [show j - p = (j - (p + 1)) + 1 from by omega]; simp
    · rw [if_neg h1, List.getElem?_set]
      by_cases h2 : p = j
      · subst h2; rw [if_pos rfl, if_pos (by omega), if_pos (by simp)]; simp
      · rw [if_neg h2, if_neg (by simp; omega)]

/-- A row's block is another one now. -/
theorem St.moved {γ : Ids} {H : HF} {a : Act} {w w' : World} {i n : Nat} {e e' : Ent} (s : St X γ H t σ a w) (hi : look i σ = some e) (hpin : i ∉ X.pin)
    (k : Mem w H (fun _ => False) (upd γ i ⟨w.heap.size, n, fun _ => False⟩) H [(i, e')] w') {V : AV} {v : Value} (hN : dOk d X.N = true) (r : Rep (upd γ i ⟨w.heap.size, n, fun _ => False⟩) H V v) :
    St X (upd γ i ⟨w.heap.size, n, fun _ => False⟩) H (putT d V (dropT i t)) ((i, e') :: dropS i σ) (a.put d v) w' := by
  have o : ∀ j, j ≠ i → γ j = upd γ i ⟨w.heap.size, n, fun _ => False⟩ j := fun j hj => (upd_other γ _ hj).symm
  have s1 := s.drop i
  have key := s1.step (σ' := [(i, e')]) (σr := (dropS i σ).filter fun p => !Nat.beq p.1 i) k (fun _ h => h.elim) (fun j f hj => ?_) (fun j f hj => ?_) (fun j f hj => ?_) (fun j hj => o j fun e => hpin (e ▸ hj)) (fun j x hj l hl => o l fun e => ?_) hN r
  · refine key.wk (Wk.refl _) fun j f hj => ?_
    rw [look_cons] at hj
    rw [List.singleton_append, look_cons]
    split at hj
    · next e1 => rw [if_pos e1]; exact hj
    · next e1 =>
      rw [if_neg e1, look_filterN (q := fun j => !Nat.beq j i)]
      have : Nat.beq j i = false := by rw [← Bool.not_eq_true, Nat.beq_eq]; exact e1
      rw [this]; exact hj
  · rw [look_filterN (q := fun j => !Nat.beq j i)] at hj
    split at hj
    · exact hj
    · cases hj
  · rw [look_filterN (q := fun j => !Nat.beq j i)] at hj
    rw [look_cons]
    split at hj
    · next h1 =>
      have : j ≠ i := fun e => by subst e; simp at h1
      rw [if_neg this]; rfl
    · cases hj
  · rw [look_filterN (q := fun j => !Nat.beq j i)] at hj
    split at hj
    · next h1 =>
      have hne : j ≠ i := fun e => by subst e; simp at h1
      obtain ⟨x, hx, rfl⟩ := look_drop hj
      exact ⟨o j hne, fun l hl => o l fun e => by subst e; rw [dropE_has] at hl; cases hl⟩
    · cases hj
  · subst e
    rw [dropT, look_map0] at hj
    simp only [Option.map_eq_some_iff] at hj
    obtain ⟨y, hy, rfl⟩ := hj
    rw [drop_has] at hl; cases hl
theorem St.ids {γ γ' : Ids} {H : HF} {a : Act} {w : World} (s : St X γ H t σ a w) (e : γ = γ') : St X γ' H t σ a w := e ▸ s
end append
end Go.Gv
