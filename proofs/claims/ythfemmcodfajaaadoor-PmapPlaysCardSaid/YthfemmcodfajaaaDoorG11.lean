/- Private variables: made, stored into; literals. -/
import Derived.Test.YthfemmcodfajaaaDoorG10
set_option linter.unusedVariables false
set_option linter.unusedSimpArgs false
namespace Go.Gv
open Go.RowKit

def upd (γ : Ids) (i : Nat) (p : Pl) : Ids := fun j => if j = i then p else γ j
theorem upd_same (γ : Ids) (i : Nat) (p : Pl) : upd γ i p i = p := by simp [upd]
theorem upd_other (γ : Ids) {i j : Nat} (p : Pl) (h : j ≠ i) : upd γ i p j = γ j := by simp [upd, h]

/-- A new block. -/
theorem Mem.new {w0 w : World} {H0 H : HF} {B : Nat → Prop} {γ : Ids} {σ : Sg} (h : Mem w0 H0 B γ H σ w) (i : Nat) (e : Ent) (o : Obj) (n : Nat) (he : EntOk (upd γ i ⟨w.heap.size, n, fun _ => False⟩) H (w.alloc o) i e) (hr : ∀ ρ s, e ≠ .res ρ s) :
    Mem w H (fun _ => False) (upd γ i ⟨w.heap.size, n, fun _ => False⟩) H [(i, e)] (w.alloc o) := by
  have one : ∀ j f, look j ([(i, e)] : Sg) = some f → j = i ∧ f = e := fun j f hj => by
    rw [look_cons] at hj
    split at hj
    · next e' => exact ⟨e', by simpa using hj.symm⟩
    · simp [look] at hj
  have bk : ∀ b, blk (upd γ i ⟨w.heap.size, n, fun _ => False⟩) i e b → b = w.heap.size := fun b hb => by
    cases e with
    | gone => exact hb.elim
    | cells cs => simpa [blk, upd_same] using hb
    | arr k xs => have := hb.1; simpa [upd_same] using this
    | mp ag ks vs => simpa [blk, upd_same] using hb
    | obj o => simpa [blk, upd_same] using hb
    | res ρ s => exact absurd rfl (hr ρ s)
  have old : ∀ k, k < w.heap.size → (w.alloc o).heap[k]? = w.heap[k]? := fun k hk => Below.heap_alloc w o k hk
  refine ⟨⟨rfl, rfl, rfl, by simp, fun k hk _ => old k hk⟩, HLe.refl _, HNew.refl _ _ _, ⟨fun b o' v hv => ?_, fun b es c hv => ?_⟩, fun j f hj => ?_, fun j f hj b hb => ?_, fun j f hj b hb => ?_, fun j f l f' b hj hl hb hb' => ?_⟩
  · have h1 := h.hok.c b o' v hv
    have hlt := lt_of_cell h1
    simp only [World.cell?] at h1 ⊢
    rw [old b hlt]; exact h1
  · have h1 := h.hok.m b es c hv
    exact (old b (lt_of_heap h1)).trans h1
  · obtain ⟨rfl, rfl⟩ := one j f hj; exact he
  · obtain ⟨rfl, rfl⟩ := one j f hj
    obtain rfl := bk b hb
    refine ⟨fun o' => ?_, ?_⟩
    · cases hx : H.c w.heap.size o' with
      | none => rfl
      | some v => have := lt_of_cell (h.hok.c _ _ _ hx); omega
    · cases hx : H.m w.heap.size with
      | none => rfl
      | some v => have := lt_of_heap (h.hok.m _ v.1 v.2 hx); omega
  · obtain ⟨rfl, rfl⟩ := one j f hj
    have := bk b hb; exact .inl (by omega)
  · obtain ⟨rfl, _⟩ := one j f hj; obtain ⟨rfl, _⟩ := one l f' hl; rfl

theorem St.new {X : Cx} {γ : Ids} {H : HF} {t : T} {σ : Sg} {a : Act} {w w' : World} {i n : Nat} {e : Ent} (s : St X γ H t σ a w) (k : Mem w H (fun _ => False) (upd γ i ⟨w.heap.size, n, fun _ => False⟩) H [(i, e)] w') (hf : isFresh i t σ X.pin = true)
    {d : Option Nat} {V : AV} {v : Value} (hN : dOk d X.N = true) (r : Rep (upd γ i ⟨w.heap.size, n, fun _ => False⟩) H V v) : St X (upd γ i ⟨w.heap.size, n, fun _ => False⟩) H (putT d V t) ((i, e) :: σ) (a.put d v) w' := by
  have o : ∀ j, j ≠ i → γ j = upd γ i ⟨w.heap.size, n, fun _ => False⟩ j := fun j hj => (upd_other γ _ hj).symm
  refine s.step (σ' := [(i, e)]) (σr := σ) k (fun _ h => h.elim) (Wk.refl σ) (fun j f hj => ?_) (fun j f hj => ⟨o j (fresh_s hf hj).1, fun l hl => o l fun e' => ?_⟩) (fun j hj => o j (fresh_p hf hj)) (fun j x hj l hl => o l fun e' => ?_) hN r
  · rw [look_cons, if_neg (fresh_s hf hj).1]; rfl
  · subst e'; rw [(fresh_s hf hj).2] at hl; cases hl
  · subst e'; rw [fresh_t hf hj] at hl; cases hl

/-- What lies in one private block turns. -/
theorem Mem.turn {w0 w w' : World} {H0 H : HF} {B : Nat → Prop} {γ : Ids} {σ : Sg} {i : Nat} {e e' : Ent} (h : Mem w0 H0 B γ H σ w) (hi : look i σ = some e) (hb : blk γ i e (γ i).b) (hs : SameBut (γ i).b w w') (he : EntOk γ H w' i e')
    (hb' : ∀ b, blk γ i e' b → b = (γ i).b) : Mem w H (fun b => b = (γ i).b) γ H [(i, e')] w' := by
  have one : ∀ j f, look j ([(i, e')] : Sg) = some f → j = i ∧ f = e' := fun j f hj => by
    rw [look_cons] at hj
    split at hj
    · next e' => exact ⟨e', by simpa using hj.symm⟩
    · simp [look] at hj
  have hfree := h.free i e hi _ hb
  refine ⟨⟨hs.os, hs.tape, hs.output, Nat.le_of_eq hs.size.symm, fun k _ hk => hs.block k hk⟩, HLe.refl _, HNew.refl _ _ _, ⟨fun b o v hv => ?_, fun b es c hv => ?_⟩, fun j f hj => ?_, fun j f hj b hq => ?_, fun j f hj b hq => ?_, fun j f l f' b hj hl hq hq' => ?_⟩
  · have hne : b ≠ (γ i).b := fun e => by subst e; rw [hfree.c] at hv; cases hv
    have := h.hok.c b o v hv
    simp only [World.cell?] at this ⊢
    rw [hs.block b hne]; exact this
  · have hne : b ≠ (γ i).b := fun e => by subst e; rw [hfree.m] at hv; cases hv
    exact (hs.block b hne).trans (h.hok.m b es c hv)
  · obtain ⟨rfl, rfl⟩ := one j f hj; exact he
  · obtain ⟨rfl, rfl⟩ := one j f hj; rw [hb' b hq]; exact hfree
  · obtain ⟨rfl, rfl⟩ := one j f hj; exact .inr (hb' b hq)
  · obtain ⟨rfl, _⟩ := one j f hj; obtain ⟨rfl, _⟩ := one l f' hl; rfl

theorem St.turn {X : Cx} {γ : Ids} {H : HF} {t : T} {σ : Sg} {a : Act} {w w' : World} {i : Nat} {e e' : Ent} (s : St X γ H t σ a w) (hi : look i σ = some e) (hb : blk γ i e (γ i).b) (k : Mem w H (fun b => b = (γ i).b) γ H [(i, e')] w')
    {d : Option Nat} {V : AV} {v : Value} (hN : dOk d X.N = true) (r : Rep γ H V v) : St X γ H (putT d V t) ((i, e') :: σ) (a.put d v) w' := by
  have key := s.step (σr := σ.filter fun p => !Nat.beq p.1 i) k (fun b hb' => ⟨i, e, hi, ?_, by rw [hb']; exact hb⟩) (fun j f hj => ?_) (fun j f hj => ?_) (fun _ _ _ => ⟨rfl, fun _ _ => rfl⟩) (fun _ _ => rfl) (fun _ _ _ _ _ => rfl) hN r
  · refine key.wk (Wk.refl _) fun j f hj => ?_
    rw [look_cons] at hj
    rw [List.singleton_append, look_cons]
    split at hj
    · next e1 => rw [if_pos e1]; exact hj
    · next e1 =>
      rw [if_neg e1, look_filterN (q := fun j => !Nat.beq j i)]
      have : Nat.beq j i = false := by rw [← Bool.not_eq_true, Nat.beq_eq]; exact e1
      rw [this]; exact hj
  · rw [look_filterN (q := fun j => !Nat.beq j i)]; simp
  · rw [look_filterN (q := fun j => !Nat.beq j i)] at hj
    split at hj
    · exact hj
    · cases hj
  · rw [look_filterN (q := fun j => !Nat.beq j i)] at hj
    rw [look_cons]
    split at hj
    · next h1 =>
      have : j ≠ i := fun e => by subst e; simp at h1
      rw [if_neg this]; rfl
    · cases hj

section
variable {X : Cx} {d : Option Nat} {ty : TypeId} {pos : String} {aft : Array Edge} {g : Option (Nat × Bool)} {t : T} {σ : Sg} {K : T → Sg → Prop}

theorem rep_upd {γ : Ids} {H : HF} {a : AV} {u : Value} {i : Nat} {p : Pl} (r : Rep γ H a u) (h : has2 i a = false) : Rep (upd γ i p) H a u :=
  r.agree fun j hj => by
    have : j ≠ i := fun e => by subst e; rw [h] at hj; cases hj
    exact (upd_other γ p this).symm

theorem newCells {γ : Ids} {H : HF} {a : Act} {w : World} {i : Nat} {e : TypeId} {cs : List AV} {us : List Value} {dd : Option Nat}
    (s : St X γ H t σ a w) (hf : isFresh i t σ X.pin = true) (hN : dOk dd X.N = true) (hl : us.length = cs.length) (hr : ∀ (j : Nat) (x : AV) (y : Value), cs[j]? = some x → us[j]? = some y → Rep γ H x y)
    (hc : cs.any (has2 i) = false) :
    St X (upd γ i ⟨w.heap.size, 0, fun _ => False⟩) H (putT dd (.box i 0) t) ((i, .cells cs) :: σ) (a.put dd (.pointer (some ⟨w.heap.size, 0, none⟩))) (w.alloc (.cells us.toArray e)) := by
  refine s.new (s.mem.new i (.cells cs) _ 0 ⟨e, us, ?_, hl, fun j x y hx hy => rep_upd (hr j x y hx hy) (any_get hc hx)⟩ (fun _ _ h => by cases h)) hf hN ?_
  · rw [upd_same]; exact World.alloc_heap_new w _
  · have := Rep.box (γ := upd γ i ⟨w.heap.size, 0, fun _ => False⟩) (H := H) i 0
    rw [upd_same] at this; exact this

/-- A variable, with what it begins with. -/
theorem O.box {i : Nat} {e : TypeId} {x : Operand} {av : AV} (hN : dOk (some i) X.N = true) (hx : ge t x = some av) (h1 : oneAV av = true) (hf : isFresh i t σ X.pin = true) (hc : (avCells av).any (has2 i) = false)
    (k : K ((i, .box i 0) :: t) ((i, .cells (avCells av)) :: σ)) : OpJ X ⟨some i, .box e x, ty, pos, aft, g⟩ t σ K := by
  intro γ H a w s next Q' hk
  obtain ⟨us, hu, hl, hr⟩ := rep_cells (ge_sound s.tmp hx) h1
  have hrun : (execOp a.eval ⟨some i, .box e x, ty, pos, aft, g⟩).run X.P w = .ok (.value (.pointer (some ⟨w.heap.size, 0, none⟩))) (w.alloc (.cells us.toArray e)) := by
    simp [execOp, Instr.box, newVar, newRow, hu]
  rw [semAt_of (by simp), hrun, Oper.uponIn_value]
  exact hk _ H _ _ _ _ (newCells s hf hN hl hr hc) k

theorem O.alloc {i : Nat} {e : TypeId} {z : Value} (hN : dOk (some i) X.N = true) (hz : ∀ w, (zeroValue e).run X.P w = .ok z w) (h1 : oneAV (ofConst z) = true) (hf : isFresh i t σ X.pin = true)
    (hc : (avCells (ofConst z)).any (has2 i) = false) (k : K ((i, .box i 0) :: t) ((i, .cells (avCells (ofConst z))) :: σ)) : OpJ X ⟨some i, .alloc e, ty, pos, aft, g⟩ t σ K := by
  intro γ H a w s next Q' hk
  obtain ⟨us, hu, hl, hr⟩ := rep_cells (rep_const γ H z) h1
  have hrun : (execOp a.eval ⟨some i, .alloc e, ty, pos, aft, g⟩).run X.P w = .ok (.value (.pointer (some ⟨w.heap.size, 0, none⟩))) (w.alloc (.cells us.toArray e)) := by
    simp [execOp, Instr.alloc, newVar, newRow, hu, hz]
  rw [semAt_of (by simp), hrun, Oper.uponIn_value]
  exact hk _ H _ _ _ _ (newCells s hf hN hl hr hc) k

/-- A store into a private variable. -/
theorem O.store {x y : Operand} {i off n : Nat} {cs cs' : List AV} {av v : AV} {e : TypeId} (hx : ge t x = some av) (hbx : boxOf av = some (i, off)) (hy : ge t y = some v) (hi : look i σ = some (.cells cs)) (h1 : oneAV v = true) (h2 : oneAll (avCells v) = true)
    (hs : ∀ w, (sizeOf e).run X.P w = .ok n w) (hn : (avCells v).length = n) (hl : off + n ≤ cs.length) (hc : setL cs off (avCells v) = cs') (k : K t ((i, .cells cs') :: σ)) :
    OpJ X ⟨none, .store e x y, ty, pos, aft, g⟩ t σ K := by
  intro γ H a w s next Q' hk
  have hq := rep_box hbx (ge_sound s.tmp hx)
  obtain ⟨tt, us, h3, h4, h5⟩ := s.mem.ent i _ hi
  have hrv := ge_sound s.tmp hy
  obtain ⟨vs, hu, hvl, hvr⟩ := rep_cells hrv h1
  have hone := cells_one hvl hvr h2
  obtain ⟨w', hw1, hw2, hw3⟩ := store_run (P := X.P) vs w us off 0 h3 (by omega) hone
  have hrun : (execOp a.eval ⟨none, .store e x y, ty, pos, aft, g⟩).run X.P w = .ok .skip w' := by
    have hsz : ¬ (vs.length ≠ n) := by omega
    simp only [execOp, Instr.storeAt, Instr.sureAddr, hq, storeVar, hu, Sem.run_bind, Sem.run_pure, Result.andThen_ok, hs]
    simp only [List.size_toArray, if_neg hsz, hw1, Result.andThen_ok]
  rw [semAt_of (by simp), hrun, Oper.uponIn_skip]
  have he : EntOk γ H w' i (.cells cs') := by
    refine ⟨tt, setL us (off + 0) vs, hw2, ?_, ?_⟩
    · rw [← hc, setL_length, setL_length, h4]
    · rw [← hc]
      simp only [Nat.add_zero]
      exact setL_reps (R := Rep γ H) _ _ _ _ _ h4 hvl h5 hvr
  exact hk γ H _ _ _ w' (s.turn (d := none) (V := .junk) (v := undef) hi rfl (s.mem.turn (e' := .cells cs') hi rfl hw3 he fun b hb => hb) rfl (.junk _)) k

/-- A store into a row's element. -/
theorem O.storeA {x y : Operand} {i off n j l kk : Nat} {xs : List (List D)} {cs : List D} {ds : List D} {av v : AV} {e : TypeId} (hx : ge t x = some av) (hbx : boxOf av = some (i, off)) (hy : ge t y = some v) (hi : look i σ = some (.arr kk xs)) (h1 : oneAV v = true)
    (hd : dAll (avCells v) = some ds) (hj : off = j * kk + l) (hg : xs[j]? = some cs) (hs : ∀ w, (sizeOf e).run X.P w = .ok n w) (hn : ds.length = n) (hl : l + n ≤ cs.length) (k : K t ((i, .arr kk (xs.set j (setL cs l ds))) :: σ)) :
    OpJ X ⟨none, .store e x y, ty, pos, aft, g⟩ t σ K := by
  intro γ H a w s next Q' hk
  have hq := rep_box hbx (ge_sound s.tmp hx)
  obtain ⟨hle, hk1, h2⟩ := s.mem.ent i _ hi
  have hjl : j < xs.length := (List.getElem?_eq_some_iff.1 hg).1
  have hpos : 0 < (γ i).n := by omega
  obtain ⟨tt, us, h3, h4, h5⟩ := h2 hpos
  have hck : cs.length = kk := hk1 cs (mem_of_get hg)
  have hrv := ge_sound s.tmp hy
  obtain ⟨vs, hu, hvl, hvr⟩ := rep_cells hrv h1
  obtain ⟨hvd, hvr'⟩ := dAll_rep hd hvl hvr
  have hone : ∀ v, v ∈ vs → v.oneCell' = true := fun v hv => by
    obtain ⟨m, hm, e⟩ := List.getElem_of_mem hv
    exact (repd_one (hvr' m ds[m] v (by simp [show m < ds.length by omega]) (by simp [← e, hm]))).1
  have hrow : j * kk + kk ≤ (γ i).n * kk := by
    calc j * kk + kk = (j + 1) * kk := by rw [Nat.add_mul]; omega
      _ ≤ (γ i).n * kk := Nat.mul_le_mul_right _ (by omega)
  obtain ⟨w', hw1, hw2, hw3⟩ := store_run (P := X.P) vs w us off 0 h3 (by omega) hone
  have hrun : (execOp a.eval ⟨none, .store e x y, ty, pos, aft, g⟩).run X.P w = .ok .skip w' := by
    have hsz : ¬ (vs.length ≠ n) := by omega
    simp only [execOp, Instr.storeAt, Instr.sureAddr, hq, storeVar, hu, Sem.run_bind, Sem.run_pure, Result.andThen_ok, hs]
    simp only [List.size_toArray, if_neg hsz, hw1, Result.andThen_ok]
  rw [semAt_of (by simp), hrun, Oper.uponIn_skip]
  simp only [Nat.add_zero] at hw2
  have hset : (setL cs l ds).length = kk := by rw [setL_length, hck]
  have setL_get : ∀ {α : Type} (vs us : List α) (p j : Nat), p + vs.length ≤ us.length → (setL us p vs)[j]? = if p ≤ j ∧ j < p + vs.length then vs[j - p]? else us[j]? := by
    intro α vs
    induction vs with
    | nil => intro us p j _; simp only [setL, List.length_nil, Nat.add_zero]; rw [if_neg (by omega)]
    | cons v vs ih =>
      intro us p j h
      simp only [List.length_cons] at h
      simp only [setL]
      rw [ih (us.set p v) (p + 1) j (by simp; omega)]
      by_cases h1 : p + 1 ≤ j ∧ j < p + 1 + vs.length
      · rw [if_pos h1, if_pos (by simp; omega)]
        rw [show j - p = (j - (p + 1)) + 1 from by omega]; simp
      · rw [if_neg h1, List.getElem?_set]
        by_cases h2 : p = j
        · subst h2; rw [if_pos rfl, if_pos (by omega), if_pos (by simp)]; simp
        · rw [if_neg h2, if_neg (by simp; omega)]
  have he : EntOk γ H w' i (.arr kk (xs.set j (setL cs l ds))) := by
    refine ⟨by simpa using hle, fun c hc => ?_, fun _ => ⟨tt, _, hw2, by rw [setL_length]; exact h4, fun j' l' cs' b u ha hb hu => ?_⟩⟩
    · rcases List.mem_or_eq_of_mem_set hc with h | h
      · exact hk1 c h
      · subst h; exact hset
    · rw [setL_get vs us off _ (by omega)] at hu
      rw [List.getElem?_set] at ha
      split at ha
      · next ej =>
        subst ej
        simp only [Option.some.injEq] at ha
        subst ha
        have hlk : l' < kk := by rw [← hset]; exact (List.getElem?_eq_some_iff.1 hb).1
        rw [setL_get ds cs l l' (by omega)] at hb
        by_cases hin : l ≤ l' ∧ l' < l + ds.length
        · rw [if_pos hin] at hb
          rw [if_pos (by omega)] at hu
          rw [show j * kk + l' - off = l' - l from by omega] at hu
          exact hvr' _ b u hb hu
        · rw [if_neg hin] at hb
          rw [if_neg (by omega)] at hu
          exact h5 j l' cs b u hg hb hu
      · next ej =>
        have hlk : l' < kk := by rw [← hk1 cs' (mem_of_get ha)]; exact (List.getElem?_eq_some_iff.1 hb).1
        have : ¬ (off ≤ j' * kk + l' ∧ j' * kk + l' < off + vs.length) := fun h => by
          rcases Nat.lt_or_gt_of_ne ej with h6 | h6
          · have : (j + 1) * kk ≤ j' * kk := Nat.mul_le_mul_right _ h6
            rw [Nat.add_mul] at this; omega
          · have : (j' + 1) * kk ≤ j * kk := Nat.mul_le_mul_right _ h6
            rw [Nat.add_mul] at this; omega
        rw [if_neg this] at hu
        exact h5 j' l' cs' b u ha hb hu
  exact hk γ H _ _ _ w' (s.turn (d := none) (V := .junk) (v := undef) hi ⟨rfl, hpos⟩ (s.mem.turn (e' := .arr kk (xs.set j (setL cs l ds))) hi ⟨rfl, hpos⟩ hw3 he fun b hb => hb.1) rfl (.junk _)) k
end
end Go.Gv
