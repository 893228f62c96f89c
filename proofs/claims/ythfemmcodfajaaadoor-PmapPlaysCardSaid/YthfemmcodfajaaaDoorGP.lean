/- What is private is given to all: it becomes data. -/
import Derived.Test.YthfemmcodfajaaaDoorG13
set_option linter.unusedVariables false
set_option linter.unusedSimpArgs false
namespace Go.Gv
open Go.RowKit

/-- What a private thing is, as data. -/
inductive Pub where
  | c (ds : List D)
  | a (k : Nat) (xs : List (List D))
  | m (ag : Bool) (ks : List Value) (vs : List (List D))
def pubOf : Ent → Option Pub
  | .cells cs => match dAll cs with
    | some ds => some (.c ds)
    | none => none
  | .arr k xs => some (.a k xs)
  | .mp ag ks vs => some (.m ag ks vs)
  | _ => none

def sub0 (i : Nat) (p : Pub) : AV → AV
  | .box j off => match Nat.beq i j, p with
    | true, .c ds => .d (.ptr (ds.drop off))
    | _, _ => .box j off
  | .boxX j off => match Nat.beq i j, p with
    | true, .c ds => .d (.ptr (ds.drop off))
    | _, _ => .boxX j off
  | .mp j => match Nat.beq i j, p with
    | true, .m ag ks vs => .d (.mp ag ks vs)
    | _, _ => .mp j
  | a => a
def sub1 (i : Nat) (p : Pub) : AV → AV
  | .agg cs => .agg (cs.map (sub0 i p))
  | .tup cs => .tup (cs.map (sub0 i p))
  | .fnp f cs => .fnp f (cs.map (sub0 i p))
  | a => sub0 i p a
def sub2 (i : Nat) (p : Pub) : AV → AV
  | .agg cs => .agg (cs.map (sub1 i p))
  | .tup cs => .tup (cs.map (sub1 i p))
  | .fnp f cs => .fnp f (cs.map (sub1 i p))
  | a => sub0 i p a

def PubOk (γ : Ids) (H : HF) (i : Nat) : Pub → Prop
  | .c ds => ∀ off, RepD H (.ptr (ds.drop off)) (.pointer (some ⟨(γ i).b, off, none⟩))
  | .a k xs => ∀ (n : Nat) (A : Option Addr), n ≤ xs.length → n ≤ (γ i).n → (0 < (γ i).n → A = some ⟨(γ i).b, 0, none⟩) → n ≤ 9223372036854775807 → RepD H (.sl k (xs.take n)) (.slice A n (γ i).n)
  | .m ag ks vs => RepD H (.mp ag ks vs) (.map (some (γ i).b))

theorem sub0_sound {γ : Ids} {H : HF} {i : Nat} {p : Pub} (hp : PubOk γ H i p) {a : AV} {u : Value} (r : Rep γ H a u) : Rep γ H (sub0 i p a) u := by
  cases r with
  | box j off =>
    simp only [sub0]
    split
    · next ds he =>
      obtain rfl := Nat.eq_of_beq_eq_true he
      exact .d _ _ (hp off)
    · exact .box j off
  | boxX j off =>
    simp only [sub0]
    split
    · next ds he =>
      obtain rfl := Nat.eq_of_beq_eq_true he
      exact .d _ _ (hp off)
    · exact .boxX j off
  | mp j =>
    simp only [sub0]
    split
    · next ag ks vs he =>
      obtain rfl := Nat.eq_of_beq_eq_true he
      exact .d _ _ hp
    · exact .mp j
  | junk => exact .junk _
  | d x u h => exact .d x u h
  | full k xs A h => exact .full k xs A h
  | agg cs us hl h => exact .agg cs us hl h
  | tup cs us hl h => exact .tup cs us hl h
  | fnp f cs us hl h => exact .fnp f cs us hl h
  | arr j k n A hn hA => exact .arr j k n A hn hA
theorem map_sub {γ : Ids} {H : HF} {f : AV → AV} (hf : ∀ {a : AV} {u : Value}, Rep γ H a u → Rep γ H (f a) u) {cs : List AV} {us : List Value} (h : ∀ (j : Nat) (a : AV) (u : Value), cs[j]? = some a → us[j]? = some u → Rep γ H a u) :
    ∀ (j : Nat) (a : AV) (u : Value), (cs.map f)[j]? = some a → us[j]? = some u → Rep γ H a u := fun j a u ha hu => by
  simp only [List.getElem?_map, Option.map_eq_some_iff] at ha
  obtain ⟨b, hb, rfl⟩ := ha
  exact hf (h j b u hb hu)
theorem sub1_sound {γ : Ids} {H : HF} {i : Nat} {p : Pub} (hp : PubOk γ H i p) {a : AV} {u : Value} (r : Rep γ H a u) : Rep γ H (sub1 i p a) u := by
  cases r with
  | agg cs us hl h => exact .agg _ us (by simp [hl]) (map_sub (sub0_sound hp) h)
  | tup cs us hl h => exact .tup _ us (by simp [hl]) (map_sub (sub0_sound hp) h)
  | fnp f cs us hl h => exact .fnp f _ us (by simp [hl]) (map_sub (sub0_sound hp) h)
  | box j off => exact sub0_sound hp (.box j off)
  | boxX j off => exact sub0_sound hp (.boxX j off)
  | mp j => exact sub0_sound hp (.mp j)
  | junk => exact .junk _
  | d x u h => exact .d x u h
  | full k xs A h => exact .full k xs A h
  | arr j k n A hn hA => exact .arr j k n A hn hA
theorem sub2_sound {γ : Ids} {H : HF} {i : Nat} {p : Pub} (hp : PubOk γ H i p) {a : AV} {u : Value} (r : Rep γ H a u) : Rep γ H (sub2 i p a) u := by
  cases r with
  | agg cs us hl h => exact .agg _ us (by simp [hl]) (map_sub (sub1_sound hp) h)
  | tup cs us hl h => exact .tup _ us (by simp [hl]) (map_sub (sub1_sound hp) h)
  | fnp f cs us hl h => exact .fnp f _ us (by simp [hl]) (map_sub (sub1_sound hp) h)
  | box j off => exact sub0_sound hp (.box j off)
  | boxX j off => exact sub0_sound hp (.boxX j off)
  | mp j => exact sub0_sound hp (.mp j)
  | junk => exact .junk _
  | d x u h => exact .d x u h
  | full k xs A h => exact .full k xs A h
  | arr j k n A hn hA => exact .arr j k n A hn hA

def subT (i : Nat) (p : Pub) (t : T) : T := t.map fun q => (q.1, sub2 i p q.2)
def subE (i : Nat) (p : Pub) : Ent → Ent
  | .cells cs => .cells (cs.map (sub2 i p))
  | e => e
def subS (i : Nat) (p : Pub) (σ : Sg) : Sg := σ.map fun q => (q.1, subE i p q.2)

theorem look_map {α : Type 1} {f : α → α} : ∀ {l : List (Nat × α)} {i : Nat}, look i (l.map fun q => (q.1, f q.2)) = (look i l).map f
  | [], i => rfl
  | (j, b) :: r, i => by
    rw [List.map_cons, look_cons, look_cons, look_map]
    split <;> rfl
theorem look_map0 {α : Type} {f : α → α} : ∀ {l : List (Nat × α)} {i : Nat}, look i (l.map fun q => (q.1, f q.2)) = (look i l).map f
  | [], i => rfl
  | (j, b) :: r, i => by
    rw [List.map_cons, look_cons, look_cons, look_map0]
    split <;> rfl
theorem blk_sub (γ : Ids) (j i : Nat) (p : Pub) (e : Ent) : blk γ j (subE i p e) = blk γ j e := by cases e <;> rfl

/-- What it was holds for good. -/
theorem Mem.pub {w0 w : World} {H0 H : HF} {B : Nat → Prop} {γ : Ids} {σ : Sg} (h : Mem w0 H0 B γ H σ w) {i : Nat} {e : Ent} {p : Pub} (hi : look i σ = some e) (hp : pubOf e = some p) :
    ∃ H', PubOk γ H' i p ∧ Mem w H (blk γ i e) γ H' [(i, .gone)] w := by
  have none1 : ∀ (j : Nat) (f : Ent), look j ([(i, Ent.gone)] : Sg) = some f → f = .gone := fun j f hj => by
    rw [look_cons] at hj
    split at hj
    · exact (Option.some.inj hj).symm
    · simp [look] at hj
  have mk : ∀ H', HLe H H' → HNew w.heap.size (blk γ i e) H H' → HOk H' w → Mem w H (blk γ i e) γ H' [(i, .gone)] w := fun H' h1 h2 h3 =>
    ⟨Keeps.refl _ _, h1, h2, h3, fun j f hj => by rw [none1 j f hj]; trivial, fun j f hj b hb => by rw [none1 j f hj] at hb; exact hb.elim, fun j f hj b hb => by rw [none1 j f hj] at hb; exact hb.elim,
      fun j f l f' b hj _ hb => by rw [none1 j f hj] at hb; exact hb.elim⟩
  have hfree := h.free i e hi
  have hent := h.ent i e hi
  have cellsH : ∀ (b : Nat) (us : List Value) (t : TypeId), blk γ i e b → w.heap[b]? = some (.cells us.toArray t (0, 0)) →
      HLe H ⟨fun c o => if c = b then us[o]? else H.c c o, H.m⟩ ∧ HNew w.heap.size (blk γ i e) H ⟨fun c o => if c = b then us[o]? else H.c c o, H.m⟩ ∧ HOk ⟨fun c o => if c = b then us[o]? else H.c c o, H.m⟩ w := by
    intro b us t hb hw
    refine ⟨⟨fun c o v hv => ?_, fun c x hx => hx⟩, ⟨fun c o v hv => ?_, fun c x hx => .inl hx⟩, ⟨fun c o v hv => ?_, fun c es k hx => h.hok.m c es k hx⟩⟩
    · by_cases e' : c = b
      · subst e'; rw [(hfree c hb).c] at hv; cases hv
      · show (if c = b then us[o]? else H.c c o) = some v
        rw [if_neg e']; exact hv
    · by_cases e' : c = b
      · subst e'; exact .inr (.inr hb)
      · simp only [if_neg e'] at hv; exact .inl hv
    · by_cases e' : c = b
      · subst e'
        simp only [if_true] at hv
        rw [cell_of_block hw]; exact hv
      · simp only [if_neg e'] at hv; exact h.hok.c c o v hv
  cases e with
  | gone => cases hp
  | obj o => cases hp
  | res ρ s => cases hp
  | cells cs =>
    simp only [pubOf] at hp
    split at hp
    · next ds hd =>
      cases hp
      obtain ⟨t, us, h1, h2, h3⟩ := hent
      obtain ⟨a1, a2, a3⟩ := cellsH (γ i).b us t rfl h1
      obtain ⟨d1, d2⟩ := dAll_rep hd h2 h3
      refine ⟨_, fun off => ?_, mk _ a1 a2 a3⟩
      refine .ptr (ds.drop off) (γ i).b off (fun j => us.getD (off + j) .nilIface) (fun j hj => ?_) (fun j a ha => ?_)
      · simp only [if_true]
        have : off + j < us.length := by simp at hj; omega
        simp [List.getD, this]
      · rw [List.getElem?_drop] at ha
        have : off + j < us.length := by have := (List.getElem?_eq_some_iff.1 ha).1; omega
        exact (d2 (off + j) a _ ha (by simp [List.getD, this])).mono a1
    · cases hp
  | arr k xs =>
    cases hp
    obtain ⟨h1, h2, h3⟩ := hent
    by_cases h0 : 0 < (γ i).n
    · obtain ⟨t, us, h4, h5, h6⟩ := h3 h0
      obtain ⟨a1, a2, a3⟩ := cellsH (γ i).b us t ⟨rfl, h0⟩ h4
      refine ⟨_, fun n A hn hn' hA hm => ?_, mk _ a1 a2 a3⟩
      have hlen : (xs.take n).length = n := by simp; omega
      have key := RepD.sl (H := ⟨fun c o => if c = (γ i).b then us[o]? else H.c c o, H.m⟩) k (xs.take n) A (γ i).n (γ i).b 0 (fun j l => us.getD (j * k + l) .nilIface) (fun cs hcs => h2 cs (List.mem_of_mem_take hcs))
        (by omega) (by omega) (fun _ => hA h0) (fun j l hj hl => ?_) (fun j l cs a ha hb => ?_)
      · rw [hlen] at key; exact key
      · simp only [if_true]
        rw [hlen] at hj
        have : j * k + l < us.length := by
          rw [h5]
          calc j * k + l < j * k + k := by omega
            _ = (j + 1) * k := by rw [Nat.add_mul]; omega
            _ ≤ (γ i).n * k := Nat.mul_le_mul_right _ (by omega)
        simp [List.getD, this]
      · rw [List.getElem?_take] at ha
        split at ha
        · next hj =>
          have hl : l < k := by rw [← h2 cs (mem_of_get ha)]; exact (List.getElem?_eq_some_iff.1 hb).1
          have : j * k + l < us.length := by
            rw [h5]
            calc j * k + l < j * k + k := by omega
              _ = (j + 1) * k := by rw [Nat.add_mul]; omega
              _ ≤ (γ i).n * k := Nat.mul_le_mul_right _ (by omega)
          exact (h6 j l cs a _ ha hb (by simp [List.getD, this])).mono a1
        · cases ha
    · refine ⟨H, fun n A hn hn' hA hm => ?_, mk _ (HLe.refl _) (HNew.refl _ _ _) h.hok⟩
      obtain rfl : n = 0 := by omega
      exact .sl k [] A (γ i).n 0 0 (fun _ _ => .nilIface) (fun _ h => by simp at h) (by simp) (by simp) (fun h => by simp at h) (fun _ _ h => by simp at h) (fun _ _ _ _ h => by simp at h)
  | mp ag ks vs =>
    cases hp
    obtain ⟨es, clock, us, h1, h2⟩ := hent
    have a1 : HLe H ⟨H.c, fun c => if c = (γ i).b then some (es, clock) else H.m c⟩ := ⟨fun _ _ _ hv => hv, fun c x hx => by
      by_cases e' : c = (γ i).b
      · subst e'; rw [(hfree _ rfl).m] at hx; cases hx
      · show (if c = (γ i).b then some (es, clock) else H.m c) = some x
        rw [if_neg e']; exact hx⟩
    refine ⟨⟨H.c, fun c => if c = (γ i).b then some (es, clock) else H.m c⟩, ?_, mk _ a1 ⟨fun c o v hv => .inl hv, fun c x hx => ?_⟩ ⟨h.hok.c, fun c es' k hx => ?_⟩⟩
    · exact .mp ag ks vs (γ i).b es clock us (if_pos rfl) h2.l h2.l2 h2.k h2.u fun j l cs a u x y z => (h2.r j l cs a u x y z).mono a1
    · by_cases e' : c = (γ i).b
      · exact .inr (.inr e')
      · simp only [if_neg e'] at hx; exact .inl hx
    · by_cases e' : c = (γ i).b
      · subst e'
        simp only [if_true, Option.some.injEq, Prod.mk.injEq] at hx
        obtain ⟨rfl, rfl⟩ := hx
        exact h1
      · simp only [if_neg e'] at hx; exact h.hok.m c es' k hx

theorem EntOk.sub {γ : Ids} {H : HF} {w : World} {i j : Nat} {e : Ent} {p : Pub} (hp : PubOk γ H i p) (h : EntOk γ H w j e) : EntOk γ H w j (subE i p e) := by
  cases e with
  | cells cs =>
    obtain ⟨t, us, h1, h2, h3⟩ := h
    exact ⟨t, us, h1, by simp [h2], map_sub (sub2_sound hp) h3⟩
  | gone => exact h
  | arr k xs => exact h
  | mp ag ks vs => exact h
  | obj o => exact h
  | res ρ s => exact h

theorem look_sub {σ : Sg} {i j : Nat} {p : Pub} {f : Ent} (h : look j ((i, .gone) :: subS i p σ) = some f) : (j = i ∧ f = .gone) ∨ (j ≠ i ∧ ∃ e, look j σ = some e ∧ f = subE i p e) := by
  rw [look_cons] at h
  split at h
  · next e => exact .inl ⟨e, (Option.some.inj h).symm⟩
  · next e =>
    rw [subS, look_map] at h
    simp only [Option.map_eq_some_iff] at h
    obtain ⟨x, hx, rfl⟩ := h
    exact .inr ⟨e, x, hx, rfl⟩

/-- **Given to all.** -/
theorem St.pub {X : Cx} {γ : Ids} {H : HF} {t : T} {σ : Sg} {a : Act} {w : World} (s : St X γ H t σ a w) {i : Nat} {e : Ent} {p : Pub} (hi : look i σ = some e) (hp : pubOf e = some p) :
    ∃ H', HLe H H' ∧ PubOk γ H' i p ∧ St X γ H' t ((i, .gone) :: subS i p σ) a w := by
  obtain ⟨H', ok, k⟩ := s.mem.pub hi hp
  have key := s.step (σr := σ.filter fun q => !Nat.beq q.1 i) (d := none) (V := .junk) (v := undef) k (fun b hb => ⟨i, e, hi, by rw [look_filterN (q := fun j => !Nat.beq j i)]; simp, hb⟩) (fun j f hj => by
      rw [look_filterN (q := fun j => !Nat.beq j i)] at hj
      split at hj
      · exact hj
      · cases hj) (fun j f hj => by
      rw [look_filterN (q := fun j => !Nat.beq j i)] at hj
      rw [look_cons]
      split at hj
      · next h1 =>
        have : j ≠ i := fun e => by subst e; simp at h1
        rw [if_neg this]; rfl
      · cases hj) (fun _ _ _ => ⟨rfl, fun _ _ => rfl⟩) (fun _ _ => rfl) (fun _ _ _ _ _ => rfl) rfl (.junk _)
  have old : ∀ j f, j ≠ i → look j σ = some f → look j ([(i, Ent.gone)] ++ σ.filter fun q => !Nat.beq q.1 i) = some f := fun j f hj hf => by
    rw [List.singleton_append, look_cons, if_neg hj, look_filterN (q := fun j => !Nat.beq j i)]
    have : Nat.beq j i = false := by rw [← Bool.not_eq_true, Nat.beq_eq]; exact hj
    rw [this]; exact hf
  refine ⟨H', k.hle, ok, key.lam, key.round, ?_, key.size, key.pinned, key.tmp, ⟨key.mem.keep, key.mem.hle, key.mem.hnew, key.mem.hok, fun j f hj => ?_, fun j f hj b hb => ?_, fun j f hj b hb => ?_, fun j f l f' b hj hl hb hb' => ?_⟩⟩
  · obtain ⟨ms, h1, h2⟩ := key.defers
    refine ⟨ms, h1, h2.1, fun b hb => ⟨(h2.2 b hb).1, (h2.2 b hb).2.1, ?_⟩⟩
    rintro ⟨j, f, hj, hbk⟩
    rcases look_sub hj with ⟨rfl, rfl⟩ | ⟨hne, x, hx, rfl⟩
    · exact hbk.elim
    · rw [blk_sub] at hbk
      exact (h2.2 b hb).2.2 ⟨j, x, old j x hne hx, hbk⟩
  · rcases look_sub hj with ⟨rfl, rfl⟩ | ⟨hne, x, hx, rfl⟩
    · trivial
    · exact (key.mem.ent j x (old j x hne hx)).sub ok
  · rcases look_sub hj with ⟨rfl, rfl⟩ | ⟨hne, x, hx, rfl⟩
    · exact hb.elim
    · rw [blk_sub] at hb
      exact key.mem.free j x (old j x hne hx) b hb
  · rcases look_sub hj with ⟨rfl, rfl⟩ | ⟨hne, x, hx, rfl⟩
    · exact hb.elim
    · rw [blk_sub] at hb
      exact key.mem.fresh j x (old j x hne hx) b hb
  · rcases look_sub hj with ⟨rfl, rfl⟩ | ⟨hne, x, hx, rfl⟩
    · exact hb.elim
    · rcases look_sub hl with ⟨rfl, rfl⟩ | ⟨hne', y, hy, rfl⟩
      · exact hb'.elim
      · rw [blk_sub] at hb hb'
        exact key.mem.apart j x l y b (old j x hne hx) (old l y hne' hy) hb hb'

/-- Temporaries, told anew. -/
theorem St.tmps {X : Cx} {γ : Ids} {H : HF} {t t' : T} {σ : Sg} {a : Act} {w : World} (s : St X γ H t σ a w) (h : TmpOk γ H t' a.tmps) : St X γ H t' σ a w :=
  ⟨s.lam, s.round, s.defers, s.size, s.pinned, h, s.mem⟩
theorem TmpOk.sub {γ : Ids} {H : HF} {t : T} {tm : Array Value} {i : Nat} {p : Pub} (hp : PubOk γ H i p) (h : TmpOk γ H t tm) : TmpOk γ H (subT i p t) tm := fun j b hj => by
  rw [subT, look_map0] at hj
  simp only [Option.map_eq_some_iff] at hj
  obtain ⟨x, hx, rfl⟩ := hj
  obtain ⟨u, hu, r⟩ := h j x hx
  exact ⟨u, hu, sub2_sound hp r⟩
/-- A variable, or a map, given to all: all names of it are of data then. -/
theorem SJ.pub {X : Cx} {t : T} {σ : Sg} (i : Nat) {e : Ent} {p : Pub} (hi : look i σ = some e) (hp : pubOf e = some p) : SJ X t σ (subT i p t) ((i, .gone) :: subS i p σ) := fun γ H a w s => by
  obtain ⟨H', _, ok, s'⟩ := s.pub hi hp
  exact ⟨γ, H', s'.tmps (s'.tmp.sub ok)⟩
/-- A row, given to all: one name of it is of data then. -/
theorem SJ.pubA {X : Cx} {t : T} {σ : Sg} (i j : Nat) {k n : Nat} {xs : List (List D)} (hi : look i σ = some (.arr k xs)) (hj : look j t = some (.arr i k n)) (hn : n ≤ xs.length) (hm : n ≤ 9223372036854775807) : SJ X t σ ((j, .d (.sl k (xs.take n))) :: t) ((i, .gone) :: subS i (.a k xs) σ) := fun γ H a w s => by
  obtain ⟨H', _, ok, s'⟩ := s.pub hi rfl
  refine ⟨γ, H', s'.tmps fun l b hl => ?_⟩
  rw [look_cons] at hl
  split at hl
  · next e =>
    subst e
    simp only [Option.some.injEq] at hl; subst hl
    obtain ⟨u, hu, r⟩ := s'.tmp _ _ hj
    refine ⟨u, hu, ?_⟩
    cases r with
    | arr _ _ _ A h1 hA => exact .d _ _ (ok n A hn h1 hA hm)
  · exact s'.tmp l b hl

/-- What is handed back, with what of it is given to all. -/
inductive PubR : Sg → AV → Sg → AV → Prop where
  | wk {σ σ' : Sg} {r : AV} (h : Wk σ' σ) : PubR σ r σ' r
  | view {σ σ' : Sg} {r r1 r' : AV} (hv : ∀ γ H u, Rep γ H r u → Rep γ H r1 u) (k : PubR σ r1 σ' r') : PubR σ r σ' r'
  | pub {σ σ' : Sg} {r r1 r' : AV} (i : Nat) {e : Ent} {p : Pub} (hi : look i σ = some e) (hp : pubOf e = some p) (hv : ∀ γ H u, PubOk γ H i p → Rep γ H r u → Rep γ H r1 u) (k : PubR ((i, .gone) :: subS i p σ) r1 σ' r') : PubR σ r σ' r'
theorem PubR.sound {X : Cx} {σ σ' : Sg} {r r' : AV} (h : PubR σ r σ' r') : ∀ {γ : Ids} {H : HF} {t : T} {a : Act} {w : World} {v : Value}, St X γ H t σ a w → Rep γ H r v → ∃ H', St X γ H' t σ' a w ∧ Rep γ H' r' v := by
  induction h with
  | wk h => exact fun s rr => ⟨_, s.wk (Wk.refl _) h, rr⟩
  | view hv _ ih => exact fun s rr => ih s (hv _ _ _ rr)
  | pub i hi hp hv _ ih =>
    intro γ H t a w v s rr
    obtain ⟨H', hle, ok, s'⟩ := s.pub hi hp
    exact ih s' (hv _ _ _ ok (rr.mono hle))
end Go.Gv
