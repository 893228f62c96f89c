/- A range over a function: one round. -/
import Derived.Test.YthfemmcodfajaaaDoorGS
import Derived.RangeFuncNested
set_option linter.unusedVariables false
set_option linter.unusedSimpArgs false
namespace Go.Gv
open Go.RowKit

def zipT : List Nat → List AV → T → T
  | p :: ps, a :: as, t => zipT ps as ((p, a) :: t)
  | _, _, t => t
theorem zip_ok {γ : Ids} {H : HF} {N : Nat} : ∀ (ps : List Nat) (as : List AV) (us : List Value) (t : T) (tm : Array Value), TmpOk γ H t tm → tm.size = N → (∀ p, p ∈ ps → p < N) → us.length = as.length →
    (∀ (j : Nat) (a : AV) (u : Value), as[j]? = some a → us[j]? = some u → Rep γ H a u) → TmpOk γ H (zipT ps as t) ((ps.zip us).foldl (fun tm p => tm.setIfInBounds p.1 p.2) tm) ∧ ((ps.zip us).foldl (fun tm p => tm.setIfInBounds p.1 p.2) tm).size = N
  | [], as, us, t, tm, h, hs, _, _, _ => ⟨h, hs⟩
  | p :: ps, [], us, t, tm, h, hs, _, hl, _ => by
    have : us = [] := List.length_eq_zero_iff.1 hl
    subst this
    exact ⟨h, hs⟩
  | p :: ps, a :: as, [], t, tm, h, hs, _, hl, _ => by simp at hl
  | p :: ps, a :: as, u :: us, t, tm, h, hs, hp, hl, hr => by
    have hlt : p < tm.size := by rw [hs]; exact hp p (by simp)
    refine zip_ok ps as us ((p, a) :: t) (tm.setIfInBounds p u) (fun i b hi => ?_) (by simpa using hs) (fun q hq => hp q (List.mem_cons_of_mem _ hq)) (by simpa using hl) (fun j b v hb hv => hr (j + 1) b v (by simpa using hb) (by simpa using hv))
    rw [look_cons] at hi
    split at hi
    · next e =>
      subst e
      simp only [Option.some.injEq] at hi; subst hi
      exact ⟨u, by simp [hlt], hr 0 a u rfl rfl⟩
    · next e =>
      obtain ⟨v, hv, r⟩ := h i b hi
      exact ⟨v, by rw [Array.getElem?_setIfInBounds, if_neg (fun h => e h.symm)]; exact hv, r⟩

/-- The world with another record of a loop. -/
theorem hok_loop {H : HF} {w : World} {l : Nat} {r r' : Loop} (h : HOk H w) (hl : w.heap[l]? = some (.loop r)) : HOk H (w.putObj l (.loop r')) := by
  have hne : ∀ c x v, w.cell? ⟨c, x, none⟩ = some v → c ≠ l := fun c x v hc e => by subst e; simp [World.cell?, hl] at hc
  refine ⟨fun c x v hv => ?_, fun c x y hv => ?_⟩
  · have := h.c c x v hv
    have h2 := hne c x v this
    simp only [World.cell?] at this ⊢
    rw [World.putObj_heap_other h2]; exact this
  · have := h.m c x y hv
    rw [World.putObj_heap_other fun e => by subst e; rw [hl] at this; cases this]; exact this
theorem mem_loop {w0 w : World} {H0 H : HF} {B : Nat → Prop} {γ : Ids} {σ : Sg} {l : Nat} {r r' : Loop} (h : Mem w0 H0 B γ H σ w) (hl : w.heap[l]? = some (.loop r)) (h0 : l < w0.heap.size) (hB : ¬ B l) :
    Mem (w0.putObj l (.loop r')) H0 B γ H σ (w.putObj l (.loop r')) := by
  have hb : ∀ i e b, look i σ = some e → blk γ i e b → b ≠ l := fun i e b hi hb e' => by
    subst e'
    rcases h.fresh i e hi b hb with h1 | h1
    · omega
    · exact hB h1
  refine ⟨⟨h.keep.os, h.keep.tape, h.keep.output, by simpa using h.keep.size, fun k hk hk' => ?_⟩, h.hle, ?_, hok_loop h.hok hl, fun i e hi => (h.ent i e hi).later (HLe.refl _) (by simp) fun b hbb => World.putObj_heap_other (hb i e b hi hbb), h.free, fun i e hi b hbb => by simpa using h.fresh i e hi b hbb, h.apart⟩
  · by_cases e : k = l
    · subst e
      rw [World.putObj_heap_same (lt_of_heap hl), World.putObj_heap_same h0]
    · rw [World.putObj_heap_other e, World.putObj_heap_other e]
      exact h.keep.block k (by simpa using hk) hk'
  · have := h.hnew
    refine ⟨fun b o v hv => ?_, fun b x hv => ?_⟩
    · simpa using this.c b o v hv
    · simpa using this.m b x hv

section
variable {α V : Type} (enc : α → List AV) (L : List α) (SS : V → Sg) (I : List α → V → Prop) (Ix : Code → List α → V → Prop)
structure ROk (l D : Nat) (outer : Bool) (rc : LoopState → Option Code → Loop) (pins : List Nat) (γe : Ids) (t : T) (tmps : Array Value) (s : List α × Option Code) (O : Nat → Prop) (H : HF) (w : World) (v : V) (γ : Ids) : Prop where
  inv : match s.2 with | none => I s.1 v | some c => Ix c s.1 v
  pin : ∀ i, i ∈ pins → γ i = γe i
  tmp : TmpOk γ H t tmps
  rcd : w.heap[l]? = some (.loop (rc (match s.2 with | none => .ready | some _ => .done) s.2))
  dfr : outer = true → w.heap[D]? = some (.deferred (some []))
  lt : ∀ b, O b → b < w.heap.size
  ol : O l
  od : outer = true → O D
  ent : ∀ i e, look i (SS v) = some e → EntOk γ H w i e
  blk : ∀ i e b, look i (SS v) = some e → Gv.blk γ i e b → O b ∧ b ≠ l ∧ (outer = true → b ≠ D)
  apart : ∀ i e j e' b, look i (SS v) = some e → look j (SS v) = some e' → Gv.blk γ i e b → Gv.blk γ j e' b → i = j
theorem ROk.later {l D : Nat} {outer : Bool} {rc : LoopState → Option Code → Loop} {pins : List Nat} {γe : Ids} {t : T} {tmps : Array Value} {s : List α × Option Code} {O : Nat → Prop} {H H' : HF} {w w' : World} {v : V} {γ : Ids}
    (h : ROk SS I Ix l D outer rc pins γe t tmps s O H w v γ) (hle : HLe H H') (hs : w.heap.size ≤ w'.heap.size) (hb : ∀ b, O b → w'.heap[b]? = w.heap[b]?) : ROk SS I Ix l D outer rc pins γe t tmps s O H' w' v γ :=
  ⟨h.inv, h.pin, h.tmp.mono hle, (hb l h.ol).trans h.rcd, fun o => (hb D (h.od o)).trans (h.dfr o), fun b hbb => Nat.lt_of_lt_of_le (h.lt b hbb) hs, h.ol, h.od, fun i e hi => (h.ent i e hi).later hle hs fun b hbb => hb b (h.blk i e b hi hbb).1, h.blk, h.apart⟩
/-- What a round ends in. -/
def RPost (p : List α) : Qt
  | .normal, _, σ => ∃ v', I p v' ∧ Has (SS v') σ
  | .ret, _, σ => ∃ v', Ix .ret p v' ∧ Has (SS v') σ
  | .exit id, _, σ => ∃ v', Ix (.exit id) p v' ∧ Has (SS v') σ
  | .goto g, _, σ => ∃ v', Ix (.goto g) p v' ∧ Has (SS v') σ
  | _, _, _ => False
/-- One round, as the code goes. -/
def RoundP (P : Program) (Λ : Amb) (N l : Nat) (pins : List Nat) (ps : List Nat) (assign body : Code) (t : T) : Prop :=
  ∀ (pre : List α) (x : α) (post : List α) (v : V), L = pre ++ x :: post → I pre v → ∀ w0 H0 B g0, vc ⟨P, Λ, some l, w0, H0, B, N, pins, g0⟩ assign (zipT ps (enc x) t) (SS v) (fun e t' σ' => match e with
    | .normal => ∀ w0 H0 B g0, vc ⟨P, Λ, some l, w0, H0, B, N, pins, g0⟩ body t' σ' (RPost SS I Ix (pre ++ [x]))
    | _ => False)

def rPre (s : List α × Option Code) (xs : List AV) : Prop := s.2 = none ∧ ∃ x post, L = s.1 ++ x :: post ∧ xs = enc x
def rStep (s : List α × Option Code) (xs : List AV) (b : Bool) (s' : List α × Option Code) : Prop :=
  s.2 = none ∧ ∃ x post, L = s.1 ++ x :: post ∧ xs = enc x ∧ ((b = true ∧ s' = (s.1 ++ [x], none)) ∨ (b = false ∧ ∃ c, s' = (s.1 ++ [x], some c)))

theorem round_run {P : Program} {Λ : Amb} {N l D : Nat} {outer : Bool} {fn : FuncId} {ps : Array Nat} {assign body : Code} {df : Nat} {pins : List Nat} {γe : Ids} {t : T} {tmps : Array Value} (hsz : tmps.size = N) (hps : ∀ p, p ∈ ps.toList → p < N) (hen : ∀ x, (enc x).length = ps.size)
    (hD : outer = true → D ≠ l) (hfl : flatT t = true) (hpn : ∀ i, i ∈ namesOf t → i ∈ pins) (hround : RoundP enc L SS I Ix P Λ N l pins ps.toList assign body t) {s : List α × Option Code} {xs : List AV} (hpre : rPre enc L s xs) (H : HF) (w : World) (O : Nat → Prop) (vs : List Value) (hΛ : Lam Λ w O)
    (hok : ∃ v γ, ROk SS I Ix l D outer (fun st pe => { state := st, pending := pe, fn := fn, tmps := tmps, params := ps, assign := assign, body := body, defers := df }) pins γe t tmps s O H w v γ) (hH : HOk H w) (hfree : ∀ b, O b → Free H b) (hl : vs.length = xs.length)
    (hr : ∀ (j : Nat) (a : AV) (u : Value), xs[j]? = some a → vs[j]? = some u → ∀ γ, Rep γ H a u) :
    CallV P (.func (.yield l) #[] #[]) vs w fun v w' => ∃ b s' H' O', v = .bool b ∧ rStep enc L s xs b s' ∧ (∃ v γ, ROk SS I Ix l D outer (fun st pe => { state := st, pending := pe, fn := fn, tmps := tmps, params := ps, assign := assign, body := body, defers := df }) pins γe t tmps s' O' H' w' v γ) ∧ Stp w H O w' H' O' := by
  obtain ⟨rc, hrc⟩ : ∃ rc : LoopState → Option Code → Loop, rc = fun st pe => { state := st, pending := pe, fn := fn, tmps := tmps, params := ps, assign := assign, body := body, defers := df } := ⟨_, rfl⟩
  rw [← hrc] at hok ⊢
  obtain ⟨v, γ, R⟩ := hok
  obtain ⟨p, o⟩ := s
  obtain ⟨h1, x, post, hL, rfl⟩ := hpre
  simp only at h1 hL; subst h1
  have hrec := R.rcd
  simp only at hrec
  have hinv : I p v := R.inv
  let B1 : Nat → Prop := fun b => O b ∧ b ≠ l ∧ (outer = true → b ≠ D)
  have hlw : l < w.heap.size := R.lt l R.ol
  have hy := run_yield (P := P) (args := vs.toArray) hrec (by rw [hrc]; simp [hl, hen x])
  simp only [hrc] at hy
  have hzip : (ps.zip vs.toArray).foldl (fun tmps x => match x with | (t, a) => tmps.setIfInBounds t a) tmps = (ps.toList.zip vs).foldl (fun tm p => tm.setIfInBounds p.1 p.2) tmps := by
    rw [← Array.foldl_toList]; simp
  obtain ⟨htm, hts⟩ := zip_ok (γ := γ) (H := H) ps.toList (enc x) vs t tmps R.tmp hsz hps hl (fun j a u ha hu => hr j a u ha hu γ)
  refine .inr ⟨l, fn, _, assign, body, rfl, hy, roundIn_of_wpIn trivial ?_⟩
  rw [hzip]
  generalize hT : (ps.toList.zip vs).foldl (fun tm p => tm.setIfInBounds p.1 p.2) tmps = tm1 at htm hts
  have hB1l : ¬ B1 l := fun h => h.2.1 rfl
  have hB1D : outer = true → ¬ B1 D := fun ho h => h.2.2 ho rfl
  have s0 : St ⟨P, Λ, some l, w, H, B1, N, pins, γ⟩ γ H (zipT ps.toList (enc x) t) (SS v) { tmps := tm1, defers := [] } w := by
    refine ⟨⟨hΛ.1, hΛ.2.1, fun b hb => hΛ.2.2 b hb.1⟩, fun l' e => ?_, ⟨[], rfl, List.nodup_nil, fun b h => by simp at h⟩, hts, fun i _ => rfl, htm, ?_⟩
    · cases e; exact ⟨⟨_, hrec⟩, hB1l⟩
    · exact ⟨Keeps.refl _ _, HLe.refl _, HNew.refl _ _ _, hH, R.ent, fun i e hi b hb => hfree b (R.blk i e b hi hb).1, fun i e hi b hb => .inr (R.blk i e b hi hb), R.apart⟩
  have hv := vc_sound _ _ _ _ (hround p x post v hL hinv w H B1 γ)
  refine wpIn_mono (hv γ H _ w s0) ?_
  rintro e a1 w1 ⟨γ1, H1, t1, σ1, s1, q1⟩
  cases e with
  | normal =>
    have hl1 : w1.heap[l]? = some (.loop (rc .ready none)) := (s1.mem.keep.block l hlw hB1l).trans hrec
    refine ⟨_, run_beginRound hl1 (by rw [hrc]), ?_⟩
    obtain ⟨bz, hbz⟩ : ∃ bz : Loop, bz = { rc .ready none with state := .busy } := ⟨_, rfl⟩
    rw [← hbz]
    have hl2 : (w1.putObj l (.loop bz)).heap[l]? = some (.loop bz) := World.putObj_heap_same (lt_of_heap hl1)
    have s2 : St ⟨P, Λ, some l, w.putObj l (.loop bz), H, B1, N, pins, γ⟩ γ1 H1 t1 σ1 a1 (w1.putObj l (.loop bz)) := by
      refine ⟨⟨Λ.st hΛ.1 fun k hk => World.putObj_heap_other (fun e => by have := hΛ.2.2 l R.ol; omega), by simpa using hΛ.2.1, fun b hb => hΛ.2.2 b hb.1⟩, fun l' e => ?_, ?_, s1.size, s1.pinned, s1.tmp, mem_loop s1.mem hl1 hlw hB1l⟩
      · cases e; exact ⟨⟨_, World.putObj_heap_same hlw⟩, hB1l⟩
      · obtain ⟨ms, hd, m1, m2⟩ := s1.defers
        refine ⟨ms, hd, m1, fun b hb => ?_⟩
        obtain ⟨h3, h4, h5⟩ := m2 b hb
        exact ⟨by rw [World.putObj_heap_other (fun e => by subst e; rw [hl1] at h3; cases h3)]; exact h3, by simpa using h4, h5⟩
    refine wpIn_mono (vc_sound _ _ _ _ (q1 _ _ _ _) γ1 H1 a1 _ s2) ?_
    rintro e a3 w3 ⟨γ3, H3, t3, σ3, s3, q3⟩
    have hl3 : w3.heap[l]? = some (.loop bz) := (s3.mem.keep.block l (by simpa using hlw) hB1l).trans (World.putObj_heap_same hlw)
    have fin : ∀ (jump : Option Code) (v' : V), (match jump with | none => I (p ++ [x]) v' | some c => Ix c (p ++ [x]) v') → Has (SS v') σ3 →
        ∃ u w', (Instr.endRound l jump).run P w3 = .ok u w' ∧ ∃ v, Ending.returned u = .returned v ∧ ∃ b s' H' O', v = .bool b ∧ rStep enc L (p, none) (enc x) b s' ∧ (∃ v γ, ROk SS I Ix l D outer rc pins γe t tmps s' O' H' w' v γ) ∧ Stp w H O w' H' O' := by
      intro jump v' hJ hHas
      have hrun := run_endRound (P := P) jump hl3
      have hrec' : ({ bz with state := if jump.isNone then .ready else .done, pending := jump } : Loop) = rc (if jump.isNone then .ready else .done) jump := by rw [hbz, hrc]
      rw [hrec'] at hrun
      have hwk := hHas.wk
      refine ⟨_, _, hrun, _, rfl, jump.isNone, (p ++ [x], jump), H3, fun b => (∃ i e, look i (SS v') = some e ∧ blk γ3 i e b) ∨ b = l ∨ (outer = true ∧ b = D), rfl, ⟨rfl, x, post, hL, rfl, ?_⟩, ⟨v', γ3, ?_⟩, ?_⟩
      · cases jump with
        | none => exact .inl ⟨rfl, rfl⟩
        | some c => exact .inr ⟨rfl, c, rfl⟩
      · have hbl : ∀ i e b, look i (SS v') = some e → blk γ3 i e b → b ≠ l ∧ (outer = true → b ≠ D) := fun i e b hi hb => by
          rcases s3.mem.fresh i e (hwk i e hi) b hb with h | h
          · simp only [World.putObj_size] at h
            exact ⟨by omega, fun ho => by have := R.lt D (R.od ho); omega⟩
          · exact ⟨h.2.1, h.2.2⟩
        have hne : ∀ ho : outer = true, D ≠ l := hD
        refine ⟨?_, fun i hi => (s3.pinned i hi).trans (R.pin i hi), fun i a hi => ?_, ?_, fun ho => ?_, fun b hb => ?_, .inr (.inl rfl), fun ho => .inr (.inr ⟨ho, rfl⟩), fun i e hi => (s3.mem.ent i e (hwk i e hi)).later (HLe.refl _) (by simp) fun b hb => World.putObj_heap_other (hbl i e b hi hb).1, fun i e b hi hb => ⟨.inl ⟨i, e, hi, hb⟩, hbl i e b hi hb⟩, fun i e j e' b hi hj => s3.mem.apart i e j e' b (hwk i e hi) (hwk j e' hj)⟩
        · cases jump <;> exact hJ
        · obtain ⟨u, hu, r⟩ := R.tmp i a hi
          refine ⟨u, hu, (r.mono s3.mem.hle).agree fun j hj => ?_⟩
          exact (s3.pinned j (hpn j (names_t hfl hi hj))).symm
        · rw [World.putObj_heap_same (lt_of_heap hl3)]
          cases jump <;> rfl
        · rw [World.putObj_heap_other (hne ho), s3.mem.keep.block D (by simpa using R.lt D (R.od ho)) (hB1D ho), World.putObj_heap_other (hne ho)]
          exact R.dfr ho
        · have hs3 : w.heap.size ≤ w3.heap.size := by have := s3.mem.keep.size; simpa using this
          rcases hb with ⟨i, e, hi, hb⟩ | rfl | ⟨ho, rfl⟩
          · simpa using (s3.mem.ent i e (hwk i e hi)).lt hb
          · simpa using lt_of_heap hl3
          · have := R.lt b (R.od ho); simp; omega
      · have hw0 : (w.putObj l (.loop bz)).heap.size = w.heap.size := by simp
        have hnw := s3.mem.hnew
        simp only [hw0] at hnw
        refine ⟨⟨s3.mem.keep.os, s3.mem.keep.tape, s3.mem.keep.output, by have := s3.mem.keep.size; simpa using this, fun k hk hko => ?_⟩, s3.mem.hle, ⟨fun b o v hv => ?_, fun b x hv => ?_⟩, hok_loop s3.mem.hok hl3, fun b hb => ?_, fun b hb => ?_⟩
        · have hkl : k ≠ l := fun e => hko (e ▸ R.ol)
          rw [World.putObj_heap_other hkl, s3.mem.keep.block k (by simpa using hk) (fun h => hko h.1), World.putObj_heap_other hkl]
        · rcases hnw.c b o v hv with h | h | h
          · exact .inl h
          · exact .inr (.inl h)
          · exact .inr (.inr h.1)
        · rcases hnw.m b x hv with h | h | h
          · exact .inl h
          · exact .inr (.inl h)
          · exact .inr (.inr h.1)
        · rcases hb with ⟨i, e, hi, hb⟩ | rfl | ⟨ho, rfl⟩
          · rcases s3.mem.fresh i e (hwk i e hi) b hb with h | h
            · exact .inr (by simpa using h)
            · exact .inl h.1
          · exact .inl R.ol
          · exact .inl (R.od ho)
        · rcases hb with ⟨i, e, hi, hb⟩ | rfl | ⟨ho, rfl⟩
          · exact s3.mem.free i e (hwk i e hi) b hb
          · exact (hfree b R.ol).later hnw hlw hB1l
          · exact (hfree b (R.od ho)).later hnw (R.lt b (R.od ho)) (hB1D ho)
    cases e with
    | normal => obtain ⟨v', hi, hh⟩ := q3; exact fin none v' hi hh
    | ret => obtain ⟨v', hi, hh⟩ := q3; exact fin (some .ret) v' hi hh
    | exit id => obtain ⟨v', hi, hh⟩ := q3; exact fin (some (.exit id)) v' hi hh
    | goto g => obtain ⟨v', hi, hh⟩ := q3; exact fin (some (.goto g)) v' hi hh
    | panic ch => exact q3.elim
    | outgrown => exact q3.elim
  | exit id => exact q1.elim
  | goto g => exact q1.elim
  | ret => exact q1.elim
  | panic ch => exact q1.elim
  | outgrown => exact q1.elim
end
end Go.Gv
