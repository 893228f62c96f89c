/- A range over a function: the loop. -/
import Derived.Test.YthfemmcodfajaaaDoorGT
set_option linter.unusedVariables false
set_option linter.unusedSimpArgs false
namespace Go.Gv
open Go.RowKit
theorem Feeds.inv {ρ : Res} {s s' : ρ.S} {M : List (List AV)} {b : Bool} (h : Feeds ρ s M b s') : (M = [] ∧ b = true ∧ s' = s) ∨ (∃ x L s1, M = x :: L ∧ ρ.step s x true s1 ∧ Feeds ρ s1 L b s') ∨ (∃ x L, M = x :: L ∧ b = false ∧ ρ.step s x false s') := by
  cases h with
  | nil => exact .inl ⟨rfl, rfl, rfl⟩
  | go h k => exact .inr (.inl ⟨_, _, _, rfl, h, k⟩)
  | stop h => exact .inr (.inr ⟨_, _, rfl, rfl, h⟩)
section
variable {α V : Type} (enc : α → List AV) (L : List α) (SS : V → Sg) (I : List α → V → Prop) (Ix : Code → List α → V → Prop)
/-- The loop as a thing with a memory of its own. -/
def rangeRes {P : Program} {Λ : Amb} {N l D : Nat} {outer : Bool} {fn : FuncId} {ps : Array Nat} {assign body : Code} {df : Nat} {pins : List Nat} {γe : Ids} {t : T} {tmps : Array Value} (hsz : tmps.size = N) (hps : ∀ p, p ∈ ps.toList → p < N) (hen : ∀ x, (enc x).length = ps.size)
    (hD : outer = true → D ≠ l) (hfl : flatT t = true) (hpn : ∀ i, i ∈ namesOf t → i ∈ pins) (hround : RoundP enc L SS I Ix P Λ N l pins ps.toList assign body t) : Res where
  S := List α × Option Code
  P := P
  Λ := Λ
  fv := .func (.yield l) #[] #[]
  ok s O H w := ∃ v γ, ROk SS I Ix l D outer (fun st pe => { state := st, pending := pe, fn := fn, tmps := tmps, params := ps, assign := assign, body := body, defers := df }) pins γe t tmps s O H w v γ
  lt := fun ⟨_, _, h⟩ => h.lt
  later := fun ⟨v, γ, h⟩ h1 h2 h3 => ⟨v, γ, h.later SS I Ix h1 h2 h3⟩
  pre := rPre enc L
  step := rStep enc L
  run := fun hp H w O vs hΛ hok hH hf hl hr => round_run enc L SS I Ix hsz hps hen hD hfl hpn hround hp H w O vs hΛ hok hH hf hl hr

theorem can_range {P : Program} {Λ : Amb} {N l D : Nat} {outer : Bool} {fn : FuncId} {ps : Array Nat} {assign body : Code} {df : Nat} {pins : List Nat} {γe : Ids} {t : T} {tmps : Array Value} (hsz : tmps.size = N) (hps : ∀ p, p ∈ ps.toList → p < N) (hen : ∀ x, (enc x).length = ps.size)
    (hD : outer = true → D ≠ l) (hfl : flatT t = true) (hpn : ∀ i, i ∈ namesOf t → i ∈ pins) (hround : RoundP enc L SS I Ix P Λ N l pins ps.toList assign body t) : ∀ (rest p : List α), L = p ++ rest →
    Can (rangeRes enc L SS I Ix (D := D) (outer := outer) (fn := fn) (df := df) (γe := γe) hsz hps hen hD hfl hpn hround) (p, none) (rest.map enc)
  | [], p, _ => trivial
  | x :: rest, p, h => ⟨⟨rfl, x, rest, h, rfl⟩, fun s' hs => by
      obtain ⟨_, x', post, h1, _, h2⟩ := hs
      rcases h2 with ⟨_, rfl⟩ | ⟨h2, _⟩
      · have : x' :: post = x :: rest := List.append_cancel_left (h1.symm.trans h)
        cases this
        exact can_range hsz hps hen hD hfl hpn hround rest (p ++ [x]) (by rw [h, List.append_assoc]; rfl)
      · cases h2⟩
theorem feeds_range {P : Program} {Λ : Amb} {N l D : Nat} {outer : Bool} {fn : FuncId} {ps : Array Nat} {assign body : Code} {df : Nat} {pins : List Nat} {γe : Ids} {t : T} {tmps : Array Value} (hsz : tmps.size = N) (hps : ∀ p, p ∈ ps.toList → p < N) (hen : ∀ x, (enc x).length = ps.size)
    (hD : outer = true → D ≠ l) (hfl : flatT t = true) (hpn : ∀ i, i ∈ namesOf t → i ∈ pins) (hround : RoundP enc L SS I Ix P Λ N l pins ps.toList assign body t) : ∀ (rest p : List α) (b : Bool) (s' : List α × Option Code), L = p ++ rest →
    Feeds (rangeRes enc L SS I Ix (D := D) (outer := outer) (fn := fn) (df := df) (γe := γe) hsz hps hen hD hfl hpn hround) (p, none) (rest.map enc) b s' → s' = (L, none) ∨ ∃ q c, s' = (q, some c)
  | [], p, b, s', h, k => by
    rw [List.append_nil] at h
    rcases k.inv with ⟨_, _, e⟩ | ⟨_, _, _, e, _⟩ | ⟨_, _, e, _⟩
    · exact .inl (by rw [h]; exact e)
    · cases e
    · cases e
  | x :: rest, p, b, s', h, k => by
    rcases k.inv with ⟨e, _⟩ | ⟨y, M, s1, e, hs, k⟩ | ⟨y, M, e, _, hs⟩
    · cases e
    · cases e
      obtain ⟨_, x', post, h1, _, h2⟩ := hs
      rcases h2 with ⟨_, rfl⟩ | ⟨h2, _⟩
      · have : x' :: post = x :: rest := List.append_cancel_left (h1.symm.trans h)
        cases this
        exact feeds_range hsz hps hen hD hfl hpn hround rest (p ++ [x]) b s' (by rw [h, List.append_assoc]; rfl) k
      · cases h2
    · cases e
      obtain ⟨_, x', post, h1, _, h2⟩ := hs
      rcases h2 with ⟨h2, _⟩ | ⟨_, c, e⟩
      · cases h2
      · exact .inr ⟨_, c, e⟩

/-- What the loop leaves: the memory that was lent to it, told anew. -/
theorem range_fin {X : Cx} {t : T} {σ : Sg} {γ γ' γ3 : Ids} {H H' : HF} {a : Act} {w W1 w3 : World} {l D : Nat} {outer : Bool} {rc : LoopState → Option Code → Loop} {pins : List Nat} {s' : List α × Option Code} {v0 v' : V} {ρ : Res} {st : ρ.S} {mark : List Deferred} {O0 : Nat → Prop}
    (s : St X γ H t σ a w) (hw : Wk (SS v0) σ) (hpin : ∀ i, i ∈ X.pin → i ∈ pins)
    (hO : ∀ b, O0 b → (∃ i e, look i (SS v0) = some e ∧ Gv.blk γ i e b) ∨ b = l ∨ (outer = true ∧ b = D))
    (hl : w.heap.size ≤ l) (hD : outer = true → w.heap.size ≤ D ∧ D ≠ l) (hmark : mark = if outer = true then [{ target := .collected D, args := #[] }] else [])
    (k1 : Keeps w (fun _ => False) W1) (m : Mem W1 H O0 γ' H' [(0, .res ρ st)] w3)
    (R : ROk SS I Ix l D outer rc pins γ t a.tmps s' (γ' 0).o H' w3 v' γ3) (r' : Loop) :
    St X γ3 H' t (SS v') { a with defers := mark ++ a.defers } (w3.putObj l (.loop r')) := by
  have hO' : ∀ b, (γ' 0).o b → W1.heap.size ≤ b ∨ O0 b := fun b hb => m.fresh 0 _ rfl b hb
  have hz := k1.size
  have old : ∀ b, O0 b → b < w.heap.size → ∃ i e, look i σ = some e ∧ Gv.blk γ i e b := fun b hb hlt => by
    rcases hO b hb with ⟨i, e, hi, h⟩ | rfl | ⟨ho, rfl⟩
    · exact ⟨i, e, hw i e hi, h⟩
    · omega
    · have := (hD ho).1; omega
  have xw : ∀ b, O0 b → X.w0.heap.size ≤ b ∨ X.B b := fun b hb => by
    by_cases hlt : b < w.heap.size
    · obtain ⟨i, e, hi, h⟩ := old b hb hlt
      exact s.mem.fresh i e hi b h
    · have := s.mem.keep.size; exact .inl (by omega)
  have fr : ∀ b, (γ' 0).o b → X.w0.heap.size ≤ b ∨ X.B b := fun b hb => by
    rcases hO' b hb with h | h
    · have := s.mem.keep.size; exact .inl (by omega)
    · exact xw b h
  have hrec := R.rcd
  have hlX : X.w0.heap.size ≤ l := Nat.le_trans s.mem.keep.size hl
  refine ⟨s.lam, s.round, ?_, s.size, fun i hi => (R.pin i (hpin i hi)).trans (s.pinned i hi), R.tmp, ?_⟩
  · obtain ⟨ms, hd, m1, m2⟩ := s.defers
    have oldm : ∀ b, b ∈ ms → (w3.putObj l (.loop r')).heap[b]? = some (.deferred (some [])) ∧ X.w0.heap.size ≤ b ∧ ¬ blks γ3 (SS v') b := fun b hb => by
      obtain ⟨h3, h4, h5⟩ := m2 b hb
      have hlt := lt_of_heap h3
      have hno : ¬ O0 b := fun h => by obtain ⟨i, e, hi, hbb⟩ := old b h hlt; exact h5 ⟨i, e, hi, hbb⟩
      refine ⟨?_, h4, fun ⟨i, e, hi, hbb⟩ => ?_⟩
      · rw [World.putObj_heap_other (by omega), m.keep.block b (by omega) hno, k1.block b hlt (fun h => h)]; exact h3
      · rcases hO' b (R.blk i e b hi hbb).1 with h | h
        · omega
        · exact hno h
    cases ho : outer with
    | false =>
      rw [ho] at hmark
      refine ⟨ms, by simp only [hmark, hd]; rfl, m1, oldm⟩
    | true =>
      rw [ho] at hmark
      refine ⟨D :: ms, by simp only [hmark, hd]; rfl, List.nodup_cons.2 ⟨fun hm => ?_, m1⟩, fun b hb => ?_⟩
      · have := lt_of_heap (m2 D hm).1; have := (hD ho).1; omega
      · rcases List.mem_cons.1 hb with rfl | hb
        · refine ⟨by rw [World.putObj_heap_other (hD ho).2]; exact R.dfr ho, Nat.le_trans s.mem.keep.size (hD ho).1, fun ⟨i, e, hi, hbb⟩ => (R.blk i e b hi hbb).2.2 ho rfl⟩
        · exact oldm b hb
  · refine ⟨⟨m.keep.os.trans (k1.os.trans s.mem.keep.os), m.keep.tape.trans (k1.tape.trans s.mem.keep.tape), m.keep.output.trans (k1.output.trans s.mem.keep.output), ?_, fun k hk hkB => ?_⟩, s.mem.hle.trans m.hle, ⟨fun b o v hv => ?_, fun b y hv => ?_⟩, hok_loop m.hok hrec,
      fun i e hi => (R.ent i e hi).later (HLe.refl _) (by simp) fun b hb => World.putObj_heap_other (R.blk i e b hi hb).2.1, fun i e hi b hb => m.free 0 _ rfl b (R.blk i e b hi hb).1, fun i e hi b hb => fr b (R.blk i e b hi hb).1, R.apart⟩
    · have h1 := s.mem.keep.size; have h2 := m.keep.size; simp; omega
    · have h1 := s.mem.keep.size
      have hno : ¬ O0 k := fun h => (xw k h).elim (fun h => by omega) hkB
      rw [World.putObj_heap_other (by omega), m.keep.block k (by omega) hno, k1.block k (by omega) (fun h => h), s.mem.keep.block k hk hkB]
    · rcases m.hnew.c b o v hv with h | h | h
      · exact s.mem.hnew.c b o v h
      · have h1 := s.mem.keep.size; exact .inr (.inl (by omega))
      · exact .inr (xw b h)
    · rcases m.hnew.m b y hv with h | h | h
      · exact s.mem.hnew.m b y h
      · have h1 := s.mem.keep.size; exact .inr (.inl (by omega))
      · exact .inr (xw b h)

/-- The loop begins. -/
theorem range_begin {X : Cx} {t : T} {σ : Sg} {γ : Ids} {H : HF} {a : Act} {w W1 : World} {l D : Nat} {outer : Bool} {rc : LoopState → Option Code → Loop} {pins : List Nat} {v0 : V}
    (s : St X γ H t σ a w) (hw : Wk (SS v0) σ) (hI : I [] v0) (hl : w.heap.size ≤ l) (hD : outer = true → w.heap.size ≤ D ∧ D ≠ l)
    (k1 : Keeps w (fun _ => False) W1) (hrec : W1.heap[l]? = some (.loop (rc .ready none))) (hdf : outer = true → W1.heap[D]? = some (.deferred (some []))) :
    ROk SS I Ix l D outer rc pins γ t a.tmps ([], none) (fun b => (∃ i e, look i (SS v0) = some e ∧ Gv.blk γ i e b) ∨ b = l ∨ (outer = true ∧ b = D)) H W1 v0 γ := by
  have hz := k1.size
  have hlt : ∀ i e b, look i (SS v0) = some e → Gv.blk γ i e b → b < w.heap.size := fun i e b hi hb => (s.mem.ent i e (hw i e hi)).lt hb
  refine ⟨hI, fun _ _ => rfl, s.tmp, hrec, hdf, fun b hb => ?_, .inr (.inl rfl), fun ho => .inr (.inr ⟨ho, rfl⟩), fun i e hi => (s.mem.ent i e (hw i e hi)).later (HLe.refl _) hz fun b hb => k1.block b (hlt i e b hi hb) (fun h => h),
    fun i e b hi hb => ⟨.inl ⟨i, e, hi, hb⟩, ?_, fun ho => ?_⟩, fun i e j e' b hi hj => s.mem.apart i e j e' b (hw i e hi) (hw j e' hj)⟩
  · rcases hb with ⟨i, e, hi, hb⟩ | rfl | ⟨ho, rfl⟩
    · have := hlt i e b hi hb; omega
    · exact lt_of_heap hrec
    · exact lt_of_heap (hdf ho)
  · have := hlt i e b hi hb; omega
  · have := hlt i e b hi hb; have := (hD ho).1; omega
end
end Go.Gv
