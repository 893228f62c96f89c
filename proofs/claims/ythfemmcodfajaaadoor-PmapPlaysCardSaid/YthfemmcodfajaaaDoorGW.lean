/- A range over a function: the law. -/
import Derived.Test.YthfemmcodfajaaaDoorGU
set_option linter.unusedVariables false
set_option linter.unusedSimpArgs false
namespace Go.Gv
open Go.RowKit
theorem keeps_alloc (w : World) (o : Obj) : Keeps w (fun _ => False) (w.alloc o) := ⟨rfl, rfl, rfl, by simp, fun k hk _ => by
  show (w.heap.push o)[k]? = _
  rw [Array.getElem?_push, if_neg (by omega)]⟩
theorem hok_keeps {H : HF} {w w' : World} (h : HOk H w) (k : Keeps w (fun _ => False) w') : HOk H w' := ⟨fun b o v hv => by
    have h1 := h.c b o v hv
    have hlt := lt_of_cell h1
    simp only [World.cell?] at h1 ⊢
    rw [k.block b hlt (fun x => x)]; exact h1, fun b es c hv => by
    have h1 := h.m b es c hv
    exact (k.block b (lt_of_heap h1) (fun x => x)).trans h1⟩
theorem free_new {H : HF} {w : World} (h : HOk H w) {b : Nat} (hb : w.heap.size ≤ b) : Free H b := by
  refine ⟨fun o => ?_, ?_⟩
  · cases hx : H.c b o with
    | none => rfl
    | some v => have := lt_of_cell (h.c b o v hx); omega
  · cases hx : H.m b with
    | none => rfl
    | some x => obtain ⟨es, c⟩ := x; have := lt_of_heap (h.m b es c hx); omega
section
variable {α V : Type} (enc : α → List AV) (L : List α) (SS : V → Sg) (I : List α → V → Prop) (Ix : Code → List α → V → Prop)
theorem WJ.rangeF {X : Cx} {g : Operand} {ps : Array Nat} {assign body : Code} {t : T} {σ : Sg} {Q : Qt} (v0 : V) {gf : FuncId} {caps : List AV} {av : AV} (hg : ge t g = some av) (hf : FnIs av gf caps) (hcap : caps.all AV.open = true) (hok : callOk X.P gf)
    (hit : Iter X.Λ X.P gf caps (L.map enc)) (hfl : flatT t = true) (hps : ps.toList.all (fun p => Nat.blt p X.N) = true) (hen : ∀ x, (enc x).length = ps.size) (hs : Wk (SS v0) σ) (h0 : I [] v0)
    (round : ∀ l, RoundP enc L SS I Ix X.P X.Λ X.N l (X.pin ++ namesOf t) ps.toList assign body t)
    (done : ∀ v, I L v → Q .normal t (SS v)) (stop : ∀ c p v, Ix c p v → vc X c t (SS v) Q) : WJ X (.rangeFunc g ps assign body) t σ Q := by
  intro γ H a w s
  refine wpIn_rangeFunc ?_
  intro fn hfn
  obtain ⟨us, hgv, hul, hur⟩ := hf.rep (ge_sound s.tmp hg)
  have hps' : ∀ p, p ∈ ps.toList → p < X.N := fun p hp => by have := List.all_eq_true.1 hps p hp; simpa using this
  have key : ∀ (l D : Nat) (outer : Bool) (df : Nat) (mark : List Deferred) (W1 : World), (Instr.enterLoop fn a.tmps ps assign body (Fr X.ro).round).run X.P w = .ok (l, mark) W1 → w.heap.size ≤ l → (outer = true → w.heap.size ≤ D ∧ D ≠ l) → Keeps w (fun _ => False) W1 →
      W1.heap[l]? = some (.loop { state := .ready, pending := none, fn := fn, tmps := a.tmps, params := ps, assign := assign, body := body, defers := df }) → (outer = true → W1.heap[D]? = some (.deferred (some []))) → mark = (if outer = true then [{ target := .collected D, args := #[] }] else []) →
      ∃ (l : Nat) (mark : List Deferred) (w₁ : World) (d : Deferred) (w₁' : World) (f : FuncId) (args : Array Value) (w₂ : World),
      (Instr.enterLoop fn a.tmps ps assign body (Fr X.ro).round).run X.P w = .ok (l, mark) w₁ ∧ (resolve a.eval (rangeCall g l) 0).run X.P w₁ = .ok d w₁' ∧ (∀ f', Target.leads X.P w₁' d.target d.args = some f' → (Fr X.ro).fn f') ∧
      (invoke d.target d.args).run X.P w₁' = .ok (.enter f args) w₂ ∧ ((Fr X.ro).depth.isSome = true → 1 ≤ 0) ∧ CallsIn (Fr X.ro) (0 - 1) X.P f args w₂ (rangePost (Fr X.ro) 0 X.P l (Post X Q) { a with defers := mark ++ a.defers }) := by
    intro l D outer df mark W1 he hl hD k1 hrec hdf hmark
    obtain ⟨rc, hrc⟩ : ∃ rc : LoopState → Option Code → Loop, rc = fun st pe => { state := st, pending := pe, fn := fn, tmps := a.tmps, params := ps, assign := assign, body := body, defers := df } := ⟨_, rfl⟩
    have hDl : outer = true → D ≠ l := fun ho => (hD ho).2
    have hpn : ∀ i, i ∈ namesOf t → i ∈ X.pin ++ namesOf t := fun i hi => List.mem_append.2 (.inr hi)
    let O0 : Nat → Prop := fun b => (∃ i e, look i (SS v0) = some e ∧ Gv.blk γ i e b) ∨ b = l ∨ (outer = true ∧ b = D)
    let ρ : Res := rangeRes enc L SS I Ix (D := D) (outer := outer) (fn := fn) (df := df) (γe := γ) (tmps := a.tmps) s.size hps' hen hDl hfl hpn (round l)
    have hR0 := range_begin SS I Ix (rc := rc) (pins := X.pin ++ namesOf t) s hs h0 hl hD k1 (by rw [hrc]; exact hrec) hdf
    have hcan : Can ρ ([], none) (L.map enc) := can_range enc L SS I Ix s.size hps' hen hDl hfl hpn (round l) L [] rfl
    have hct := hit ρ rfl rfl ([], none) hcan
    let γc : Ids := upd γ 0 ⟨0, 0, O0⟩
    have hblk : blks γc [(0, .res ρ ([], none))] = O0 := by
      funext b
      apply propext
      refine ⟨fun ⟨i, e, hi, hb⟩ => ?_, fun hb => ⟨0, _, rfl, ?_⟩⟩
      · rw [look_cons] at hi
        split at hi
        · next e' =>
          subst e'
          simp only [Option.some.injEq] at hi; subst hi
          simp only [blk, γc, upd_same] at hb; exact hb
        · simp [look] at hi
      · simp only [blk, γc, upd_same]; exact hb
    have hz := k1.size
    have hO0 : ∀ b, O0 b → (∃ i e, look i σ = some e ∧ Gv.blk γ i e b) ∨ w.heap.size ≤ b := fun b hb => by
      rcases hb with ⟨i, e, hi, h⟩ | rfl | ⟨ho, rfl⟩
      · exact .inl ⟨i, e, hs i e hi, h⟩
      · exact .inr hl
      · exact .inr (hD ho).1
    have hm : Mem W1 H (blks γc [(0, .res ρ ([], none))]) γc H [(0, .res ρ ([], none))] W1 := by
      rw [hblk]
      have one : ∀ j f, look j ([(0, Ent.res ρ ([], none))] : Sg) = some f → j = 0 ∧ f = .res ρ ([], none) := fun j f hj => by
        rw [look_cons] at hj
        split at hj
        · next e' => exact ⟨e', by simpa using hj.symm⟩
        · simp [look] at hj
      have hH1 := hok_keeps s.mem.hok k1
      refine ⟨Keeps.refl _ _, HLe.refl _, HNew.refl _ _ _, hH1, fun i e hi => ?_, fun i e hi b hb => ?_, fun i e hi b hb => ?_, fun i e j e' b hi hj hb hb' => ?_⟩
      · obtain ⟨rfl, rfl⟩ := one i e hi
        show ∃ v γ', ROk SS I Ix l D outer _ _ γ t a.tmps ([], none) (γc 0).o H W1 v γ'
        refine ⟨v0, γ, ?_⟩
        rw [← hrc]
        simp only [γc, upd_same]
        exact hR0
      · obtain ⟨rfl, rfl⟩ := one i e hi
        simp only [blk, γc, upd_same] at hb
        rcases hO0 b hb with ⟨i, e, hi, h⟩ | h
        · exact s.mem.free i e hi b h
        · exact free_new s.mem.hok h
      · obtain ⟨rfl, rfl⟩ := one i e hi
        simp only [blk, γc, upd_same] at hb
        exact .inr hb
      · obtain ⟨rfl, _⟩ := one i e hi; obtain ⟨rfl, _⟩ := one j e' hj; rfl
    have hlam : Lam X.Λ W1 (blks γc [(0, .res ρ ([], none))]) := by
      rw [hblk]
      have h1 := s.lam.keep s.mem.keep (C := fun b => ∃ i e, look i σ = some e ∧ Gv.blk γ i e b) fun b ⟨i, e, hi, hb⟩ => (s.mem.fresh i e hi b hb).elim (fun h => Nat.le_trans s.lam.2.1 h) (s.lam.2.2 b)
      refine ⟨X.Λ.st h1.1 fun k hk => k1.block k (Nat.lt_of_lt_of_le hk h1.2.1) (fun h => h), Nat.le_trans h1.2.1 hz, fun b hb => ?_⟩
      rcases hO0 b hb with h | h
      · exact h1.2.2 b h
      · exact Nat.le_trans h1.2.1 h
    have hcall := hct X.ro γc H W1 (.func (.yield l) #[] #[] :: us) hlam hm (by simp [hul]) (fun j x u hx hu => by
      cases j with
      | zero => simp at hx hu; subst hx; subst hu; exact .d _ _ (.v _ rfl)
      | succ j => exact (hur j x u (by simpa using hx) (by simpa using hu)).free (List.all_eq_true.1 hcap x (mem_of_get (by simpa using hx))))
    refine ⟨l, mark, W1, { target := .fn (.func gf) us.toArray, args := #[.func (.yield l) #[] #[]] }, W1, gf, #[.func (.yield l) #[] #[]] ++ us.toArray, W1, he, ?_, fun _ _ => trivial, ?_, fun h => by simp [Fr] at h, ?_⟩
    · simp only [resolve, hgv]
      simp [Deferred.ofValue, Act.eval]
    · have := hok (#[.func (.yield l) #[] #[]] ++ us.toArray) W1
      simpa [invoke] using this
    · have hargs : (.func (.yield l) #[] #[] :: us : List Value).toArray = #[.func (.yield l) #[] #[]] ++ us.toArray := Array.toList_inj.1 (by simp)
      rw [hargs] at hcall
      refine hcall.mono ?_
      rintro e w3 ⟨vr, r, σ', γ', H', rfl, ⟨b, s', hfeed, rfl⟩, _, _, _, hm3⟩
      rw [hblk] at hm3
      obtain ⟨v', γ3, R⟩ : ∃ v' γ3, ROk SS I Ix l D outer (fun st pe => { state := st, pending := pe, fn := fn, tmps := a.tmps, params := ps, assign := assign, body := body, defers := df }) (X.pin ++ namesOf t) γ t a.tmps s' (γ' 0).o H' w3 v' γ3 := hm3.ent 0 _ rfl
      rw [← hrc] at R
      have hrec3 := R.rcd
      have hend := run_endLoop (P := X.P) hrec3 (by rw [hrc]; cases s'.2 <;> simp)
      have hst := range_fin (X := X) SS I Ix (W1 := W1) (mark := mark) (O0 := O0) s hs (fun i hi => List.mem_append.2 (.inl hi)) (fun b hb => hb) hl hD hmark k1 hm3 R
      refine ⟨_, _, hend, ?_⟩
      rcases feeds_range enc L SS I Ix s.size hps' hen hDl hfl hpn (round l) L [] b s' rfl hfeed with e | ⟨q, c, e⟩
      · subst e
        have hinv : I L v' := R.inv
        have : (rc .ready none).pending = none := by rw [hrc]
        simp only [this]
        exact ⟨γ3, H', t, SS v', hst _, done v' hinv⟩
      · subst e
        have hinv : Ix c q v' := R.inv
        have : (rc .done (some c)).pending = some c := by rw [hrc]
        simp only [this]
        exact vc_sound _ _ _ _ (stop c q v' hinv) γ3 H' _ _ (hst _)
  cases hro : X.ro with
  | none =>
    have hr : (Fr X.ro).round = none := by rw [hro]; rfl
    refine hro ▸ key (w.heap.size + 1) w.heap.size true w.heap.size [{ target := .collected w.heap.size, args := #[] }] ((w.alloc (.deferred (some []))).alloc (.loop { state := .ready, pending := none, fn := fn, tmps := a.tmps, params := ps, assign := assign, body := body, defers := w.heap.size })) ?_ (by omega) (fun _ => ⟨Nat.le_refl _, by omega⟩) ?_ ?_ (fun _ => ?_) rfl
    · rw [hr]; exact run_enterLoop_outer _ _ _ _ _
    · exact (keeps_alloc w _).trans (keeps_alloc _ _) (fun b h => h.elim)
    · have := World.alloc_heap_new (w.alloc (.deferred (some []))) (.loop { state := .ready, pending := none, fn := fn, tmps := a.tmps, params := ps, assign := assign, body := body, defers := w.heap.size })
      rwa [World.size_alloc] at this
    · rw [(keeps_alloc _ _).block w.heap.size (by simp) (fun h => h)]; exact World.alloc_heap_new w _
  | some l0 =>
    have hr : (Fr X.ro).round = some l0 := by rw [hro]; rfl
    obtain ⟨⟨r0, h1⟩, h2⟩ := s.round l0 hro
    have h3 := (s.mem.keep.block l0 (lt_of_heap h1) h2).trans h1
    refine hro ▸ key w.heap.size 0 false r0.defers [] (w.alloc (.loop { state := .ready, pending := none, fn := fn, tmps := a.tmps, params := ps, assign := assign, body := body, defers := r0.defers })) ?_ (Nat.le_refl _) (fun h => by cases h) (keeps_alloc w _) (World.alloc_heap_new w _) (fun h => by cases h) rfl
    rw [hr]; exact run_enterLoop_inner h3 _ _ _ _ _
end
end Go.Gv
