/- Tries of ids: what is looked up; going over them. -/
import Derived.Test.YthfemmcodfajaaaDoorE20
set_option linter.unusedVariables false
set_option linter.unusedSimpArgs false
open Go Go.Gv
attribute [local irreducible] Go.Gv.WJ Go.Gv.OpJ Go.Gv.QJ Go.Gv.Spl Go.Gv.Req Go.Gv.IdxP Go.Gv.RegP Go.Gv.FinP Go.Gv.QuietP Go.Gv.CellP Go.Gv.CellsP Go.Gv.ArrP Go.Gv.ArrsP Go.Gv.DropP Go.Gv.ByteP Go.Gv.StoreP
set_option maxRecDepth 100000
namespace Go.Proofs.E
theorem alook_app {κ α : Type} [DecidableEq κ] (n : κ) : ∀ (A B : List (κ × α)), alook n (A ++ B) = (alook n A).or (alook n B)
  | [], B => by simp [alook]
  | p :: A, B => by
    simp only [List.cons_append, alook]
    split
    · simp
    · exact alook_app n A B
theorem alook_none {κ α : Type} [DecidableEq κ] {n : κ} : ∀ {m : List (κ × α)}, (∀ p, p ∈ m → n ≠ p.1) → alook n m = none
  | [], _ => rfl
  | p :: m, h => by rw [alook, if_neg (h p (by simp)), alook_none fun q hq => h q (List.mem_cons_of_mem _ hq)]
theorem elems_get : ∀ (r k x : Nat) (p : PT), PT.wf r p → k * 16 ^ r ≤ x → x < (k + 1) * 16 ^ r → PT.get r x p = alook x (elems r k p)
  | 0, k, x, p, hw, h1, h2 => by
    have hx : x = k := by simp at h1 h2; omega
    subst hx
    rcases hw with rfl | ⟨e', rfl⟩
    · rfl
    · simp [elems, PT.get, PT.ent, alook]
  | r + 1, k, x, p, hw, h1, h2 => by
    have hl := kids_len hw
    have hws := kids_wf hw
    have hd := dg_lt x r
    have e1 : k * 16 ^ (r + 1) = (16 * k) * 16 ^ r := by rw [Nat.pow_succ, Nat.mul_comm (16 ^ r), ← Nat.mul_assoc, Nat.mul_comm k]
    have e2 : (k + 1) * 16 ^ (r + 1) = (16 * k + 16) * 16 ^ r := by rw [Nat.pow_succ, Nat.mul_comm (16 ^ r), ← Nat.mul_assoc]; congr 1; omega
    rw [e1] at h1
    rw [e2] at h2
    have hp : 0 < 16 ^ r := Nat.pow_pos (by decide)
    have hq : x / 16 ^ r = 16 * k + dg x r := by
      have a1 : 16 * k ≤ x / 16 ^ r := (Nat.le_div_iff_mul_le hp).2 h1
      have a2 : x / 16 ^ r < 16 * k + 16 := (Nat.div_lt_iff_lt_mul hp).2 h2
      unfold dg; omega
    have hlo : (16 * k + dg x r) * 16 ^ r ≤ x := by rw [← hq]; exact Nat.div_mul_le_self _ _
    have hhi : x < (16 * k + dg x r + 1) * 16 ^ r := by rw [← hq]; exact Nat.lt_mul_of_div_lt (by omega) hp
    have hkid : PT.wf r (p.kids.getD (dg x r) .nil) := by
      rw [List.getD_eq_getElem?_getD]
      cases hx : p.kids[dg x r]? with
      | none => exact wf_nil r
      | some q => exact hws q (List.mem_of_getElem? hx)
    have ih := elems_get r (16 * k + dg x r) x _ hkid hlo hhi
    have hget : PT.get (r + 1) x p = PT.get r x (p.kids.getD (dg x r) .nil) := by
      cases p with
      | nil => rw [show PT.nil.kids = nils from rfl, nils_getD]; cases r <;> rfl
      | node ks e => rfl
    have hA : alook x ((List.range (dg x r)).flatMap fun d => elems r (16 * k + d) (p.kids.getD d .nil)) = none := alook_none fun y hy => by
      rw [List.mem_flatMap] at hy
      obtain ⟨d, hd', hy⟩ := hy
      have hd' := List.mem_range.1 hd'
      have h3 := (elems_rng r _ _ y hy).2
      have h4 := Nat.mul_le_mul_right (16 ^ r) (show 16 * k + d + 1 ≤ 16 * k + dg x r by omega)
      omega
    have hC : alook x ((List.range' (dg x r + 1) (15 - dg x r)).flatMap fun d => elems r (16 * k + d) (p.kids.getD d .nil)) = none := alook_none fun y hy => by
      rw [List.mem_flatMap] at hy
      obtain ⟨d, hd', hy⟩ := hy
      have hd' := List.mem_range'_1.1 hd'
      have h3 := (elems_rng r _ _ y hy).1
      have h4 := Nat.le_trans (Nat.mul_le_mul_right (16 ^ r) (show 16 * k + dg x r + 1 ≤ 16 * k + d by omega)) h3
      omega
    rw [hget, ih, elems, range_at hd]
    simp only [List.flatMap_append, List.flatMap_cons]
    rw [alook_app, alook_app, hA, hC, Option.none_or, Option.or_none]
/-- The elements from a digit on. -/
def restK (r k : Nat) (ks : List PT) (d : Nat) : List KE := (List.range' d (16 - d)).flatMap fun d => elems r (16 * k + d) (ks.getD d .nil)
theorem restK_all (r k : Nat) (ks : List PT) (e : Option EN) : elems (r + 1) k (.node ks e) = restK r k ks 0 := by
  rw [elems, restK, List.range_eq_range']; rfl
theorem restK_step (r k : Nat) (ks : List PT) {d : Nat} (h : d < 16) : restK r k ks d = elems r (16 * k + d) (ks.getD d .nil) ++ restK r k ks (d + 1) := by
  rw [restK, restK, show 16 - d = (16 - (d + 1)) + 1 by omega, List.range'_succ, List.flatMap_cons]
theorem restK_end (r k : Nat) (ks : List PT) : restK r k ks 16 = [] := rfl
abbrev keA (x : KE) : List AV := [idv (namK x.1), env x.2]
theorem shl4 {k : Nat} (h : k < 2 ^ 58) {d : Nat} (hd : d < 16) : orI .u64 (shlI .u64 (k : Int) ((4 : Nat) : Int)) (IntKind.u64.wrap (d : Int)) = ((16 * k + d : Nat) : Int) := by
  rw [wrap_u64 _ (by omega) (by omega), shl_u _ _ (by decide) (by omega), or_u _ _ _ (by omega) (by omega)]
  congr 1; omega
theorem closed_res {pin : List Nat} {ρ : Res} {s : ρ.S} {b : Bool} : closedB pin (bv b) [(0, .res ρ s)] := by
  refine ⟨fun j hj => (by cases hj), fun i e hi j hj => ?_⟩
  rw [look_cons] at hi
  by_cases h : i = 0
  · rw [if_pos h] at hi; cases hi; cases hj
  · rw [if_neg h] at hi; cases hi
set_option maxHeartbeats 2000000 in
theorem walk_c : ∀ (r k : Nat) (p : PT), r ≤ 8 → PT.wf r p → p.isNil = false → (k + 1) * 16 ^ r ≤ 2 ^ 58 → ∀ (ρ : Res), ρ.P = Tryd.prog → ρ.Λ = tab → ∀ s, Gv.Can ρ s ((elems r k p).map keA) →
    Ct tab Tryd.prog 55 [.d p.d, uv k, .d (.v ρ.fv)] [(0, .res ρ s)] (fun q σ' => ∃ b s', Feeds ρ s ((elems r k p).map keA) b s' ∧ q = bv b ∧ σ' = [(0, .res ρ s')])
  | 0, k, p, hr8, hw, hn, hk, ρ, hP, hΛ, s, hc => by
    rcases hw with rfl | ⟨e, rfl⟩
    · cases hn
    · have hc0 : Gv.Can ρ s [keA (k, e)] := hc
      show Ct tab _ _ _ _ (fun q σ' => ∃ b s', Feeds ρ s [keA (k, e)] b s' ∧ q = bv b ∧ σ' = [(0, .res ρ s')])
      refine Ct.of_vc Tryd.f55 Tryd.func55 rfl rfl fun w H B g0 => ?_
      (repeat (first | refine Spl.t rfl ?_ | refine Spl.f rfl ?_))
      refine RegP.mix 9 rfl (by decide +kernel) ?_
      refine QuietP.of (QJ.call (named_c k (by omega)) (fun _ _ => rfl) rfl rfl) ?_
      refine OpJ.callRes (j := 0) (ρ := ρ) (st := s) (avs := keA (k, e)) hP hΛ rfl rfl rfl rfl rfl rfl hc0.1 fun b s' hs => ?_
      refine FinP.of [(0, .res ρ s')] (Wk.cons rfl (Wk.nil _)) ?_ ⟨b, s', ?_, rfl, rfl⟩
      · exact closed_res
      · cases b with
        | true => exact .go hs (.nil _)
        | false => exact .stop hs
  | r + 1, k, p, hr8, hw, hn, hk, ρ, hP, hΛ, s, hc => by
    have hk58 : k < 2 ^ 58 := Nat.lt_of_lt_of_le (Nat.lt_succ_self k) (Nat.le_trans (Nat.le_mul_of_pos_right (k + 1) (Nat.pow_pos (by decide))) hk)
    rcases hw with rfl | ⟨ks, rfl, hl, hws, _⟩
    · cases hn
    · rw [restK_all] at hc ⊢
      obtain ⟨a0, a1, a2, a3, a4, a5, a6, a7, a8, a9, a10, a11, a12, a13, a14, a15, hks⟩ := len16 hl
      have hd : (PT.node ks none).d = .ptr [a0.d, a1.d, a2.d, a3.d, a4.d, a5.d, a6.d, a7.d, a8.d, a9.d, a10.d, a11.d, a12.d, a13.d, a14.d, a15.d, nilD] := by rw [hks]; rfl
      have hget : ∀ (d : Nat) (q : PT), ks[d]? = some q → [AV.d a0.d, AV.d a1.d, AV.d a2.d, AV.d a3.d, AV.d a4.d, AV.d a5.d, AV.d a6.d, AV.d a7.d, AV.d a8.d, AV.d a9.d, AV.d a10.d, AV.d a11.d, AV.d a12.d, AV.d a13.d, AV.d a14.d, AV.d a15.d][d]? = some (AV.d q.d) := fun d q h => by
        have : [AV.d a0.d, AV.d a1.d, AV.d a2.d, AV.d a3.d, AV.d a4.d, AV.d a5.d, AV.d a6.d, AV.d a7.d, AV.d a8.d, AV.d a9.d, AV.d a10.d, AV.d a11.d, AV.d a12.d, AV.d a13.d, AV.d a14.d, AV.d a15.d] = ks.map fun q => AV.d q.d := by rw [hks]; rfl
        rw [this, List.getElem?_map, h]; rfl
      rw [hd]
      refine Ct.of_vc Tryd.f55 Tryd.func55 rfl rfl fun w H B g0 => ?_
      (repeat (first | refine Spl.t rfl ?_ | refine Spl.f rfl ?_))
      refine WJ.loopK (V := Nat × ρ.S) (fun v => [(28, iv v.1)]) (fun v => [(0, .res ρ v.2)]) [0] (fun v => 16 - v.1) (fun v => v.1 ≤ 16 ∧ Gv.Can ρ v.2 ((restK r k ks v.1).map keA) ∧ ∀ b s', Feeds ρ v.2 ((restK r k ks v.1).map keA) b s' → Feeds ρ s ((restK r k ks 0).map keA) b s') (0, s) ⟨by simp, hc, fun _ _ h => h⟩ (by repeat' (first | exact trivial | exact rfl | refine And.intro ?_ ?_)) (by repeat' (first | exact trivial | exact rfl | refine And.intro ?_ ?_)) ?_
      rintro ⟨d, s1⟩ ⟨hd16, hcan, hfe⟩
      simp only at hd16 hcan hfe
      refine Spl.of (fun h1 => ?_) (fun h1 => ?_)
      · have hlt : d < 16 := by have := of_decide_eq_true h1; simp only at this; omega
        obtain ⟨q, hq⟩ : ∃ q, ks[d]? = some q := ⟨ks[d]'(by omega), by simp⟩
        have hgd : ks.getD d .nil = q := by rw [List.getD_eq_getElem?_getD, hq]; rfl
        rw [restK_step r k ks hlt, hgd, List.map_append] at hcan hfe
        have hcan := Can.app hcan
        (repeat (first | refine Spl.t rfl ?_ | refine Spl.f rfl ?_))
        refine Req.of ⟨by omega, by omega⟩ ?_
        refine CellP.of (.d q.d) (show ([AV.d a0.d, AV.d a1.d, AV.d a2.d, AV.d a3.d, AV.d a4.d, AV.d a5.d, AV.d a6.d, AV.d a7.d, AV.d a8.d, AV.d a9.d, AV.d a10.d, AV.d a11.d, AV.d a12.d, AV.d a13.d, AV.d a14.d, AV.d a15.d])[d * 1]? = some (AV.d q.d) from (by rw [Nat.mul_one]; exact hget d q hq)) ?_
        have hstep : ∀ b s', Feeds ρ s1 ((elems r (16 * k + d) q).map keA) b s' → (b = true → Gv.Can ρ s' ((restK r k ks (d + 1)).map keA) ∧ ∀ b' s'', Feeds ρ s' ((restK r k ks (d + 1)).map keA) b' s'' → Feeds ρ s ((restK r k ks 0).map keA) b' s'') ∧ (b = false → Feeds ρ s ((restK r k ks 0).map keA) false s') := fun b s' hf =>
          ⟨fun hb => by subst hb; exact ⟨hcan.2 s' hf, fun b' s'' h => hfe b' s'' (hf.app h)⟩, fun hb => by subst hb; exact hfe false s' (hf.cut _)⟩
        cases q with
        | nil =>
          have h2 := (hstep true s1 (by rw [elems_nil]; exact .nil _)).1 rfl
          (repeat (first | refine Spl.t rfl ?_ | refine Spl.f rfl ?_))
          exact ⟨(d + 1, s1), ⟨by simp only; omega, h2.1, h2.2⟩, by simp only; omega, ⟨some_iv (wrap_id _ (by omega) (by omega)), trivial⟩, (by repeat' (first | exact trivial | exact rfl | refine And.intro ?_ ?_)), ⟨rfl, trivial⟩, (by repeat' (first | exact trivial | exact rfl | refine And.intro ?_ ?_))⟩
        | node ks' e' =>
          have hb2 : (16 * k + d + 1) * 16 ^ r ≤ 2 ^ 58 := by
            refine Nat.le_trans (Nat.mul_le_mul_right (16 ^ r) (show 16 * k + d + 1 ≤ (k + 1) * 16 by omega)) ?_
            rw [Nat.mul_assoc, Nat.mul_comm 16, ← Nat.pow_succ]; exact hk
          have hwk := walk_c r (16 * k + d) (.node ks' e') (by omega) (hws _ (List.mem_of_getElem? hq)) rfl hb2 ρ hP hΛ s1 hcan.1
          rw [show uv (16 * k + d) = AV.d (.v (.int .u64 (orI .u64 (shlI .u64 (k : Int) ((4 : Nat) : Int)) (IntKind.u64.wrap (d : Int))))) from by rw [shl4 hk58 hlt]] at hwk
          (repeat (first | refine Spl.t rfl ?_ | refine Spl.f rfl ?_))
          refine Req.of (by decide) ?_
          (repeat (first | refine Spl.t rfl ?_ | refine Spl.f rfl ?_))
          refine OpJ.call hwk (fun _ _ => rfl) rfl rfl (Wk.cons rfl (Wk.nil _)) ?_
          rintro qv σ' ⟨b, s', hf, rfl, rfl⟩
          refine ⟨rfl, ?_⟩
          have h2 := hstep b s' hf
          cases b with
          | true =>
            have h3 := h2.1 rfl
            (repeat (first | refine Spl.t rfl ?_ | refine Spl.f rfl ?_))
            exact ⟨(d + 1, s'), ⟨by simp only; omega, h3.1, h3.2⟩, by simp only; omega, ⟨some_iv (wrap_id _ (by omega) (by omega)), trivial⟩, (by repeat' (first | exact trivial | exact rfl | refine And.intro ?_ ?_)), ⟨rfl, trivial⟩, (by repeat' (first | exact trivial | exact rfl | refine And.intro ?_ ?_))⟩
          | false =>
            (repeat (first | refine Spl.t rfl ?_ | refine Spl.f rfl ?_))
            exact FinP.of [(0, .res ρ s')] (Wk.cons rfl (Wk.nil _)) closed_res ⟨false, s', h2.2 rfl, rfl, rfl⟩
      · have he : d = 16 := by have := of_decide_eq_false h1; simp only at this; omega
        subst he
        (repeat (first | refine Spl.t rfl ?_ | refine Spl.f rfl ?_))
        exact FinP.of [(0, .res ρ s1)] (Wk.cons rfl (Wk.nil _)) closed_res ⟨true, s1, hfe true s1 (by rw [restK_end]; exact .nil _), rfl, rfl⟩
theorem closed_res' {pin : List Nat} {ρ : Res} {s : ρ.S} {r : AV} (h : r.open = true) : closedB pin r [(0, .res ρ s)] := by
  refine ⟨fun j hj => (by rw [has2_open h] at hj; cases hj), fun i e hi j hj => ?_⟩
  rw [look_cons] at hi
  by_cases h : i = 0
  · rw [if_pos h] at hi; cases hi; cases hj
  · rw [if_neg h] at hi; cases hi
attribute [local irreducible] elems
abbrev mapD (p : PT) (n : Int) : D := .ptr [p.d, .v (.int .i64 n)]
abbrev allF (p : PT) (n : Int) : AV := .d (.fn 54 [mapD p n])
theorem rep_fnD {γ : Ids} {H : HF} {f : FuncId} {cs : List AV} {ds : List D} {u : Value} (h : dAll cs = some ds) (r : Rep γ H (.fnp f cs) u) : Rep γ H (.d (.fn f ds)) u := by
  cases r with
  | fnp _ _ us hl hr =>
    obtain ⟨h1, h2⟩ := dAll_get h
    refine .d _ _ (.fn f ds us (by rw [hl, h1]) fun j x v hx hv => ?_)
    obtain ⟨a, ha, hd⟩ := h2 j x hx
    exact dOf_sound hd (hr j a v ha hv)
theorem All4_c (p : PT) (n : Int) : Cv 35 [mapv p n] (allF p n) := by
  refine Ct.of_vc Tryd.f35 Tryd.func35 rfl rfl fun w H B g0 => ?_
  exact FinP.pub 1 rfl rfl (FinP.view (fun _ _ _ => rep_fnD rfl) (FinP.open rfl rfl))
theorem all4_iter (p : PT) (n : Int) (hw : PT.wf 8 p) : Iter tab Tryd.prog 54 [.d (mapD p n)] ((elems 8 0 p).map keA) := by
  intro ρ hP hΛ s hc
  cases p with
  | nil =>
    have he : elems 8 0 PT.nil = [] := elems_nil 8 0
    rw [he] at hc ⊢
    refine Ct.of_vc Tryd.f54 Tryd.func54 rfl rfl fun w H B g0 => ?_
    (repeat (first | refine Spl.t rfl ?_ | refine Spl.f rfl ?_))
    exact FinP.of [(0, .res ρ s)] (Wk.cons rfl (Wk.nil _)) (closed_res' rfl) ⟨true, s, .nil _, rfl⟩
  | node ks e =>
    have hwk := walk_c 8 0 (.node ks e) (Nat.le_refl _) hw rfl (by decide) ρ hP hΛ s hc
    refine Ct.of_vc Tryd.f54 Tryd.func54 rfl rfl fun w H B g0 => ?_
    (repeat (first | refine Spl.t rfl ?_ | refine Spl.f rfl ?_))
    refine OpJ.call hwk (fun _ _ => rfl) rfl rfl (Wk.cons rfl (Wk.nil _)) ?_
    rintro qv σ' ⟨b, s', hf, rfl, rfl⟩
    refine ⟨rfl, ?_⟩
    exact FinP.of [(0, .res ρ s')] (Wk.cons rfl (Wk.nil _)) (closed_res' rfl) ⟨b, s', hf, rfl⟩
end Go.Proofs.E
