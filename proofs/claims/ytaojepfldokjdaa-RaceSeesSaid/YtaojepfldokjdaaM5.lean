/- Laws that the claim's text stands on: A region that draws its order: quiet operations, and one that changes what is private, of which not all of them wait; Traces: the first two acts that race; The document's order of a trace, as rows; The document's order of a trace: its walk; The document's races; what a read sees; the example; What a read sees; the example; The law RaceOrders: what is ahead is an order; a trace of one thread has no race; The law RaceSees: of a trace without races, a read sees the last write of its place that is ahead of it; Small laws of lists; Rows of acts as the statement reads them. -/
import Derived.Test.YtaojepfldokjdaaM1
import Derived.Test.YtaojepfldokjdaaM2
import Derived.Test.YtaojepfldokjdaaM3
import Derived.Test.YtaojepfldokjdaaM4
set_option linter.unusedVariables false
set_option linter.unusedSimpArgs false
section
namespace Go.Gv
open Go.RowKit
theorem listT2 (f : Nat → Option AV) : ∀ n, ∃ t : T, (∀ x, look x t = if x < n then f x else none) ∧ ∀ q, q ∈ t → f q.1 = some q.2
  | 0 => ⟨[], fun x => by rw [if_neg (Nat.not_lt_zero x)]; rfl, fun q h => by simp at h⟩
  | n + 1 => by
    obtain ⟨t, ht, hq⟩ := listT2 f n
    cases hf : f n with
    | none =>
      refine ⟨t, fun x => ?_, hq⟩
      rw [ht]
      by_cases e : x = n
      · subst e; rw [if_neg (Nat.lt_irrefl x), if_pos (by omega), hf]
      · by_cases h : x < n
        · rw [if_pos h, if_pos (by omega)]
        · rw [if_neg h, if_neg (by omega)]
    | some v =>
      refine ⟨(n, v) :: t, fun x => ?_, fun q h => ?_⟩
      · rw [look_cons]
        by_cases e : x = n
        · subst e; rw [if_pos rfl, if_pos (by omega), hf]
        · rw [if_neg e, ht]
          by_cases h : x < n
          · rw [if_pos h, if_pos (by omega)]
          · rw [if_neg h, if_neg (by omega)]
      · rcases List.mem_cons.1 h with rfl | h
        · exact hf
        · exact hq q h
/-- What the one operation does, whenever it is done. -/
def EffJ (X : Cx) (o : Oper) (t : T) (σ : Sg) (d lost : Nat) (fr : AV → Bool) {P : Type} (ve : P → AV) (σ' : P → Sg) : Prop :=
  o.guard = none ∧ o.dst = some d ∧ ∀ t' : T, (∀ x, x ∈ o.op.operands → ∀ v, ge t x = some v → ge t' x = some v) → (∀ q, q ∈ t' → fr q.2 = true) →
    OpJ X o t' σ (fun t2 σ2 => ∃ p, Wk (σ' p) σ2 ∧ look d t2 = some (ve p) ∧ ∀ x b, x ≠ d → x ≠ lost → look x t' = some b → look x t2 = some b)
def tabG {P : Type} (all : Array Oper) (V : Nat → AV) (t0 : T) (m1 d lost : Nat) (ve : P → AV) (g : Option P) (S : Nat → Bool) (x : Nat) : Option AV :=
  match g with
  | none => tabAt all V t0 S m1 x
  | some p => if x = d then some (ve p) else if x = lost then none else tabAt all V t0 S m1 x
def sgG {P : Type} (σ : Sg) (σ' : P → Sg) (g : Option P) : Sg := match g with
  | none => σ
  | some p => σ' p
theorem calm_anyX {X : Cx} {all : Array Oper} {m1 : Nat} {t0 : T} {σ σq : Sg} {V : Nat → AV} {P : Type} {ve : P → AV} {σ' : P → Sg} {oe : Oper} {d lost : Nat} {fr : AV → Bool} {Q' : Exit → Act → World → Prop}
    (hlN : lost < X.N) (hc : CalmR all (m1 + 1)) (hm : m1 + 1 ≤ all.size) (hoe : all[m1]? = some oe)
    (hstep : ∀ i o, i < m1 → all[i]? = some o → OStep X all o (states all V t0 i) σq (V i) ∧ dOk o.dst X.N = true)
    (hfar : ∀ i o, i < m1 → all[i]? = some o → edge oe i = true ∨ (namesT all o d = false ∧ namesT all o lost = false))
    (hq : Wk σq σ) (hq' : ∀ p, Wk σq (σ' p)) (hfr : ∀ i, i < m1 → fr (V i) = true) (hft : ∀ x b, look x t0 = some b → fr b = true) (heff : EffJ X oe (states all V t0 m1) σ d lost fr ve σ')
    (hend : ∀ p γ H a w listed, St X γ H ((d, ve p) :: (lost, .junk) :: states all V t0 m1) (σ' p) a w → listed.size = all.size → (∀ j, j < all.size → listed.getD j false = decide (j < m1 + 1)) → wpAnyIn (Fr X.ro) 0 X.P .any all Q' (all.size - (m1 + 1)) listed a w) :
    ∀ (fuel : Nat) (listed : Array Bool) (γ : Ids) (H : HF) (a : Act) (w : World), listed.size = all.size →
      (∀ j, m1 + 1 ≤ j → listed.getD j false = false) → (∀ i o, listed.getD i false = true → all[i]? = some o → ∀ e, e ∈ o.after → Region.binds .any e = true → listed.getD e.on false = true) →
      ((List.range (m1 + 1)).filter fun j => !listed.getD j false).length + (all.size - (m1 + 1)) = fuel →
      (∃ g : Option P, listed.getD m1 false = g.isSome ∧ TabOk γ H (tabG all V t0 m1 d lost ve g (fun j => listed.getD j false)) a.tmps ∧ St X γ H [] (sgG σ σ' g) a w) →
      wpAnyIn (Fr X.ro) 0 X.P .any all Q' fuel listed a w := by
  obtain ⟨hge, hde, heff⟩ := heff
  -- all is listed: the end
  have fin : ∀ (listed : Array Bool) (γ : Ids) (H : HF) (a : Act) (w : World), (∀ j, j < m1 + 1 → listed.getD j false = true) → listed.size = all.size → (∀ j, m1 + 1 ≤ j → listed.getD j false = false) →
      (∃ g : Option P, listed.getD m1 false = g.isSome ∧ TabOk γ H (tabG all V t0 m1 d lost ve g (fun j => listed.getD j false)) a.tmps ∧ St X γ H [] (sgG σ σ' g) a w) → wpAnyIn (Fr X.ro) 0 X.P .any all Q' (all.size - (m1 + 1)) listed a w := by
    rintro listed γ H a w hall hs htail ⟨g, hg, htab, sst⟩
    rw [hall m1 (by omega)] at hg
    cases g with
    | none => cases hg
    | some p =>
      refine hend p γ H a w listed (St.withT sst fun x b hx => ?_) hs (fun j hj => ?_)
      · by_cases hxd : x = d
        · subst hxd
          rw [look_cons, if_pos rfl] at hx
          exact htab x b (by simp only [tabG, if_true]; exact hx)
        · rw [look_cons, if_neg hxd, look_cons] at hx
          by_cases hxl : x = lost
          · subst hxl
            rw [if_pos rfl] at hx
            cases hx
            have hlt : x < a.tmps.size := by have := sst.size; omega
            exact ⟨a.tmps[x], by simp [hlt], .junk _⟩
          · rw [if_neg hxl, look_states] at hx
            refine htab x b ?_
            simp only [tabG, if_neg hxd, if_neg hxl]
            rw [← hx]
            simp only [tabAt]
            rw [lastW_congr m1 (fun j hj _ => hall j (by omega))]
      · by_cases hj' : j < m1 + 1
        · rw [hall j hj']; simp [hj']
        · rw [htail j (by omega)]; simp; omega
  intro fuel
  induction fuel with
  | zero =>
    intro listed γ H a w hs htail hclosed hcount hst
    have hall : ∀ j, j < m1 + 1 → listed.getD j false = true := fun j hj => by
      have h0 : ((List.range (m1 + 1)).filter fun j => !listed.getD j false) = [] := List.length_eq_zero_iff.1 (by omega)
      have := List.filter_eq_nil_iff.1 h0 j (List.mem_range.2 hj)
      simpa using this
    have := fin listed γ H a w hall hs htail hst
    rw [show all.size - (m1 + 1) = 0 from by omega] at this; exact this
  | succ fuel ih =>
    intro listed γ H a w hs htail hclosed hcount hst
    by_cases hall : ∀ j, j < m1 + 1 → listed.getD j false = true
    · have h0 : ((List.range (m1 + 1)).filter fun j => !listed.getD j false) = [] := List.filter_eq_nil_iff.2 fun j hj => by simp only [hall j (List.mem_range.1 hj)]; simp
      rw [h0] at hcount
      simp only [List.length_nil, Nat.zero_add] at hcount
      have := fin listed γ H a w hall hs htail hst
      rw [hcount] at this
      exact this
    · obtain ⟨g, hg, htab, sst⟩ := hst
      refine ⟨fun hn => ?_, fun i hi => ?_⟩
      · -- the least that is not listed is ready
        exfalso
        have hex : ∃ j, j < m1 + 1 ∧ listed.getD j false = false := by
          refine Classical.byContradiction fun hno => hall fun j hj => ?_
          cases hx : listed.getD j false with
          | true => rfl
          | false => exact absurd ⟨j, hj, hx⟩ hno
        have hmin : ∃ j, j < m1 + 1 ∧ listed.getD j false = false ∧ ∀ i, i < j → listed.getD i false = true := by
          obtain ⟨j, hj⟩ := hex
          induction j using Nat.strongRecOn with
          | _ j ihj =>
            by_cases hlow : ∀ i, i < j → listed.getD i false = true
            · exact ⟨j, hj.1, hj.2, hlow⟩
            · have : ∃ i, i < j ∧ listed.getD i false = false := by
                refine Classical.byContradiction fun hno => hlow fun i hi => ?_
                cases hx : listed.getD i false with
                | true => rfl
                | false => exact absurd ⟨i, hi, hx⟩ hno
              obtain ⟨i, hi, hx⟩ := this
              exact ihj i hi ⟨by omega, hx⟩
        obtain ⟨j, hj, hjl, hlow⟩ := hmin
        have hjn : j < all.size := by omega
        have hmem' : j ∈ Region.ready .any all listed := by
          rw [mem_ready]
          refine ⟨?_, all[j], by simp [hjn], fun e he hb => hlow _ (hc.back j all[j] (by simp [hjn]) e he hb)⟩
          rw [Array.getD_eq_getD_getElem?] at hjl ⊢
          rw [Array.getElem?_eq_getElem (by omega)] at hjl ⊢
          simpa using hjl
        rw [hn] at hmem'; cases hmem'
      · obtain ⟨h1, o, ho, h2⟩ := ready_sound hi
        obtain ⟨hil, hif⟩ := getD_of h1
        have hin : i < all.size := (Array.getElem?_eq_some_iff.1 ho).1
        have him : i < m1 + 1 := by
          refine Classical.byContradiction fun hge => hall fun j hj => ?_
          exact anc_listed hclosed (hc.tail i o ho (by omega) j hj) ho h2
        -- who writes what i names: listed just if it stands ahead
        have hwr : ∀ x, namesT all o x = true → ∀ j, j < m1 + 1 → dstAt all j = some x → listed.getD j false = decide (j < i) := by
          intro x hx j hj hd'
          cases hp : all[j]? with
          | none => simp [dstAt, hp] at hd'
          | some p =>
            simp only [dstAt, hp, Option.bind_some] at hd'
            by_cases hji : j < i
            · rcases hc.names i o (by omega) ho j p hji hp with h3 | ⟨h3, _⟩
              · rw [edge_listed h3 h2]; simp [hji]
              · rw [h3 x hd'] at hx; cases hx
            · by_cases e : j = i
              · subst e; rw [hif]; simp
              · rcases hc.names j p (by omega) hp i o (by omega) ho with h3 | ⟨_, h3⟩
                · cases hlj : listed.getD j false with
                  | false => simp; omega
                  | true =>
                    have := edge_listed h3 (hclosed j p hlj hp)
                    rw [hif] at this; cases this
                · rw [h3 x hd'] at hx; cases hx
        have htab_i : ∀ x, namesT all o x = true → tabAt all V t0 (fun j => listed.getD j false) m1 x = look x (states all V t0 i) := by
          intro x hx
          rw [look_states]
          simp only [tabAt]
          rw [lastW_congr m1 (fun j hj hd' => hwr x hx j (by omega) hd'), lastW_top m1 (by omega)]
        -- how many are left
        have hleft : ((List.range (m1 + 1)).filter fun j => !(listed.setIfInBounds i true).getD j false).length + (all.size - (m1 + 1)) = fuel := by
          have hf : ((List.range (m1 + 1)).filter fun j => !listed.getD j false).length = ((List.range (m1 + 1)).filter fun j => !(listed.setIfInBounds i true).getD j false).length + 1 := by
            have h5 : ∀ (l : List Nat), l.Nodup → i ∈ l → (l.filter fun j => !listed.getD j false).length = (l.filter fun j => !(listed.setIfInBounds i true).getD j false).length + 1 := by
              intro l
              induction l with
              | nil => intro _ h; cases h
              | cons b l ihl =>
                intro hnd hmem'
                rw [List.nodup_cons] at hnd
                by_cases e : i = b
                · subst e
                  have h6 : (listed.setIfInBounds i true).getD i false = true := by
                    rw [Array.getD_eq_getD_getElem?]; simp [hil]
                  have h7 : (l.filter fun j => !listed.getD j false) = (l.filter fun j => !(listed.setIfInBounds i true).getD j false) := by
                    refine List.filter_congr fun j hj => ?_
                    have hne : i ≠ j := fun e => hnd.1 (e ▸ hj)
                    rw [getD_set_ne false hne]
                  simp only [List.filter_cons, hif, h6, Bool.not_false, Bool.not_true, if_true, h7, List.length_cons, Bool.false_eq_true, if_false]
                · have h6 := getD_set_ne (listed := listed) false e
                  have h7 := ihl hnd.2 (by rcases List.mem_cons.1 hmem' with h | h; exact absurd h e; exact h)
                  simp only [List.filter_cons, h6]
                  split <;> simp only [List.length_cons, h7]
            exact h5 _ List.nodup_range (List.mem_range.2 him)
          omega
        have hclosed' : ∀ j p, (listed.setIfInBounds i true).getD j false = true → all[j]? = some p → ∀ e, e ∈ p.after → Region.binds .any e = true → (listed.setIfInBounds i true).getD e.on false = true := fun j p hj hp e he hb => by
          by_cases e' : i = j
          · subst e'
            rw [ho] at hp; simp only [Option.some.injEq] at hp; subst hp
            exact getD_set_true (h2 e he hb)
          · rw [getD_set_ne false e'] at hj
            exact getD_set_true (hclosed j p hj hp e he hb)
        have htail' : ∀ j, m1 + 1 ≤ j → (listed.setIfInBounds i true).getD j false = false := fun j hj => by
          rw [getD_set_ne false (by omega)]; exact htail j hj
        by_cases hie : i = m1
        · -- the one
          subst hie
          rw [hoe] at ho; simp only [Option.some.injEq] at ho; subst ho
          have hg0 : g = none := by
            rw [hif] at hg
            cases g with
            | none => rfl
            | some p => cases hg
          subst hg0
          have hw : Region.wanted oe (yielded all a.tmps) = true := by simp [Region.wanted, hge]
          unfold wpOpIn
          simp only [hoe]
          rw [if_pos hw]
          refine ⟨fun _ _ => trivial, ?_⟩
          obtain ⟨tc, htc0, htq⟩ := listT2 (fun x => tabAt all V t0 (fun j => listed.getD j false) i x) a.tmps.size
          have htc : ∀ x, look x tc = tabAt all V t0 (fun j => listed.getD j false) i x := fun x => by
            rw [htc0]
            split
            · rfl
            · next hx =>
              cases hv : tabAt all V t0 (fun j => listed.getD j false) i x with
              | none => rfl
              | some b =>
                obtain ⟨u, hu, _⟩ := htab x b hv
                exact absurd (Array.getElem?_eq_some_iff.1 hu).1 hx
          have hsc : St X γ H tc σ a w := St.withT sst (fun x b hx => htab x b (by show tabAt all V t0 _ i x = some b; rw [← htc]; exact hx))
          have key := heff tc (fun x hx v hv => by
            cases x with
            | tmp y =>
              have hy : namesT all oe y = true := by
                simp only [namesT, Bool.or_eq_true]
                exact .inl (.inr (List.any_eq_true.2 ⟨_, Array.mem_toList_iff.2 hx, by simp [hasT]⟩))
              show look y tc = some v
              rw [htc, htab_i y hy]; exact hv
            | const c => exact hv
            | func f => exact hv
            | global g => exact hv) (fun q hqm => by
            have h5 := htq q hqm
            simp only [tabAt] at h5
            split at h5
            · next j hj =>
              have := (lastW_spec _ _ hj).1
              rw [← Option.some.inj h5]
              exact hfr j this
            · exact hft _ _ h5)
          refine key γ H a w hsc _ _ ?_
          rintro γ' H' t' σ2 a' w' s' ⟨p, h4, h5, h6⟩
          refine ih _ γ' H' a' w' (by simpa using hs) htail' hclosed' hleft ⟨some p, ?_, fun x b hx => ?_, s'.wk (Wk.nil _) h4⟩
          · rw [Array.getD_eq_getD_getElem?]; simp [hil]
          · simp only [tabG] at hx
            by_cases hxd : x = d
            · rw [if_pos hxd] at hx
              subst hxd
              exact s'.tmp x b (by rw [← hx]; exact h5)
            · rw [if_neg hxd] at hx
              by_cases hxl : x = lost
              · rw [if_pos hxl] at hx; cases hx
              · rw [if_neg hxl] at hx
                refine s'.tmp x b (h6 x b hxd hxl ?_)
                rw [htc, ← hx]
                simp only [tabAt]
                rw [lastW_congr i fun j hj hd' => ?_]
                exact (getD_set_ne false (by omega : i ≠ j)).symm
        · -- a quiet one
          have him1 : i < m1 := by omega
          obtain ⟨hos, hdok⟩ := hstep i o him1 ho
          have hfar' : ∀ p, g = some p → namesT all o d = false ∧ namesT all o lost = false := fun p hp => by
            rcases hfar i o him1 ho with h3 | h3
            · rw [hp] at hg
              have := edge_listed h3 (hclosed m1 oe hg hoe)
              rw [hif] at this; cases this
            · exact h3
          have htabg : ∀ x, namesT all o x = true → ∀ S : Nat → Bool, tabG all V t0 m1 d lost ve g S x = tabAt all V t0 S m1 x := fun x hx S => by
            cases hgg : g with
            | none => rfl
            | some p =>
              obtain ⟨n1, n2⟩ := hfar' p hgg
              simp only [tabG]
              rw [if_neg (fun e => by subst e; rw [n1] at hx; cases hx), if_neg (fun e => by subst e; rw [n2] at hx; cases hx)]
          have hopnd : ∀ x, x ∈ o.op.operands → ∀ v, ge (states all V t0 i) x = some v → Rep γ H v (a.eval x) := by
            intro x hx v hv
            cases x with
            | tmp y =>
              have hy : namesT all o y = true := by
                simp only [namesT, Bool.or_eq_true]
                exact .inl (.inr (List.any_eq_true.2 ⟨_, Array.mem_toList_iff.2 hx, by simp [hasT]⟩))
              obtain ⟨u, hu, hr⟩ := htab y v (by rw [htabg y hy, htab_i y hy]; exact hv)
              simp only [Act.eval, Array.getD_eq_getD_getElem?, hu, Option.getD_some]
              exact hr
            | const c => simp only [ge, Option.some.injEq] at hv; subst hv; exact rep_const γ H c
            | func f => simp only [ge, Option.some.injEq] at hv; subst hv; exact .d _ _ (.fn f [] [] rfl (fun j a u h1 => by simp at h1))
            | global g => simp [ge] at hv
          have hnext : ∀ v γ' σ2 H' w', Mem w H (fun _ => False) γ' H' σ2 w' → Rep γ H' (V i) v → wpAnyIn (Fr X.ro) 0 X.P .any all Q' fuel (listed.setIfInBounds i true) (a.put o.dst v) w' := by
            intro v γ' σ2 H' w' hm' hr
            have sst' : St X γ H' [] (sgG σ σ' g) (a.put o.dst v) w' := (sst.calm (d := o.dst) hm' hdok hr).wk (Wk.nil _) (Wk.refl _)
            refine ih _ γ H' _ w' (by simpa using hs) htail' hclosed' hleft ⟨g, ?_, ?_, sst'⟩
            · rw [getD_set_ne false hie]; exact hg
            · -- the table
              intro x b hx
              by_cases hxd : o.dst = some x
              · have hnx : namesT all o x = true := by simp [namesT, hxd]
                have hlw : tabAt all V t0 (fun j => (listed.setIfInBounds i true).getD j false) m1 x = some (V i) := by
                  simp only [tabAt]
                  have : lastW all (fun j => (listed.setIfInBounds i true).getD j false) x m1 = lastW all (fun j => decide (j < i + 1)) x m1 := by
                    refine lastW_congr m1 fun j hj hd' => ?_
                    by_cases e : i = j
                    · subst e; rw [Array.getD_eq_getD_getElem?]; simp [hil]
                    · show (listed.setIfInBounds i true).getD j false = _
                      rw [getD_set_ne false e, hwr x hnx j (by omega) hd']
                      simp; omega
                  rw [this, lastW_top m1 (by omega)]
                  have hda : dstAt all i = some x := by simp [dstAt, ho, hxd]
                  simp [lastW, hda]
                rw [htabg x hnx, hlw] at hx
                simp only [Option.some.injEq] at hx
                subst hx
                have hlt : x < a.tmps.size := by have := sst.size; rw [hxd] at hdok; simp only [dOk, Nat.blt_eq] at hdok; omega
                exact ⟨v, by rw [hxd]; simp [Act.put, hlt], hr⟩
              · have hlw : tabG all V t0 m1 d lost ve g (fun j => (listed.setIfInBounds i true).getD j false) x = tabG all V t0 m1 d lost ve g (fun j => listed.getD j false) x := by
                  have h7 : tabAt all V t0 (fun j => (listed.setIfInBounds i true).getD j false) m1 x = tabAt all V t0 (fun j => listed.getD j false) m1 x := by
                    simp only [tabAt]
                    rw [lastW_congr m1 fun j hj hd' => ?_]
                    have e : i ≠ j := fun e => by subst e; simp [dstAt, ho] at hd'; exact hxd hd'
                    exact getD_set_ne false e
                  unfold tabG
                  rw [h7]
                rw [hlw] at hx
                obtain ⟨u, hu, hr'⟩ := htab x b hx
                refine ⟨u, ?_, hr'.mono hm'.hle⟩
                cases hod : o.dst with
                | none => simpa [Act.put, hod] using hu
                | some d =>
                  have hne : d ≠ x := fun e => hxd (by rw [hod, e])
                  simp only [Act.put]
                  rw [Array.getElem?_setIfInBounds, if_neg hne]; exact hu
          have hmemσ : Mem X.w0 X.H0 X.B γ H σq w := sst.mem.wk (by
            cases g with
            | none => exact hq
            | some p => exact hq' p)
          have hguard : ∀ j b' d b, o.guard = some (j, b') → ((all[j]?).bind (·.dst)) = some d → look d (states all V t0 i) = some (.d (.v (.bool b))) → yielded all a.tmps j = some b := by
            intro j b' d b hg hd' hl
            have hnd : namesT all o d = true := by simp [namesT, hg, hd']
            obtain ⟨u, hu, hr⟩ := htab d _ (by rw [htabg d hnd, htab_i d hnd]; exact hl)
            have := rep_v hr
            subst this
            simp [yielded, hd', hu]
          have hguardU : ∀ j b' d, o.guard = some (j, b') → ((all[j]?).bind (·.dst)) = some d → look d (states all V t0 i) = some (.tup []) → yielded all a.tmps j = none := by
            intro j b' d hg hd' hl
            have hnd : namesT all o d = true := by simp [namesT, hg, hd']
            obtain ⟨u, hu, hr⟩ := htab d _ (by rw [htabg d hnd, htab_i d hnd]; exact hl)
            have := rep_undef_eq hr
            subst this
            simp [yielded, hd', hu, undef]
          unfold wpOpIn
          simp only [ho]
          rcases hos with ⟨hg, hq⟩ | ⟨j, b, d, hg, hd', hl, hq⟩ | ⟨j, b, b', d, hg, hd', hl, hne, hV⟩ | ⟨j, b, d, hg, hd', hl, hV⟩
          · have hw : Region.wanted o (yielded all a.tmps) = true := by simp [Region.wanted, hg]
            rw [if_pos hw]
            exact ⟨fun _ _ => trivial, hq γ H a w sst.lam hopnd hmemσ _ _ hnext⟩
          · have hw : Region.wanted o (yielded all a.tmps) = true := by simp [Region.wanted, hg, hguard j b d b hg hd' hl]
            rw [if_pos hw]
            exact ⟨fun _ _ => trivial, hq γ H a w sst.lam hopnd hmemσ _ _ hnext⟩
          · have hw : Region.wanted o (yielded all a.tmps) = false := by simp [Region.wanted, hg, hguard j b d b' hg hd' hl, hne]
            simp only [hw, Bool.false_eq_true, if_false]
            exact ⟨fun _ _ => trivial, hnext undef γ [] H w (sst.mem.refl γ) (by rw [hV]; exact rep_undef)⟩
          · have hw : Region.wanted o (yielded all a.tmps) = false := by simp [Region.wanted, hg, hguardU j b d hg hd' hl]
            simp only [hw, Bool.false_eq_true, if_false]
            exact ⟨fun _ _ => trivial, hnext undef γ [] H w (sst.mem.refl γ) (by rw [hV]; exact rep_undef)⟩
/-! ### The reckoning -/
def CQ (X : Cx) (all : Array Oper) (σ : Sg) (Q : T → Prop) : List Oper → T → Prop
  | [], t => Q t
  | o :: rest, t => ∃ V, OStep X all o t σ V ∧ dOk o.dst X.N = true ∧ CQ X all σ Q rest (putT o.dst V t)
theorem CQ.table {X : Cx} {all : Array Oper} {σ : Sg} {Q : T → Prop} : ∀ (rest : List Oper) (k : Nat) (t : T), (∀ j, j < rest.length → all[k + j]? = rest[j]?) → CQ X all σ Q rest t →
    ∃ V : Nat → AV, (∀ j o, j < rest.length → all[k + j]? = some o → OStep X all o (statesFrom all V t k j) σ (V (k + j)) ∧ dOk o.dst X.N = true) ∧ Q (statesFrom all V t k rest.length)
  | [], k, t, _, h => ⟨fun _ => .junk, fun j o hj => by simp at hj, h⟩
  | p :: rest, k, t, ha, ⟨V0, h1, h2, h4⟩ => by
    have hk : all[k]? = some p := by simpa using ha 0 (by simp)
    have hdk : dstAt all k = p.dst := by simp [dstAt, hk]
    have ha' : ∀ j, j < rest.length → all[k + 1 + j]? = rest[j]? := fun j hj => by have := ha (j + 1) (by simp; omega); rw [show k + 1 + j = k + (j + 1) from by omega]; simpa using this
    have hne : ∀ j, k + (j + 1) ≠ k := fun j => by omega
    have hadd : ∀ j, k + (j + 1) = k + 1 + j := fun j => by omega
    obtain ⟨V', i1, i3⟩ := CQ.table rest (k + 1) _ ha' h4
    have hV : ∀ j, statesFrom all (fun i => if i = k then V0 else V' i) t k (j + 1) = statesFrom all V' (putT p.dst V0 t) (k + 1) j := fun j => by
      rw [statesFrom_succ, hdk]
      simp only [if_true]
      exact statesFrom_congr j fun i h7 h8 => if_neg (by omega)
    refine ⟨fun i => if i = k then V0 else V' i, ?_, by rw [List.length_cons, hV]; exact i3⟩
    intro j o hj ho
    cases j with
    | zero =>
      rw [Nat.add_zero, hk] at ho
      simp only [Option.some.injEq] at ho
      subst ho
      simp only [Nat.add_zero, if_true, statesFrom]
      exact ⟨h1, h2⟩
    | succ j =>
      rw [hV]
      simp only [if_neg (hne j)]
      have := i1 j o (by simpa using hj) (by rw [← hadd j]; exact ho)
      rw [hadd j]; exact this
def stepQ (X : Cx) (o : Oper) (t : T) (σ : Sg) (K : T → Prop) : Prop :=
  qw X o t σ (fun V => match dOk o.dst X.N with | true => K (putT o.dst V t) | false => False) (QuietP X o t σ (fun V => match dOk o.dst X.N with | true => K (putT o.dst V t) | false => False) fun _ _ _ => False)
/-- Quiet operations without guards. -/
def vQ (X : Cx) (σ : Sg) (Q : T → Prop) : List Oper → T → Prop
  | [], t => Q t
  | o :: rest, t => match o.guard with
    | none => stepQ X o t σ fun t => vQ X σ Q rest t
    | some _ => False
theorem vQ_sound {X : Cx} {all : Array Oper} {σ : Sg} {Q : T → Prop} : ∀ (rest : List Oper) (t : T), vQ X σ Q rest t → CQ X all σ Q rest t
  | [], _, h => h
  | o :: rest, t, h => by
    unfold vQ at h
    split at h
    · next hg =>
      have fin : ∀ V, QJ X o t σ V → (match dOk o.dst X.N with | true => vQ X σ Q rest (putT o.dst V t) | false => False) → CQ X all σ Q (o :: rest) t := fun V hq hk => by
        split at hk
        · next hb => exact ⟨V, .inl ⟨hg, hq⟩, hb, vQ_sound rest _ hk⟩
        · exact hk.elim
      unfold stepQ at h
      rcases qw_sound h with ⟨V, hq, hk⟩ | h
      · exact fin V hq hk
      · cases h with
        | of hq hk => exact fin _ hq hk
        | born hb hk => exact hk.elim
    · exact h.elim
/-- What the one operation d of the region does, from the state behind the quiet ones; then the rest. -/
def EffP (X : Cx) (o : Oper) (t : T) (σ : Sg) (d lost : Nat) (fr : AV → Bool) (σq : Sg) (K : T → Sg → Prop) : Prop :=
  t.all (fun q => fr q.2) = true ∧ ∃ (P : Type) (ve : P → AV) (σ' : P → Sg), EffJ X o t σ d lost fr ve σ' ∧ (∀ p, Wk σq (σ' p)) ∧ ∀ p, K ((d, ve p) :: (lost, .junk) :: t) (σ' p)
def farOk (all : Array Oper) (m1 d lost : Nat) : Bool := match all[m1]? with
  | some oe => (List.range m1).all fun i => edge oe i || (match all[i]? with
    | some o => !namesT all o d && !namesT all o lost
    | none => true)
  | none => false
theorem states_in (all : Array Oper) (V : Nat → AV) (t0 : T) : ∀ m i, i < m → (∃ d, dstAt all i = some d) → ∃ q, q ∈ states all V t0 m ∧ q.2 = V i
  | m + 1, i, hi, ⟨d, hd⟩ => by
    by_cases e : i = m
    · subst e
      exact ⟨(d, V i), by simp [states, hd, putT], rfl⟩
    · obtain ⟨q, h1, h2⟩ := states_in all V t0 m i (by omega) ⟨d, hd⟩
      refine ⟨q, ?_, h2⟩
      simp only [states]
      cases dstAt all m with
      | none => exact h1
      | some d => exact List.mem_cons_of_mem _ h1
theorem states_old (all : Array Oper) (V : Nat → AV) (t0 : T) : ∀ m q, q ∈ t0 → q ∈ states all V t0 m
  | 0, _, h => h
  | m + 1, q, h => by
    have := states_old all V t0 m q h
    simp only [states]
    cases dstAt all m with
    | none => exact this
    | some d => exact List.mem_cons_of_mem _ this
/-- **A region that draws its order: m1 quiet operations and then one that changes what is private (it may be done ahead of some of them), the rest by all orders.** -/
theorem RegP.mixX {X : Cx} {id : Nat} {ops : Array Oper} {t : T} {σ : Sg} {Q : T → Sg → Prop} (m1 d lost : Nat) (ks : List Nat) (fr : AV → Bool) {oe : Oper} (hm : X.P.follows .mixedOrders = true) (hoe : ops[m1]? = some oe)
    (hc : (calmB2 ops (m1 + 1) && Nat.ble (m1 + 1) ops.size && farOk ops m1 d lost && (ops.toList.take m1).all (fun o => o.dst.isSome)) = true) (hlN : Nat.blt lost X.N = true)
    (h : vQ X (hideS ks σ) (fun t => EffP X oe t σ d lost fr (hideS ks σ) fun t σ => vO X ops Q (ops.size - (m1 + 1)) (trues (m1 + 1) (falses (ops.size - (m1 + 1)))) t σ) (ops.toList.take m1) t) : RegP X id ops t σ Q := by
  intro Q' hQ
  simp only [Bool.and_eq_true, Nat.ble_eq] at hc
  simp only [Nat.blt_eq] at hlN
  obtain ⟨⟨⟨hc1, hle⟩, hfo⟩, hds⟩ := hc
  have hlen : (ops.toList.take m1).length = m1 := by simp; omega
  obtain ⟨V, g1, g2⟩ := CQ.table (all := ops) (ops.toList.take m1) 0 t (fun j hj => by rw [hlen] at hj; rw [Nat.zero_add, List.getElem?_take, if_pos hj]; simp) (vQ_sound _ _ h)
  simp only [hlen, Nat.zero_add] at g1 g2
  rw [statesFrom_zero] at g2
  obtain ⟨hfr, P, ve, σ', heff, hw', hk⟩ := g2
  rw [List.all_eq_true] at hfr hds
  intro γ H a w s
  refine wpIn_region_any hm ?_
  have s' : St X γ H t σ a { w with drawn := w.drawn + 1 } := ⟨s.lam, s.round, s.defers, s.size, s.pinned, s.tmp, s.mem.drew⟩
  have hall : ∀ j, (Array.replicate ops.size false).getD j false = false := fun j => by
    rw [Array.getD_eq_getD_getElem?, Array.getElem?_replicate]; split <;> rfl
  refine calm_anyX (P := P) hlN (calmB2_R hc1) hle hoe (V := V) (σ := σ) (σq := hideS ks σ) (ve := ve) (σ' := σ') (d := d) (lost := lost) (fr := fr) (t0 := t) (fun i o hi ho => by
    have := g1 i o hi ho
    rw [statesFrom_zero] at this
    exact this) (fun i o hi ho => ?_) (hideS_wk ks σ).1 hw' (fun i hi => ?_) (fun x b hx => ?_) heff (fun p γ H a w lst st hls hlst => ?_) ops.size _ γ H a _ (by simp) (fun j _ => hall j) (fun i o hi => by rw [hall i] at hi; cases hi) ?_ ⟨none, hall m1, fun x b hx => ?_, s'.wk (Wk.nil _) (Wk.refl _)⟩
  · unfold farOk at hfo
    rw [hoe] at hfo
    have := List.all_eq_true.1 hfo i (List.mem_range.2 hi)
    rw [ho] at this
    simp only [Bool.or_eq_true, Bool.and_eq_true, Bool.not_eq_true'] at this
    exact this
  · have hi' : i < ops.size := by omega
    have ho : (ops.toList.take m1)[i]? = some ops[i] := by rw [List.getElem?_take, if_pos hi]; simp [hi']
    have hd := hds _ (List.mem_of_getElem? ho)
    obtain ⟨x, hx⟩ := Option.isSome_iff_exists.1 hd
    obtain ⟨q, h5, h6⟩ := states_in ops V t m1 i hi ⟨x, by simp [dstAt, hi', hx]⟩
    rw [← h6]; exact hfr q h5
  · exact hfr _ (states_old ops V t m1 _ (look_mem hx))
  · have e : lst = (trues (m1 + 1) (falses (ops.size - (m1 + 1)))).toArray := by
      rw [trues_eq, falses_eq]
      apply Array.ext
      · simp [hls]; omega
      · intro j h1 h2
        have hj := hlst j (by omega)
        rw [Array.getD_eq_getD_getElem?, Array.getElem?_eq_getElem h1, Option.getD_some] at hj
        rw [hj, List.getElem_toArray, List.getElem_append]
        split
        · next h3 => simp at h3; simp [h3]
        · next h3 => simp at h3; simp; omega
    rw [e]
    exact vO_sound (Q := Q) (Q' := Post X Q') (fun γ H t σ a w s q => ⟨γ, H, t, σ, s, hQ t σ q⟩) (ops.size - (m1 + 1)) _ _ _ (hk p) γ H a w st
  · have : ((List.range (m1 + 1)).filter fun j => !(Array.replicate ops.size false).getD j false) = List.range (m1 + 1) := List.filter_eq_self.2 fun j _ => by rw [hall j]; rfl
    rw [this, List.length_range]; omega
  · have : lastW ops (fun j => (Array.replicate ops.size false).getD j false) x m1 = none := by
      have h0 : ∀ k, lastW ops (fun _ => false) x k = none := fun k => by
        induction k with
        | zero => rfl
        | succ k ih => simp [lastW, ih]
      rw [lastW_congr (S' := fun _ => false) m1 (fun j _ _ => hall j)]; exact h0 m1
    simp only [tabG, tabAt, this] at hx
    exact s.tmp x b hx
/-! ### append onto a row of a map, in such a region -/
theorem drop_id {i : Nat} {a : AV} (h : has2 i a = false) : drop i a = a := by unfold drop; rw [h]
theorem dropE_id {i : Nat} {e : Ent} (h : entHas i e = false) : dropE i e = e := by
  have hcs : ∀ cs : List AV, cs.any (has2 i) = false → cs.map (drop i) = cs := fun cs h => by
    have : ∀ a, a ∈ cs → drop i a = a := fun a ha => drop_id (by have := List.any_eq_false.1 h a ha; simpa using this)
    exact (List.map_congr_left this).trans (List.map_id _)
  cases e with
  | cells cs => exact congrArg Ent.cells (hcs cs h)
  | cellsT t cs => exact congrArg (Ent.cellsT t) (hcs cs h)
  | _ => rfl
theorem look_dropT {i x : Nat} {t : T} : look x (dropT i t) = (look x t).map (drop i) := look_map0
theorem all_dropT {i j : Nat} {t : T} (h : t.all (fun q => !has2 j q.2) = true) : (dropT i t).all (fun q => !has2 j q.2) = true := by
  rw [List.all_eq_true] at h ⊢
  intro q hq
  obtain ⟨z, hz, rfl⟩ := List.mem_map.1 hq
  simp only
  unfold drop
  split
  · rfl
  · exact h z hz
abbrev frI (id i : Nat) (a : AV) : Bool := !has2 id a && !has2 i a
section app
variable {X : Cx} {ty : TypeId} {pos : String} {aft : Array Edge} {t : T} {σ : Sg} {K : T → Sg → Prop}
theorem wk_hide {i : Nat} {e : Ent} : Wk (hideS [i] σ) ((i, e) :: rest [(i, .gone)] σ) := fun j f hj => by
  obtain ⟨h1, h2⟩ := hideS_wk [i] σ
  have hne : j ≠ i := fun e => by
    subst e
    rw [h2 j (by simp [inN])] at hj; cases hj
  rw [look_cons, if_neg hne, look_rest, look_cons, if_neg hne]
  exact h1 j f hj
theorem fresh_of {i : Nat} {t : T} {σ : Sg} {pin : List Nat} (h1 : t.all (fun q => !has2 i q.2) = true) (h2 : isFresh i [] σ pin = true) : isFresh i t σ pin = true := by
  unfold isFresh at h2 ⊢
  rw [h1]
  simpa using h2
theorem EffP.rowApp (i id : Nat) {p q d : Nat} {st xt : TypeId} {k : Nat} {r : RW} {l1 l2 : List RW} {av : AV} {ys : List (List D)} (hfr : t.all (fun z => frI id i z.2) = true) (hx : look p t = some (.d (.v r.sl))) (hi : look i σ = some (.res (rowsR X.P X.Λ k) (l1 ++ r :: l2)))
    (hy : look q t = some av) (hpq : Nat.beq q p = false) (hpd : Nat.beq p d = false) (hel : elems av = some (k, ys)) (hI : elInfo X.P st xt = some k) (hb : r.xs.length + ys.length ≤ 1000000000) (h0 : 0 < r.xs.length + ys.length)
    (hσ : isFresh id [] σ X.pin = true) (hσi : isFresh i [] (rest [(i, .gone)] σ) X.pin = true) (hN : dOk (some d) X.N = true)
    (h1 : isFresh id [] (rest [(id, .gone)] ((id, .arr k (r.xs ++ ys)) :: dropS id ((id, .arr k r.xs) :: (i, .res (rowsR X.P X.Λ k) (l1 ++ l2)) :: rest [(i, .gone)] σ))) X.pin = true)
    (h2 : isFresh i [] (rest [(i, .gone)] ((id, .arr k (r.xs ++ ys)) :: dropS id ((id, .arr k r.xs) :: (i, .res (rowsR X.P X.Λ k) (l1 ++ l2)) :: rest [(i, .gone)] σ))) X.pin = true)
    (kk : ∀ b c, K ((d, .d (.v (RW.sl ⟨b, c, r.xs ++ ys⟩))) :: (p, .junk) :: t) ((i, .res (rowsR X.P X.Λ k) (l1 ++ ⟨b, c, r.xs ++ ys⟩ :: l2)) :: rest [(i, .gone)] σ)) :
    EffP X ⟨some d, .call { callee := .builtin .append, args := #[.tmp p, .tmp q], argTypes := #[st, xt] }, ty, pos, aft, none⟩ t σ d p (frI id i) (hideS [i] σ) K := by
  have hne : i ≠ id := fun e => by
    subst e
    exact (fresh_s hσ hi).1 rfl
  have hnb : Nat.beq i id = false := by
    cases h : Nat.beq i id with
    | false => rfl
    | true => exact absurd (Nat.eq_of_beq_eq_true h) hne
  have hqp : q ≠ p := Nat.ne_of_beq_eq_false hpq
  have hpd' : p ≠ d := Nat.ne_of_beq_eq_false hpd
  refine ⟨hfr, Nat × Nat, fun bc => .d (.v (RW.sl ⟨bc.1, bc.2, r.xs ++ ys⟩)), fun bc => (i, .res (rowsR X.P X.Λ k) (l1 ++ ⟨bc.1, bc.2, r.xs ++ ys⟩ :: l2)) :: rest [(i, .gone)] σ, ⟨rfl, rfl, fun t' hop hq => ?_⟩, fun _ => wk_hide, fun bc => kk bc.1 bc.2⟩
  have hid : t'.all (fun z => !has2 id z.2) = true := List.all_eq_true.2 fun z hz => by have := hq z hz; simp only [frI, Bool.and_eq_true] at this; exact this.1
  have hii : t'.all (fun z => !has2 i z.2) = true := List.all_eq_true.2 fun z hz => by have := hq z hz; simp only [frI, Bool.and_eq_true] at this; exact this.2
  have hx' : look p t' = some (.d (.v r.sl)) := hop (.tmp p) (by simp [Op.operands, Call.operands]) _ hx
  have hy' : look q t' = some av := hop (.tmp q) (by simp [Op.operands, Call.operands]) _ hy
  refine OpJ.rowApp i id hx' hi (by show look q _ = some av; rw [look_cons, if_neg hqp]; exact hy') hel hI hb h0 (fresh_of hid hσ) (fresh_of hii hσi) hN h1 (fresh_of (all_dropT ?_) h2) fun b c => ⟨(b, c), fun j e hj => ?_, by rw [look_cons, if_pos rfl], fun x v hxd hxl hv => ?_⟩
  · show List.all (_ :: dropT id _) _ = true
    rw [List.all_cons, all_dropT (by rw [List.all_cons, hii]; simp [has2, has1, has0, hnb])]
    simp [has2, has1, has0, hnb]
  · simp only at hj
    rw [look_cons] at hj ⊢
    split at hj
    · next e1 => rw [if_pos e1]; exact hj
    · next e1 =>
      rw [if_neg e1]
      rw [look_rest] at hj
      split at hj
      · cases hj
      · have h3 := fresh_s hσ hj
        have l2r : ∀ τ : Sg, look j (rest [(i, .gone), (id, .gone)] τ) = look j τ := fun τ => by rw [look_rest, look_cons, if_neg e1, look_cons, if_neg h3.1]; rfl
        have l1r : ∀ τ : Sg, look j (rest [(i, .gone)] τ) = look j τ := fun τ => by rw [look_rest, look_cons, if_neg e1]; rfl
        rw [l2r, look_cons, if_neg h3.1, dropS, look_map, look_cons, if_neg h3.1, look_cons, if_neg e1, l1r, hj]
        exact congrArg some (dropE_id h3.2)
  · rw [look_cons, if_neg hxd, look_dropT]
    show (look x ((d, _) :: dropT id _)).map _ = _
    rw [look_cons, if_neg hxd, look_dropT, look_cons, if_neg hxl, hv]
    have h5 := List.all_eq_true.1 hid _ (look_mem hv)
    simp only [Bool.not_eq_true'] at h5
    simp [drop_id h5]
theorem EffP.rowNew (i id : Nat) {p q d : Nat} {st xt : TypeId} {k : Nat} {l1 : List RW} {av : AV} {ys : List (List D)} (hfr : t.all (fun z => frI id i z.2) = true) (hx : look p t = some (.d (.v (.slice none 0 0)))) (hi : look i σ = some (.res (rowsR X.P X.Λ k) l1))
    (hy : look q t = some av) (hpq : Nat.beq q p = false) (hpd : Nat.beq p d = false) (hel : elems av = some (k, ys)) (hI : elInfo X.P st xt = some k) (hb : 0 + ys.length ≤ 1000000000) (h0 : 0 < 0 + ys.length)
    (hσ : isFresh id [] σ X.pin = true) (hN : dOk (some d) X.N = true)
    (h1 : isFresh id [] (rest [(id, .gone)] ((id, .arr k ([] ++ ys)) :: dropS id ((id, .arr k []) :: σ))) X.pin = true)
    (h2 : isFresh i [] (rest [(i, .gone)] ((id, .arr k ([] ++ ys)) :: dropS id ((id, .arr k []) :: σ))) X.pin = true)
    (kk : ∀ b c, K ((d, .d (.v (RW.sl ⟨b, c, [] ++ ys⟩))) :: (p, .junk) :: t) ((i, .res (rowsR X.P X.Λ k) (l1 ++ [⟨b, c, [] ++ ys⟩])) :: rest [(i, .gone)] σ)) :
    EffP X ⟨some d, .call { callee := .builtin .append, args := #[.tmp p, .tmp q], argTypes := #[st, xt] }, ty, pos, aft, none⟩ t σ d p (frI id i) (hideS [i] σ) K := by
  have hne : i ≠ id := fun e => by
    subst e
    exact (fresh_s hσ hi).1 rfl
  have hnb : Nat.beq i id = false := by
    cases h : Nat.beq i id with
    | false => rfl
    | true => exact absurd (Nat.eq_of_beq_eq_true h) hne
  have hqp : q ≠ p := Nat.ne_of_beq_eq_false hpq
  have hpd' : p ≠ d := Nat.ne_of_beq_eq_false hpd
  refine ⟨hfr, Nat × Nat, fun bc => .d (.v (RW.sl ⟨bc.1, bc.2, [] ++ ys⟩)), fun bc => (i, .res (rowsR X.P X.Λ k) (l1 ++ [⟨bc.1, bc.2, [] ++ ys⟩])) :: rest [(i, .gone)] σ, ⟨rfl, rfl, fun t' hop hq => ?_⟩, fun _ => wk_hide, fun bc => kk bc.1 bc.2⟩
  have hid : t'.all (fun z => !has2 id z.2) = true := List.all_eq_true.2 fun z hz => by have := hq z hz; simp only [frI, Bool.and_eq_true] at this; exact this.1
  have hii : t'.all (fun z => !has2 i z.2) = true := List.all_eq_true.2 fun z hz => by have := hq z hz; simp only [frI, Bool.and_eq_true] at this; exact this.2
  have hx' : look p t' = some (.d (.v (.slice none 0 0))) := hop (.tmp p) (by simp [Op.operands, Call.operands]) _ hx
  have hy' : look q t' = some av := hop (.tmp q) (by simp [Op.operands, Call.operands]) _ hy
  refine OpJ.rowNew i id hx' hi (by show look q _ = some av; rw [look_cons, if_neg hqp]; exact hy') hel hI hb h0 (fresh_of hid hσ) hN h1 (fresh_of (all_dropT ?_) h2) fun b c => ⟨(b, c), fun j e hj => ?_, by rw [look_cons, if_pos rfl], fun x v hxd hxl hv => ?_⟩
  · show List.all (_ :: dropT id _) _ = true
    rw [List.all_cons, all_dropT (by rw [List.all_cons, hii]; simp [has2, has1, has0, hnb])]
    simp [has2, has1, has0, hnb]
  · simp only at hj
    rw [look_cons] at hj ⊢
    split at hj
    · next e1 => rw [if_pos e1]; exact hj
    · next e1 =>
      rw [if_neg e1]
      rw [look_rest] at hj
      split at hj
      · cases hj
      · have h3 := fresh_s hσ hj
        have l2r : ∀ τ : Sg, look j (rest [(i, .gone), (id, .gone)] τ) = look j τ := fun τ => by rw [look_rest, look_cons, if_neg e1, look_cons, if_neg h3.1]; rfl
        rw [l2r, look_cons, if_neg h3.1, dropS, look_map, look_cons, if_neg h3.1, hj]
        exact congrArg some (dropE_id h3.2)
  · rw [look_cons, if_neg hxd, look_dropT]
    show (look x ((d, _) :: dropT id _)).map _ = _
    rw [look_cons, if_neg hxd, look_dropT, look_cons, if_neg hxl, hv]
    have h5 := List.all_eq_true.1 hid _ (look_mem hv)
    simp only [Bool.not_eq_true'] at h5
    simp [drop_id h5]
end app
section
variable {X : Cx} {t : T} {σ : Sg} {K : T → Sg → Prop} {o : Oper}
theorem OpJ.rowIn (i id x : Nat) {k n : Nat} {xs : List (List D)} {l1 : List RW} (hi : look i σ = some (.res (rowsR X.P X.Λ k) l1)) (hid : look id σ = some (.arr k xs)) (hx : look x t = some (.arr id k n)) (hn : xs.length = n) (h0 : 0 < n)
    (hf : isFresh id [] (rest [(id, .gone)] σ) X.pin = true) (hfi : isFresh i (dropT id t) (rest [(i, .gone)] σ) X.pin = true)
    (kk : ∀ b c, OpJ X o ((x, .d (.v (RW.sl ⟨b, c, xs⟩))) :: dropT id t) ((i, .res (rowsR X.P X.Λ k) (l1 ++ [⟨b, c, xs⟩])) :: rest [(i, .gone), (id, .gone)] σ) K) : OpJ X o t σ K := fun γ H a w s => by
  obtain ⟨γ', b, c, s'⟩ := s.rowIn i id x (l1 := l1) (l2 := []) (by rw [List.append_nil]; exact hi) hid hx hn h0 hf hfi
  exact kk b c γ' H a w s'
end
end Go.Gv
end
section
open Go Go.Gv
attribute [local irreducible] Go.Gv.WJ Go.Gv.OpJ Go.Gv.QJ Go.Gv.Spl Go.Gv.Req Go.Gv.IdxP Go.Gv.RegP Go.Gv.FinP Go.Gv.CellP Go.Gv.CellsP Go.Gv.ArrP Go.Gv.ArrsP Go.Gv.DropP Go.Gv.ByteP Go.Gv.StoreP
set_option maxRecDepth 100000
namespace Go.Proofs.E
attribute [local irreducible] PutP LookP
noncomputable abbrev S9 (R : List (Int × RW)) : Sg := [(19, .mp false (R.map fun p => kInt.val p.1) (R.map fun p => [D.v p.2.sl])), (900, .res (rowsR Try.prog tab 1) (R.map (·.2)))]
theorem first_in {l : List AC} {k i : Nat} (hm : allMay l = true) (h : firstTo l k = none) (hi : firstI l k k = some i) (hk : k < l.length) : firstV l = .tup [iv (i : Nat), iv (k : Nat), iv 13] := by
  unfold firstV
  rw [if_pos hm, firstTo_some h hi _ hk]
theorem split_at {α : Type} {l : List α} {j : Nat} {a : α} (h : l[j]? = some a) : l = l.take j ++ a :: l.drop (j + 1) := by
  obtain ⟨h1, h2⟩ := List.getElem?_eq_some_iff.1 h
  rw [← h2, ← List.drop_eq_getElem_cons h1, List.take_append_drop]
theorem map_at {R : List (Int × RW)} {j : Nat} {loc : Int} {r : RW} (h : R[j]? = some (loc, r)) : R.map (·.2) = (R.take j).map (·.2) ++ r :: (R.drop (j + 1)).map (·.2) := by
  have := congrArg (List.map (·.2)) (split_at h)
  rw [List.map_append, List.map_cons] at this
  exact this
theorem aset_at {R : List (Int × RW)} {j : Nat} {loc : Int} {r x : RW} (h : R[j]? = some (loc, r)) (hn : ∀ (i : Nat) (p : Int × RW), i < j → R[i]? = some p → loc ≠ p.1) : (aset loc x R).map (·.2) = (R.take j).map (·.2) ++ x :: (R.drop (j + 1)).map (·.2) := by
  have h1 := (List.getElem?_eq_some_iff.1 h).1
  rw [aset_is h hn, List.set_eq_take_append_cons_drop, if_pos h1, List.map_append, List.map_cons]
theorem aset_new {R : List (Int × RW)} {loc : Int} {x : RW} (h : alook loc R = none) : (aset loc x R).map (·.2) = R.map (·.2) ++ [x] := by
  rw [aset_no (alook_no h), List.map_append]; rfl
theorem First_c (l : List AC) (hl : l.length ≤ 1000) : Cv 9 [.d (.sl 3 (l.map acD))] (firstV l) := by
  have hc := clocks_c l hl
  unfold clksv at hc
  have hla := len_acD l
  cases hm : allMay l with
  | false =>
    rw [hm, if_neg (by simp)] at hc
    refine Ct.of_vc Try.f9 Try.func9 rfl rfl fun w H B g0 => ?_
    refine OpJ.callV hc (fun _ _ => rfl) rfl rfl rfl ?_
    (repeat (first | refine Spl.t rfl ?_ | refine Spl.f rfl ?_))
    refine FinP.open rfl ?_
    unfold firstV
    rw [hm, if_neg (by simp)]; rfl
  | true =>
    rw [hm, if_pos rfl] at hc
    have ha := fun i k h1 h2 => ahead14_c l (runC l).cs i k h1 (by omega) h2 (runC_len l)
    have hd : ∀ i k : Nat, (decide (i < k) && decide (clAt ((runC l).cs.getD i []) (l.getD i AC0).t ≤ clAt ((runC l).cs.getD k []) (l.getD i AC0).t)) = aheadB l i k := fun _ _ => rfl
    refine Ct.of_vc Try.f9 Try.func9 rfl rfl fun w H B g0 => ?_
    refine OpJ.callV hc (fun _ _ => rfl) rfl rfl rfl ?_
    (repeat (first | refine Spl.t rfl ?_ | refine Spl.f rfl ?_))
    generalize hcs : (runC l).cs = cs at ha hd ⊢
    refine WJ.shift (SJ.newRows 900 1 rfl) ?_
    refine WJ.loopK (V := Nat × List (Int × RW)) (fun v => [(22, iv v.1)]) (fun v => S9 v.2) [19, 900] (fun v => l.length - v.1) (fun v => v.1 ≤ l.length ∧ firstTo l v.1 = none ∧ MInv l v.1 v.2) (0, []) ⟨Nat.zero_le _, rfl, MInv.nil l⟩ (by repeat' (first | exact trivial | exact rfl | refine And.intro ?_ ?_)) (by repeat' (first | exact trivial | exact rfl | refine And.intro ?_ ?_)) ?_
    rintro ⟨k, R⟩ ⟨hk, hf, hR⟩
    simp only at hk hf hR
    refine Spl.of (fun h1 => ?_) (fun h1 => ?_)
    · have hlt : k < l.length := by have := of_decide_eq_true h1; simp at this; omega
      have hx := get_acD hlt
      have hfi := fun i (hi : firstI l k k = some i) => first_in hm hf hi hlt
      have hfn : firstI l k k = none → firstTo l (k + 1) = none := fun h => by
        unfold firstTo
        rw [hf]
        simp only
        rw [h]
      have hrn := fun h => first_none (l := l) (k := k) h
      have hrs := fun q i h1 h2 h3 => first_some (l := l) (k := k) (q := q) (i := i) h1 h2 h3
      have hno := race_no (l := l) (k := k)
      have his := fun i => race_is (l := l) (k := k) (i := i)
      have hput := fun r => MInv.put hR (a := l.getD k AC0) rfl (r := r)
      have hskip := hR.skip
      have happ := accs_put (l := l) (k := k) (a := l.getD k AC0) rfl
      generalize l.getD k AC0 = a at hx hrn hrs hno his hput hskip happ
      (repeat (first | refine Spl.t rfl ?_ | refine Spl.f rfl ?_))
      refine IdxP.of (acD a) (by omega) (by rw [Int.toNat_natCast]; exact hx) ?_
      refine OpJ.callV (access_c a) (fun _ _ => rfl) rfl rfl rfl ?_
      (repeat (first | refine Spl.t rfl ?_ | refine Spl.f rfl ?_))
      refine Spl.of (fun h2 => ?_) (fun h2 => ?_)
      · have h2 : accA a = false := by simpa using h2
        (repeat (first | refine Spl.t rfl ?_ | refine Spl.f rfl ?_))
        exact ⟨(k + 1, R), ⟨by simp only; omega, hfn ((firstI_none l k k).2 fun i _ => hno h2 i), hskip h2⟩, by simp only; omega, ⟨some_iv (wrap_id _ (by omega) (by omega)), trivial⟩, (by repeat' (first | exact trivial | exact rfl | refine And.intro ?_ ?_)), (by repeat' (first | exact trivial | exact rfl | refine And.intro ?_ ?_)), (by repeat' (first | exact trivial | exact rfl | refine And.intro ?_ ?_))⟩
      · have h2 : accA a = true := by simpa using h2
        (repeat (first | refine Spl.t rfl ?_ | refine Spl.f rfl ?_))
        have hloc := hR a.loc
        refine LookP.by kInt R (e := fun r => [D.v r.sl]) (fun r hr => ?_) (fun hr => ?_)
        · rw [hr] at hloc
          simp only at hloc
          obtain ⟨jr, hjr, hjn⟩ := alook_is hr
          have hmem : r ∈ R.map (·.2) := List.mem_map.2 ⟨_, List.mem_of_getElem? hjr, rfl⟩
          have hll : r.xs.length = (accs l k a.loc).length := by rw [hloc, List.length_map]
          have hal := accs_len l k a.loc
          (repeat (first | refine Spl.t rfl ?_ | refine Spl.f rfl ?_))
          refine WJ.loopK (V := Nat) (fun j => [(35, iv j)]) (fun _ => []) [] (fun j => r.xs.length - j) (fun j => j ≤ r.xs.length ∧ ∀ p i : Nat, p < j → (accs l k a.loc)[p]? = some i → raceB l i k = false) 0 ⟨Nat.zero_le _, fun _ _ h => by omega⟩ (by repeat' (first | exact trivial | exact rfl | refine And.intro ?_ ?_)) (by repeat' (first | exact trivial | exact rfl | refine And.intro ?_ ?_)) ?_
          rintro j ⟨hj, hall⟩
          refine Spl.of (fun h3 => ?_) (fun h3 => ?_)
          · have hjl : j < r.xs.length := by have := of_decide_eq_true h3; omega
            have hq : (accs l k a.loc)[j]? = some ((accs l k a.loc)[j]'(by omega)) := List.getElem?_eq_getElem _
            generalize (accs l k a.loc)[j]'(by omega) = i at hq
            have hxs : r.xs[j]? = some (dn i) := by rw [hloc, List.getElem?_map, hq]; rfl
            obtain ⟨hik, hin⟩ := mem_accs.1 (List.mem_of_getElem? hq)
            have hrace := his i hin h2
            have hai := ha i k (by omega) hlt
            rw [hd] at hai
            have hxi := get_acD (by omega : i < l.length)
            have hrs := fun h => hfi i (hrs j i hq h hall)
            have hall' : raceB l i k = false → ∀ p i : Nat, p < j + 1 → (accs l k a.loc)[p]? = some i → raceB l i k = false := fun h p i' hp hi' => by
              by_cases e : p = j
              · subst e; rw [hq] at hi'; cases hi'; exact h
              · exact hall p i' (by omega) hi'
            generalize l.getD i AC0 = c at hrace hxi
            (repeat (first | refine Spl.t rfl ?_ | refine Spl.f rfl ?_))
            refine OpJ.qu (O.idxV (b := r.b) (n := r.xs.length) (c := r.c) rfl rfl rfl rfl (by omega) (by omega)) rfl ?_
            refine OpJ.qu (O.loadV (i := 900) (r := r) (v := .v (.int .i64 (i : Nat))) rfl rfl hmem rfl (by show r.xs[(j : Int).toNat * 1]? = _; rw [Int.toNat_natCast, Nat.mul_one]; exact hxs) rfl) rfl ?_
            refine Spl.of (fun h4 => ?_) (fun h4 => ?_)
            · have h4 : wrA a = true := h4
              rw [h4, Bool.true_or, Bool.true_and] at hrace
              (repeat (first | refine Spl.t rfl ?_ | refine Spl.f rfl ?_))
              refine OpJ.callV hai (fun _ _ => rfl) rfl rfl rfl ?_
              (repeat (first | refine Spl.t rfl ?_ | refine Spl.f rfl ?_))
              refine Spl.of (fun h5 => ?_) (fun h5 => ?_)
              · (repeat (first | refine Spl.t rfl ?_ | refine Spl.f rfl ?_))
                exact FinP.open rfl (hrs (hrace.trans h5)).symm
              · (repeat (first | refine Spl.t rfl ?_ | refine Spl.f rfl ?_))
                exact ⟨j + 1, ⟨by omega, hall' (hrace.trans h5)⟩, by omega, ⟨some_iv (wrap_id _ (by omega) (by omega)), trivial⟩, (by repeat' (first | exact trivial | exact rfl | refine And.intro ?_ ?_)), (by repeat' (first | exact trivial | exact rfl | refine And.intro ?_ ?_)), (by repeat' (first | exact trivial | exact rfl | refine And.intro ?_ ?_))⟩
            · have h4 : wrA a = false := h4
              rw [h4, Bool.false_or] at hrace
              (repeat (first | refine Spl.t rfl ?_ | refine Spl.f rfl ?_))
              refine IdxP.of (acD c) (by omega) (by rw [Int.toNat_natCast]; exact hxi) ?_
              (repeat (first | refine Spl.t rfl ?_ | refine Spl.f rfl ?_))
              refine Spl.of (fun h5 => ?_) (fun h5 => ?_)
              · have h5 : wrA c = true := h5
                rw [h5, Bool.true_and] at hrace
                (repeat (first | refine Spl.t rfl ?_ | refine Spl.f rfl ?_))
                refine OpJ.callV hai (fun _ _ => rfl) rfl rfl rfl ?_
                (repeat (first | refine Spl.t rfl ?_ | refine Spl.f rfl ?_))
                refine Spl.of (fun h5 => ?_) (fun h5 => ?_)
                · (repeat (first | refine Spl.t rfl ?_ | refine Spl.f rfl ?_))
                  exact FinP.open rfl (hrs (hrace.trans h5)).symm
                · (repeat (first | refine Spl.t rfl ?_ | refine Spl.f rfl ?_))
                  exact ⟨j + 1, ⟨by omega, hall' (hrace.trans h5)⟩, by omega, ⟨some_iv (wrap_id _ (by omega) (by omega)), trivial⟩, (by repeat' (first | exact trivial | exact rfl | refine And.intro ?_ ?_)), (by repeat' (first | exact trivial | exact rfl | refine And.intro ?_ ?_)), (by repeat' (first | exact trivial | exact rfl | refine And.intro ?_ ?_))⟩
              · have h5 : wrA c = false := h5
                rw [h5, Bool.false_and] at hrace
                (repeat (first | refine Spl.t rfl ?_ | refine Spl.f rfl ?_))
                exact ⟨j + 1, ⟨by omega, hall' hrace⟩, by omega, ⟨some_iv (wrap_id _ (by omega) (by omega)), trivial⟩, (by repeat' (first | exact trivial | exact rfl | refine And.intro ?_ ?_)), (by repeat' (first | exact trivial | exact rfl | refine And.intro ?_ ?_)), (by repeat' (first | exact trivial | exact rfl | refine And.intro ?_ ?_))⟩
          · have h3 := of_decide_eq_false h3
            have hfn := hfn (hrn fun p i hp => hall p i (by have := (List.getElem?_eq_some_iff.1 hp).1; omega) hp)
            (repeat (first | refine Spl.t rfl ?_ | refine Spl.f rfl ?_))
            refine RegP.mixX 9 70 67 [900] (frI 901 900) rfl rfl (by decide +kernel) rfl ?_
            refine LookP.by kInt R (e := fun r => [D.v r.sl]) (fun r2 hr2 => ?_) (fun hr2 => ?_)
            · rw [hr] at hr2; cases hr2
              refine EffP.rowApp 900 901 (r := r) (l1 := (R.take jr).map (·.2)) (l2 := (R.drop (jr + 1)).map (·.2)) rfl rfl (congrArg (fun s => some (Ent.res (rowsR Try.prog tab 1) s)) (map_at hjr)) rfl rfl rfl rfl rfl (by show r.xs.length + 1 ≤ _; omega) (by show 0 < r.xs.length + 1; omega) rfl rfl rfl rfl rfl ?_
              intro b c
              (repeat (first | refine Spl.t rfl ?_ | refine Spl.f rfl ?_))
              refine PutP.by kInt R (⟨b, c, r.xs ++ [dn k]⟩ : RW) (e := fun r => [D.v r.sl]) ?_
              (repeat (first | refine Spl.t rfl ?_ | refine Spl.f rfl ?_))
              refine ⟨(k + 1, aset a.loc ⟨b, c, r.xs ++ [dn k]⟩ R), ⟨by simp only; omega, hfn, hput _ h2 ?_⟩, by simp only; omega, ⟨some_iv (wrap_id _ (by omega) (by omega)), trivial⟩, (by repeat' (first | exact trivial | exact rfl | refine And.intro ?_ ?_)), ⟨rfl, ?_, trivial⟩, (by repeat' (first | exact trivial | exact rfl | refine And.intro ?_ ?_))⟩
              · rw [happ h2, ← hloc]
              · exact congrArg (fun s => some (Ent.res (rowsR Try.prog tab 1) s)) (aset_at hjr hjn).symm
            · rw [hr] at hr2; cases hr2
        · rw [hr] at hloc
          simp only at hloc
          (repeat (first | refine Spl.t rfl ?_ | refine Spl.f rfl ?_))
          refine WJ.loopK (V := Nat) (fun j => [(35, iv j)]) (fun _ => []) [] (fun j => 0 - j) (fun j => j = 0) 0 rfl (by repeat' (first | exact trivial | exact rfl | refine And.intro ?_ ?_)) (by repeat' (first | exact trivial | exact rfl | refine And.intro ?_ ?_)) ?_
          rintro j rfl
          (repeat (first | refine Spl.t rfl ?_ | refine Spl.f rfl ?_))
          have hfn := hfn (hrn fun p i hp => by rw [hloc] at hp; simp at hp)
          (repeat (first | refine Spl.t rfl ?_ | refine Spl.f rfl ?_))
          refine RegP.mixX 9 70 67 [900] (frI 901 900) rfl rfl (by decide +kernel) rfl ?_
          refine LookP.by kInt R (e := fun r => [D.v r.sl]) (fun r2 hr2 => ?_) (fun hr2 => ?_)
          · rw [hr] at hr2; cases hr2
          · refine EffP.rowNew 900 901 (l1 := R.map (·.2)) rfl rfl rfl rfl rfl rfl rfl rfl (by show 0 + 1 ≤ 1000000000; omega) (by show 0 < 0 + 1; omega) rfl rfl rfl rfl ?_
            intro b c
            (repeat (first | refine Spl.t rfl ?_ | refine Spl.f rfl ?_))
            refine PutP.by kInt R (⟨b, c, [dn k]⟩ : RW) (e := fun r => [D.v r.sl]) ?_
            (repeat (first | refine Spl.t rfl ?_ | refine Spl.f rfl ?_))
            refine ⟨(k + 1, aset a.loc ⟨b, c, [dn k]⟩ R), ⟨by simp only; omega, hfn, hput _ h2 ?_⟩, by simp only; omega, ⟨some_iv (wrap_id _ (by omega) (by omega)), trivial⟩, (by repeat' (first | exact trivial | exact rfl | refine And.intro ?_ ?_)), ⟨rfl, ?_, trivial⟩, (by repeat' (first | exact trivial | exact rfl | refine And.intro ?_ ?_))⟩
            · rw [happ h2, hloc]; rfl
            · exact congrArg (fun s => some (Ent.res (rowsR Try.prog tab 1) s)) (aset_new hr).symm
    · have h1 := of_decide_eq_false h1
      simp at h1
      (repeat (first | refine Spl.t rfl ?_ | refine Spl.f rfl ?_))
      refine FinP.open rfl ?_
      obtain rfl : k = l.length := by omega
      unfold firstV
      rw [if_pos hm, hf]; rfl
end Go.Proofs.E
end
section
open Go Go.Gv
attribute [local irreducible] Go.Gv.WJ Go.Gv.OpJ Go.Gv.QJ Go.Gv.Spl Go.Gv.Req Go.Gv.IdxP Go.Gv.RegP Go.Gv.FinP Go.Gv.CellP Go.Gv.CellsP Go.Gv.ArrP Go.Gv.ArrsP Go.Gv.DropP Go.Gv.ByteP Go.Gv.StoreP
set_option maxRecDepth 100000
namespace Go.Proofs.E
open Classical in
noncomputable def hbB (l : List AC) (i k : Nat) : Bool := decide (HB l i k)
theorem hbB_iff (l : List AC) (i k : Nat) : hbB l i k = true ↔ HB l i k := by unfold hbB; simp
open Classical in
/-- What leads to k by way of an act from m on. -/
noncomputable def colB (l : List AC) (k m j : Nat) : Bool := decide (∃ (d : Nat) (a b : AC), m ≤ d ∧ d < k ∧ l[d]? = some a ∧ l[k]? = some b ∧ dirA a b ∧ (j = d ∨ HB l j d))
theorem colB_iff (l : List AC) (k m j : Nat) : colB l k m j = true ↔ ∃ (d : Nat) (a b : AC), m ≤ d ∧ d < k ∧ l[d]? = some a ∧ l[k]? = some b ∧ dirA a b ∧ (j = d ∨ HB l j d) := by unfold colB; simp
theorem bool_iff {a b : Bool} (h : a = true ↔ b = true) : a = b := by
  cases a <;> cases b <;> simp at h ⊢
theorem colB_top (l : List AC) (k j : Nat) : colB l k k j = false := by
  cases h : colB l k k j with
  | false => rfl
  | true => obtain ⟨d, _, _, h1, h2, _⟩ := (colB_iff l k k j).1 h; omega
theorem colB_all (l : List AC) (k j : Nat) : colB l k 0 j = hbB l j k := bool_iff <| by
  rw [colB_iff, hbB_iff]
  constructor
  · rintro ⟨d, a, b, _, h1, h2, h3, h4, rfl | h5⟩
    · exact .dir h1 h2 h3 h4
    · exact .trans h5 h1 h2 h3 h4
  · intro h
    cases h with
    | dir h1 h2 h3 h4 => exact ⟨j, _, _, Nat.zero_le _, h1, h2, h3, h4, .inl rfl⟩
    | trans h0 h1 h2 h3 h4 => exact ⟨_, _, _, Nat.zero_le _, h1, h2, h3, h4, .inr h0⟩
theorem colB_no {l : List AC} {k m : Nat} {a b : AC} (ha : l[m]? = some a) (hb : l[k]? = some b) (hn : ¬ dirA a b) (j : Nat) : colB l k m j = colB l k (m + 1) j := bool_iff <| by
  rw [colB_iff, colB_iff]
  constructor
  · rintro ⟨d, a', b', h0, h1, h2, h3, h4, h5⟩
    refine ⟨d, a', b', ?_, h1, h2, h3, h4, h5⟩
    by_cases e : d = m
    · subst e; rw [ha] at h2; rw [hb] at h3; cases h2; cases h3; exact absurd h4 hn
    · omega
  · rintro ⟨d, a', b', h0, h1⟩
    exact ⟨d, a', b', by omega, h1⟩
theorem colB_yes {l : List AC} {k m : Nat} {a b : AC} (hm : m < k) (ha : l[m]? = some a) (hb : l[k]? = some b) (hd : dirA a b) (j : Nat) : colB l k m j = (colB l k (m + 1) j || decide (j = m) || (decide (j < m) && hbB l j m)) := bool_iff <| by
  rw [Bool.or_eq_true, Bool.or_eq_true, Bool.and_eq_true, colB_iff, colB_iff, hbB_iff, decide_eq_true_iff, decide_eq_true_iff]
  constructor
  · rintro ⟨d, a', b', h0, h1, h2, h3, h4, h5⟩
    by_cases e : d = m
    · subst e
      rcases h5 with h5 | h5
      · exact .inl (.inr h5)
      · exact .inr ⟨h5.lt.1, h5⟩
    · exact .inl (.inl ⟨d, a', b', by omega, h1, h2, h3, h4, h5⟩)
  · rintro ((⟨d, a', b', h0, h1⟩ | rfl) | ⟨_, h⟩)
    · exact ⟨d, a', b', by omega, h1⟩
    · exact ⟨j, a, b, Nat.le_refl _, hm, ha, hb, hd, .inl rfl⟩
    · exact ⟨m, a, b, Nat.le_refl _, hm, ha, hb, hd, .inr h⟩
/-! ### Rows of bools -/
abbrev MB := Nat → Nat → Bool
def rwM (n : Nat) (M : MB) (j : Nat) (p : Nat × Nat) : RW := ⟨p.1, p.2, (List.range n).map fun q => [.v (.bool (M j q))]⟩
def rowsM (n : Nat) (M : MB) (bc : List (Nat × Nat)) : List RW := bc.mapIdx fun j p => rwM n M j p
def nmD (n : Nat) (p : Nat × Nat) : List D := [.v (.slice (some ⟨p.1, 0, none⟩) n p.2)]
def namesM (n : Nat) (bc : List (Nat × Nat)) : List (List D) := bc.map (nmD n)
def upM (M : MB) (j q : Nat) : MB := fun a b => if a = j ∧ b = q then true else M a b
theorem rowsM_get (n : Nat) (M : MB) (bc : List (Nat × Nat)) (j : Nat) : (rowsM n M bc)[j]? = (bc[j]?).map (rwM n M j) := by unfold rowsM; rw [List.getElem?_mapIdx]
theorem rw_get {n : Nat} {M : MB} {j q : Nat} {p : Nat × Nat} (h : q < n) : (rwM n M j p).xs[q]? = some [.v (.bool (M j q))] := by simp [rwM, h]
theorem rw_len (n : Nat) (M : MB) (j : Nat) (p : Nat × Nat) : (rwM n M j p).xs.length = n := by simp [rwM]
theorem rowsM_set {n : Nat} {M : MB} {bc : List (Nat × Nat)} {j q : Nat} {p : Nat × Nat} (h : bc[j]? = some p) (hq : q < n) : (rowsM n M bc).set j ⟨(rwM n M j p).b, (rwM n M j p).c, (rwM n M j p).xs.set q [.v (.bool true)]⟩ = rowsM n (upM M j q) bc := by
  apply List.ext_getElem?
  intro i
  rw [List.getElem?_set, rowsM_get, rowsM_get]
  by_cases e : j = i
  · subst e
    have hl : j < (rowsM n M bc).length := by unfold rowsM; rw [List.length_mapIdx]; exact (List.getElem?_eq_some_iff.1 h).1
    rw [if_pos rfl, if_pos hl, h]
    simp only [Option.map_some, rwM, Option.some.injEq, RW.mk.injEq, true_and]
    apply List.ext_getElem?
    intro x
    rw [List.getElem?_set]
    by_cases ex : q = x
    · subst ex
      simp [hq, upM]
    · rw [if_neg ex]
      simp only [List.getElem?_map]
      by_cases hx : x < n
      · simp [hx, upM, show ¬ x = q from fun e => ex e.symm]
      · simp [hx]
  · rw [if_neg e]
    cases bc[i]? with
    | none => rfl
    | some p2 =>
      simp only [Option.map_some, rwM, Option.some.injEq, RW.mk.injEq, true_and]
      apply List.map_congr_left
      intro x _
      simp [upM, show ¬ i = j from fun e2 => e e2.symm]
theorem rowsM_congr {n : Nat} {M M' : MB} {bc : List (Nat × Nat)} (h : ∀ j q, j < bc.length → q < n → M j q = M' j q) : rowsM n M bc = rowsM n M' bc := by
  apply List.ext_getElem?
  intro i
  rw [rowsM_get, rowsM_get]
  cases hb : bc[i]? with
  | none => rfl
  | some p2 =>
    simp only [Option.map_some, rwM, Option.some.injEq, RW.mk.injEq, true_and]
    apply List.map_congr_left
    intro x hx
    rw [h i x (List.getElem?_eq_some_iff.1 hb).1 (List.mem_range.1 hx)]
theorem rowsM_snoc (n : Nat) (bc : List (Nat × Nat)) (b c : Nat) : rowsM n (fun _ _ => false) bc ++ [⟨b, c, List.replicate n [.v (.bool false)]⟩] = rowsM n (fun _ _ => false) (bc ++ [(b, c)]) := by
  unfold rowsM
  rw [List.mapIdx_append]
  congr 1
  simp only [List.mapIdx_cons, List.mapIdx_nil, rwM, List.cons.injEq, RW.mk.injEq, true_and, and_true]
  apply List.ext_getElem?
  intro i
  simp only [List.getElem?_replicate, List.getElem?_map]
  by_cases h : i < n
  · simp [h]
  · simp [h]
theorem names_rows (n : Nat) (M : MB) (bc : List (Nat × Nat)) : namesM n bc = (rowsM n M bc).map fun r => [D.v r.sl] := by
  apply List.ext_getElem?
  intro i
  unfold namesM
  rw [List.getElem?_map, List.getElem?_map, rowsM_get]
  cases bc[i]? with
  | none => rfl
  | some p => simp [nmD, rwM]
noncomputable abbrev ordX (l : List AC) : List (List D) := (List.range l.length).map fun i => [.sl 1 ((List.range l.length).map fun k => [.v (.bool (hbB l i k))])]
theorem rows_ord {l : List AC} {bc : List (Nat × Nat)} (h : bc.length = l.length) : (rowsM l.length (hbB l) bc).map (fun r => [D.sl 1 r.xs]) = ordX l := by
  apply List.ext_getElem?
  intro i
  rw [List.getElem?_map, rowsM_get, List.getElem?_map]
  by_cases hi : i < l.length
  · rw [List.getElem?_eq_getElem (by omega : i < bc.length), List.getElem?_range hi]
    rfl
  · rw [List.getElem?_eq_none (by omega : bc.length ≤ i), List.getElem?_eq_none (by rw [List.length_range]; omega)]
    rfl
end Go.Proofs.E
end
section
open Go Go.Gv
attribute [local irreducible] Go.Gv.WJ Go.Gv.OpJ Go.Gv.QJ Go.Gv.Spl Go.Gv.Req Go.Gv.IdxP Go.Gv.RegP Go.Gv.FinP Go.Gv.CellP Go.Gv.CellsP Go.Gv.ArrP Go.Gv.ArrsP Go.Gv.DropP Go.Gv.ByteP Go.Gv.StoreP
set_option maxRecDepth 100000
namespace Go.Proofs.E
theorem rowsM_row {n : Nat} {M : MB} {bc : List (Nat × Nat)} {j : Nat} {p : Nat × Nat} (h : bc[j]? = some p) : (rowsM n M bc)[j]? = some (rwM n M j p) := by rw [rowsM_get, h]; rfl
theorem rowsM_set' {n : Nat} {M : MB} {bc : List (Nat × Nat)} {j q : Nat} {p : Nat × Nat} (h : bc[j]? = some p) (hq : q < n) : (rowsM n M bc).set j ⟨(rwM n M j p).b, (rwM n M j p).c, (rwM n M j p).xs.set ((q : Int).toNat * 1) [.v (.bool true)]⟩ = rowsM n (upM M j q) bc := by
  rw [Int.toNat_natCast, Nat.mul_one]; exact rowsM_set h hq
noncomputable def M2 (l : List AC) (k : Nat) : MB := fun j q => if q < k then hbB l j q else false
noncomputable def M3 (l : List AC) (k m : Nat) : MB := fun j q => if q < k then hbB l j q else if q = k then colB l k m j else false
noncomputable def M4 (l : List AC) (k m x : Nat) : MB := fun j q => if q < k then hbB l j q else if q = k then (colB l k (m + 1) j || decide (j = m) || (decide (j < x) && hbB l j m)) else false
theorem M3_top (l : List AC) (k j q : Nat) : M2 l k j q = M3 l k k j q := by
  unfold M2 M3
  rw [colB_top]
  split
  · rfl
  · split <;> rfl
theorem M3_all (l : List AC) (k j q : Nat) : M3 l k 0 j q = M2 l (k + 1) j q := by
  unfold M2 M3
  rw [colB_all]
  by_cases h : q < k
  · rw [if_pos h, if_pos (by omega)]
  · rw [if_neg h]
    by_cases e : q = k
    · subst e; rw [if_pos rfl, if_pos (by omega)]
    · rw [if_neg e, if_neg (by omega)]
theorem M3_no {l : List AC} {k m : Nat} {a b : AC} (ha : l[m]? = some a) (hb : l[k]? = some b) (hd : ¬ dirA a b) (j q : Nat) : M3 l k (m + 1) j q = M3 l k m j q := by
  unfold M3
  rw [colB_no ha hb hd]
theorem M4_zero (l : List AC) (k m j q : Nat) : upM (M3 l k (m + 1)) m k j q = M4 l k m 0 j q := by
  unfold upM M3 M4
  by_cases h1 : q < k
  · rw [if_neg (by omega), if_pos h1, if_pos h1]
  · by_cases h2 : q = k
    · subst h2
      rw [if_neg h1, if_neg h1, if_pos rfl, if_pos rfl]
      by_cases h3 : j = m
      · subst h3; simp
      · rw [if_neg fun e => h3 e.1, decide_eq_false h3]; simp
    · rw [if_neg fun e => h2 e.2, if_neg h1, if_neg h1, if_neg h2, if_neg h2]
theorem M4_yes (l : List AC) {k m x : Nat} (hmk : m < k) (hx : x < m) (h : hbB l x m = true) (j q : Nat) : upM (M4 l k m x) x k j q = M4 l k m (x + 1) j q := by
  unfold upM M4
  by_cases h1 : q < k
  · rw [if_neg (by omega), if_pos h1, if_pos h1]
  · by_cases h2 : q = k
    · subst h2
      rw [if_neg h1, if_neg h1, if_pos rfl, if_pos rfl]
      by_cases h3 : j = x
      · subst h3; simp [h]
      · rw [if_neg fun e => h3 e.1]
        have : decide (j < x) = decide (j < x + 1) := decide_eq_decide.2 (by omega)
        rw [this]
    · rw [if_neg fun e => h2 e.2, if_neg h1, if_neg h1, if_neg h2, if_neg h2]
theorem M4_no (l : List AC) {k m x : Nat} (hmk : m < k) (hx : x < m) (h : hbB l x m = false) (j q : Nat) : M4 l k m x j q = M4 l k m (x + 1) j q := by
  unfold M4
  by_cases h3 : j = x
  · subst h3; simp [h]
  · have : decide (j < x) = decide (j < x + 1) := decide_eq_decide.2 (by omega)
    rw [this]
theorem M4_all {l : List AC} {k m : Nat} {a b : AC} (hmk : m < k) (ha : l[m]? = some a) (hb : l[k]? = some b) (hd : dirA a b) (j q : Nat) : M4 l k m m j q = M3 l k m j q := by
  unfold M3 M4
  rw [colB_yes hmk ha hb hd]
theorem nm_get {n : Nat} {bc : List (Nat × Nat)} {j : Nat} {p : Nat × Nat} (h : bc[j]? = some p) : (namesM n bc)[j]? = some (nmD n p) := by unfold namesM; rw [List.getElem?_map, h]; rfl
theorem nm_cell {n i : Nat} {bc : List (Nat × Nat)} (h : bc.length = i) (hi : i < n) : (namesM n bc ++ List.replicate (n - i) [D.v (.slice none 0 0)])[i]? = some [D.v (.slice none 0 0)] := by
  unfold namesM
  rw [List.getElem?_append_right (by rw [List.length_map]; omega), List.length_map, h, Nat.sub_self, List.getElem?_replicate, if_pos (by omega)]
theorem nm_set {n i : Nat} {bc : List (Nat × Nat)} {b c m : Nat} (h : bc.length = i) (hi : i < n) (hm : m = n) : (namesM n bc ++ List.replicate (n - i) [D.v (.slice none 0 0)]).set i (setL [D.v (.slice none 0 0)] 0 [D.v (.slice (some ⟨b, 0, none⟩) m c)]) = namesM n (bc ++ [(b, c)]) ++ List.replicate (n - (i + 1)) [D.v (.slice none 0 0)] := by
  subst hm
  have e : m - i = m - (i + 1) + 1 := by omega
  unfold namesM
  rw [e, List.replicate_succ, List.set_append_right _ _ (by rw [List.length_map]; omega), List.length_map, h, Nat.sub_self, List.set_cons_zero, List.map_append, List.append_assoc]
  rfl
set_option maxHeartbeats 4000000 in
theorem Order_c (l : List AC) (hl : l.length ≤ 1000) : Cv 12 [.d (.sl 3 (l.map acD))] (.d (.sl 1 (ordX l))) := by
  have hla := len_acD l
  refine Ct.of_wv Try.f12 Try.func12 rfl rfl fun w H B g0 => ?_
  (try refine WJ.cut ?_)
  (first | refine Sq.go ?_ | refine vL_nil (Sq.go ?_) | skip)
  (try refine WJ.cut ?_)
  (first | refine Sq.go ?_ | refine vL_nil (Sq.go ?_) | skip)
  (try refine WJ.cut ?_)
  refine O.makeSl (n := l.length) rfl rfl rfl rfl (Nat.le_of_ble_eq_true rfl) rfl (some_iv hla) (some_iv hla) (by omega) rfl rfl ?_
  (first | refine Sq.go ?_ | refine vL_nil (Sq.go ?_) | skip)
  (try refine WJ.cut ?_)
  (first | refine Sq.go ?_ | refine vL_nil (Sq.go ?_) | skip)
  (try refine WJ.cut ?_)
  refine WJ.shift (SJ.newRows 900 1 rfl) ?_
  refine WJ.loopK (V := Nat × List (Nat × Nat)) (fun v => [(5, iv v.1)]) (fun v => [(13, .arr 1 (namesM l.length v.2 ++ List.replicate (l.length - v.1) [.v (.slice none 0 0)])), (900, .res (rowsR Try.prog tab 1) (rowsM l.length (fun _ _ => false) v.2))]) [13, 900] (fun v => l.length - v.1) (fun v => v.1 ≤ l.length ∧ v.2.length = v.1) (0, []) ⟨Nat.zero_le _, rfl⟩ (by repeat' (first | exact trivial | exact rfl | refine And.intro ?_ ?_)) (by repeat' (first | exact trivial | exact rfl | refine And.intro ?_ ?_)) ?_
  rintro ⟨i, bc⟩ ⟨hi, hbc⟩
  simp only at hi hbc
  refine Spl.of (fun h1 => ?_) (fun h1 => ?_)
  · have hlt : i < l.length := by have := of_decide_eq_true h1; simp at this; omega
    (repeat (first | refine Spl.t rfl ?_ | refine Spl.f rfl ?_))
    refine O.makeSl (n := l.length) rfl rfl rfl rfl (Nat.le_of_ble_eq_true rfl) rfl (some_iv hla) (some_iv hla) (by omega) rfl rfl ?_
    (repeat (first | refine Spl.t rfl ?_ | refine Spl.f rfl ?_))
    refine Req.of ?_ ?_
    · exact ⟨by omega, by omega⟩
    refine OpJ.rowIn 900 22 22 rfl rfl rfl (by rw [List.length_replicate]) (by omega) rfl rfl fun b c => ?_
    refine eff_sound ?_
    refine StoreP.of i 0 [.v (.slice none 0 0)] (by show (i : Int).toNat * 1 = _; omega) (nm_cell hbc hlt) (Nat.le_refl 1) rfl ?_
    (repeat (first | refine Spl.t rfl ?_ | refine Spl.f rfl ?_))
    refine ⟨(i + 1, bc ++ [(b, c)]), ⟨by simp only; omega, by simp [hbc]⟩, by simp only; omega, ⟨some_iv (wrap_id _ (by omega) (by omega)), trivial⟩, (by repeat' (first | exact trivial | exact rfl | refine And.intro ?_ ?_)), ⟨?_, ?_, trivial⟩, (by repeat' (first | exact trivial | exact rfl | refine And.intro ?_ ?_))⟩
    · exact congrArg (fun x => some (Ent.arr 1 x)) (nm_set hbc hlt (by rw [List.length_replicate]))
    · exact congrArg (fun s => some (Ent.res (rowsR Try.prog tab 1) s)) (rowsM_snoc l.length bc b c)
  · have h1 := of_decide_eq_false h1
    simp at h1
    have hin : i = l.length := by omega
    have hbn : bc.length = l.length := by omega
    rw [hin, Nat.sub_self]
    (repeat (first | refine Spl.t rfl ?_ | refine Spl.f rfl ?_))
    (first | refine Sq.go ?_ | refine vL_nil (Sq.go ?_) | skip)
    (try refine WJ.cut ?_)
    (first | refine Sq.go ?_ | refine vL_nil (Sq.go ?_) | skip)
    (try refine WJ.cut ?_)
    refine WJ.loopK (V := Nat) (fun k => [(6, iv k)]) (fun k => [(13, .arr 1 (namesM l.length bc)), (900, .res (rowsR Try.prog tab 1) (rowsM l.length (M2 l k) bc))]) [13, 900] (fun k => l.length - k) (fun k => k ≤ l.length) 0 (Nat.zero_le _) (by repeat' (first | exact trivial | exact rfl | refine And.intro ?_ ?_)) ⟨?_, ?_, trivial⟩ ?_
    · exact congrArg (fun x => some (Ent.arr 1 x)) (List.append_nil _)
    · exact congrArg (fun s => some (Ent.res (rowsR Try.prog tab 1) s)) (rowsM_congr fun j q _ _ => (by unfold M2; rw [if_neg (Nat.not_lt_zero q)]))
    intro k hk
    refine Spl.of (fun h2 => ?_) (fun h2 => ?_)
    · have hlt : k < l.length := by have := of_decide_eq_true h2; simp at this; omega
      have hxk := getA hlt
      have hxk2 := get_acD hlt
      generalize l.getD k AC0 = b at hxk hxk2
      (repeat (first | refine Spl.t rfl ?_ | refine Spl.f rfl ?_))
      refine WJ.loopK (V := Nat) (fun m => [(7, iv ((m : Int) - 1))]) (fun m => [(13, .arr 1 (namesM l.length bc)), (900, .res (rowsR Try.prog tab 1) (rowsM l.length (M3 l k m) bc))]) [13, 900] (fun m => m) (fun m => m ≤ k) k (Nat.le_refl _) ⟨some_iv (wrap_id _ (by omega) (by omega)), trivial⟩ ⟨rfl, ?_, trivial⟩ ?_
      · exact congrArg (fun s => some (Ent.res (rowsR Try.prog tab 1) s)) (rowsM_congr fun j q _ _ => M3_top l k j q)
      intro m' hm'
      refine Spl.of (fun h3 => ?_) (fun h3 => ?_)
      · have hm0 : 1 ≤ m' := by have := of_decide_eq_true h3; omega
        obtain ⟨m, rfl⟩ : ∃ m, m' = m + 1 := ⟨m' - 1, by omega⟩
        have em : ((m + 1 : Nat) : Int) - 1 = (m : Int) := by omega
        rw [em]
        have hmk : m < k := by omega
        have hmn : m < l.length := by omega
        have hxm := getA hmn
        have hxm2 := get_acD hmn
        generalize l.getD m AC0 = a at hxm hxm2
        obtain ⟨pm, hpm⟩ : ∃ p, bc[m]? = some p := ⟨_, List.getElem?_eq_getElem (by omega)⟩
        (repeat (first | refine Spl.t rfl ?_ | refine Spl.f rfl ?_))
        refine RegP.of rfl (by decide +kernel) ?_
        refine IdxP.of (acD a) (by omega) (by rw [Int.toNat_natCast]; exact hxm2) ?_
        refine IdxP.of (acD b) (by omega) (by rw [Int.toNat_natCast]; exact hxk2) ?_
        refine Spl.of (fun e1 => ?_) (fun e1 => ?_)
        · have hdir : dirA a b := .inl (of_decide_eq_true e1)
          (repeat (first | refine Spl.t rfl ?_ | refine Spl.f rfl ?_))
          refine Req.of ?_ ?_
          · exact ⟨by omega, by omega⟩
          refine ArrP.of m 0 (nmD l.length pm) (.v (.slice (some ⟨pm.1, 0, none⟩) l.length pm.2)) (by show (m : Int).toNat * 1 = _; omega) (nm_get hpm) rfl ?_
          refine OpJ.qu (O.idxV (b := pm.1) (n := l.length) (c := pm.2) rfl rfl rfl rfl (by omega) (by omega)) rfl ?_
          refine O.storeV (i := 900) (j := m) (r := rwM l.length (M3 l k (m + 1)) m pm) (v := .bool true) rfl rfl rfl (rowsM_row hpm) rfl (by rw [rw_len]; show (k : Int).toNat * 1 < _; omega) rfl rfl ?_
          (repeat (first | refine Spl.t rfl ?_ | refine Spl.f rfl ?_))
          refine WJ.loopK (V := Nat) (fun x => [(9, iv x)]) (fun x => [(900, .res (rowsR Try.prog tab 1) (rowsM l.length (M4 l k m x) bc))]) [900] (fun x => m - x) (fun x => x ≤ m) 0 (Nat.zero_le _) (by repeat' (first | exact trivial | exact rfl | refine And.intro ?_ ?_)) ⟨?_, trivial⟩ ?_
          · exact congrArg (fun s => some (Ent.res (rowsR Try.prog tab 1) s)) ((rowsM_set' hpm hlt).trans (rowsM_congr fun j q _ _ => M4_zero l k m j q))
          intro x hx
          refine Spl.of (fun g1 => ?_) (fun g1 => ?_)
          · have g1 : x < m := by have := of_decide_eq_true g1; omega
            obtain ⟨px, hpx⟩ : ∃ p, bc[x]? = some p := ⟨_, List.getElem?_eq_getElem (by omega)⟩
            (repeat (first | refine Spl.t rfl ?_ | refine Spl.f rfl ?_))
            refine Req.of ?_ ?_
            · exact ⟨by omega, by omega⟩
            refine ArrP.of x 0 (nmD l.length px) (.v (.slice (some ⟨px.1, 0, none⟩) l.length px.2)) (by show (x : Int).toNat * 1 = _; omega) (nm_get hpx) rfl ?_
            refine OpJ.qu (O.idxV (b := px.1) (n := l.length) (c := px.2) rfl rfl rfl rfl (by omega) (by omega)) rfl ?_
            refine OpJ.qu (O.loadV (i := 900) (r := rwM l.length (M4 l k m x) x px) (v := .v (.bool (M4 l k m x x m))) rfl rfl (List.mem_of_getElem? (rowsM_row hpx)) rfl (by show (rwM _ _ _ _).xs[(m : Int).toNat * 1]? = _; rw [Int.toNat_natCast, Nat.mul_one]; exact rw_get (by omega)) rfl) rfl ?_
            have hM : M4 l k m x x m = hbB l x m := by unfold M4; rw [if_pos hmk]
            rw [hM]
            refine Spl.of (fun g2 => ?_) (fun g2 => ?_)
            · (repeat (first | refine Spl.t rfl ?_ | refine Spl.f rfl ?_))
              refine Req.of ?_ ?_
              · exact ⟨by omega, by omega⟩
              refine ArrP.of x 0 (nmD l.length px) (.v (.slice (some ⟨px.1, 0, none⟩) l.length px.2)) (by show (x : Int).toNat * 1 = _; omega) (nm_get hpx) rfl ?_
              refine OpJ.qu (O.idxV (b := px.1) (n := l.length) (c := px.2) rfl rfl rfl rfl (by omega) (by omega)) rfl ?_
              refine O.storeV (i := 900) (j := x) (r := rwM l.length (M4 l k m x) x px) (v := .bool true) rfl rfl rfl (rowsM_row hpx) rfl (by rw [rw_len]; show (k : Int).toNat * 1 < _; omega) rfl rfl ?_
              (repeat (first | refine Spl.t rfl ?_ | refine Spl.f rfl ?_))
              exact ⟨x + 1, by omega, by omega, ⟨some_iv (wrap_id _ (by omega) (by omega)), trivial⟩, (by repeat' (first | exact trivial | exact rfl | refine And.intro ?_ ?_)), ⟨congrArg (fun s => some (Ent.res (rowsR Try.prog tab 1) s)) ((rowsM_set' hpx hlt).trans (rowsM_congr fun j q _ _ => M4_yes l hmk g1 g2 j q)), trivial⟩, (by repeat' (first | exact trivial | exact rfl | refine And.intro ?_ ?_))⟩
            · (repeat (first | refine Spl.t rfl ?_ | refine Spl.f rfl ?_))
              exact ⟨x + 1, by omega, by omega, ⟨some_iv (wrap_id _ (by omega) (by omega)), trivial⟩, (by repeat' (first | exact trivial | exact rfl | refine And.intro ?_ ?_)), ⟨congrArg (fun s => some (Ent.res (rowsR Try.prog tab 1) s)) (rowsM_congr fun j q _ _ => M4_no l hmk g1 g2 j q), trivial⟩, (by repeat' (first | exact trivial | exact rfl | refine And.intro ?_ ?_))⟩
          · have g1 := of_decide_eq_false g1
            obtain rfl : x = m := by omega
            (repeat (first | refine Spl.t rfl ?_ | refine Spl.f rfl ?_))
            exact ⟨x, by omega, by omega, ⟨some_iv (wrap_id _ (by omega) (by omega)), trivial⟩, (by repeat' (first | exact trivial | exact rfl | refine And.intro ?_ ?_)), ⟨rfl, congrArg (fun s => some (Ent.res (rowsR Try.prog tab 1) s)) (rowsM_congr fun j q _ _ => M4_all hmk hxm hxk hdir j q), trivial⟩, (by repeat' (first | exact trivial | exact rfl | refine And.intro ?_ ?_))⟩
        · have e1 := of_decide_eq_false e1
          (repeat (first | refine Spl.t rfl ?_ | refine Spl.f rfl ?_))
          refine IdxP.of (acD a) (by omega) (by rw [Int.toNat_natCast]; exact hxm2) ?_
          (repeat (first | refine Spl.t rfl ?_ | refine Spl.f rfl ?_))
          refine Spl.of (fun e2 => ?_) (fun e2 => ?_)
          · have e2 := of_decide_eq_true e2
            (repeat (first | refine Spl.t rfl ?_ | refine Spl.f rfl ?_))
            refine IdxP.of (acD b) (by omega) (by rw [Int.toNat_natCast]; exact hxk2) ?_
            (repeat (first | refine Spl.t rfl ?_ | refine Spl.f rfl ?_))
            refine Spl.of (fun e3 => ?_) (fun e3 => ?_)
            · have e3 := of_decide_eq_true e3
              (repeat (first | refine Spl.t rfl ?_ | refine Spl.f rfl ?_))
              refine IdxP.of (acD a) (by omega) (by rw [Int.toNat_natCast]; exact hxm2) ?_
              (repeat (first | refine Spl.t rfl ?_ | refine Spl.f rfl ?_))
              refine IdxP.of (acD b) (by omega) (by rw [Int.toNat_natCast]; exact hxk2) ?_
              (repeat (first | refine Spl.t rfl ?_ | refine Spl.f rfl ?_))
              refine Spl.of (fun e4 => ?_) (fun e4 => ?_)
              · have e4 : ¬ a.loc = b.loc := by simpa using e4
                have hdir : ¬ dirA a b := fun h => h.elim e1 fun h => e4 h.2.2
                (repeat (first | refine Spl.t rfl ?_ | refine Spl.f rfl ?_))
                exact ⟨m, by omega, by omega, ⟨some_iv (wrap_id _ (by omega) (by omega)), trivial⟩, (by repeat' (first | exact trivial | exact rfl | refine And.intro ?_ ?_)), ⟨rfl, congrArg (fun s => some (Ent.res (rowsR Try.prog tab 1) s)) (rowsM_congr fun j q _ _ => M3_no hxm hxk hdir j q), trivial⟩, (by repeat' (first | exact trivial | exact rfl | refine And.intro ?_ ?_))⟩
              · have e4 : a.loc = b.loc := by simpa using e4
                have hdir : dirA a b := .inr ⟨e2, e3, e4⟩
                (repeat (first | refine Spl.t rfl ?_ | refine Spl.f rfl ?_))
                refine Req.of ?_ ?_
                · exact ⟨by omega, by omega⟩
                refine ArrP.of m 0 (nmD l.length pm) (.v (.slice (some ⟨pm.1, 0, none⟩) l.length pm.2)) (by show (m : Int).toNat * 1 = _; omega) (nm_get hpm) rfl ?_
                refine OpJ.qu (O.idxV (b := pm.1) (n := l.length) (c := pm.2) rfl rfl rfl rfl (by omega) (by omega)) rfl ?_
                refine O.storeV (i := 900) (j := m) (r := rwM l.length (M3 l k (m + 1)) m pm) (v := .bool true) rfl rfl rfl (rowsM_row hpm) rfl (by rw [rw_len]; show (k : Int).toNat * 1 < _; omega) rfl rfl ?_
                (repeat (first | refine Spl.t rfl ?_ | refine Spl.f rfl ?_))
                refine WJ.loopK (V := Nat) (fun x => [(9, iv x)]) (fun x => [(900, .res (rowsR Try.prog tab 1) (rowsM l.length (M4 l k m x) bc))]) [900] (fun x => m - x) (fun x => x ≤ m) 0 (Nat.zero_le _) (by repeat' (first | exact trivial | exact rfl | refine And.intro ?_ ?_)) ⟨?_, trivial⟩ ?_
                · exact congrArg (fun s => some (Ent.res (rowsR Try.prog tab 1) s)) ((rowsM_set' hpm hlt).trans (rowsM_congr fun j q _ _ => M4_zero l k m j q))
                intro x hx
                refine Spl.of (fun g1 => ?_) (fun g1 => ?_)
                · have g1 : x < m := by have := of_decide_eq_true g1; omega
                  obtain ⟨px, hpx⟩ : ∃ p, bc[x]? = some p := ⟨_, List.getElem?_eq_getElem (by omega)⟩
                  (repeat (first | refine Spl.t rfl ?_ | refine Spl.f rfl ?_))
                  refine Req.of ?_ ?_
                  · exact ⟨by omega, by omega⟩
                  refine ArrP.of x 0 (nmD l.length px) (.v (.slice (some ⟨px.1, 0, none⟩) l.length px.2)) (by show (x : Int).toNat * 1 = _; omega) (nm_get hpx) rfl ?_
                  refine OpJ.qu (O.idxV (b := px.1) (n := l.length) (c := px.2) rfl rfl rfl rfl (by omega) (by omega)) rfl ?_
                  refine OpJ.qu (O.loadV (i := 900) (r := rwM l.length (M4 l k m x) x px) (v := .v (.bool (M4 l k m x x m))) rfl rfl (List.mem_of_getElem? (rowsM_row hpx)) rfl (by show (rwM _ _ _ _).xs[(m : Int).toNat * 1]? = _; rw [Int.toNat_natCast, Nat.mul_one]; exact rw_get (by omega)) rfl) rfl ?_
                  have hM : M4 l k m x x m = hbB l x m := by unfold M4; rw [if_pos hmk]
                  rw [hM]
                  refine Spl.of (fun g2 => ?_) (fun g2 => ?_)
                  · (repeat (first | refine Spl.t rfl ?_ | refine Spl.f rfl ?_))
                    refine Req.of ?_ ?_
                    · exact ⟨by omega, by omega⟩
                    refine ArrP.of x 0 (nmD l.length px) (.v (.slice (some ⟨px.1, 0, none⟩) l.length px.2)) (by show (x : Int).toNat * 1 = _; omega) (nm_get hpx) rfl ?_
                    refine OpJ.qu (O.idxV (b := px.1) (n := l.length) (c := px.2) rfl rfl rfl rfl (by omega) (by omega)) rfl ?_
                    refine O.storeV (i := 900) (j := x) (r := rwM l.length (M4 l k m x) x px) (v := .bool true) rfl rfl rfl (rowsM_row hpx) rfl (by rw [rw_len]; show (k : Int).toNat * 1 < _; omega) rfl rfl ?_
                    (repeat (first | refine Spl.t rfl ?_ | refine Spl.f rfl ?_))
                    exact ⟨x + 1, by omega, by omega, ⟨some_iv (wrap_id _ (by omega) (by omega)), trivial⟩, (by repeat' (first | exact trivial | exact rfl | refine And.intro ?_ ?_)), ⟨congrArg (fun s => some (Ent.res (rowsR Try.prog tab 1) s)) ((rowsM_set' hpx hlt).trans (rowsM_congr fun j q _ _ => M4_yes l hmk g1 g2 j q)), trivial⟩, (by repeat' (first | exact trivial | exact rfl | refine And.intro ?_ ?_))⟩
                  · (repeat (first | refine Spl.t rfl ?_ | refine Spl.f rfl ?_))
                    exact ⟨x + 1, by omega, by omega, ⟨some_iv (wrap_id _ (by omega) (by omega)), trivial⟩, (by repeat' (first | exact trivial | exact rfl | refine And.intro ?_ ?_)), ⟨congrArg (fun s => some (Ent.res (rowsR Try.prog tab 1) s)) (rowsM_congr fun j q _ _ => M4_no l hmk g1 g2 j q), trivial⟩, (by repeat' (first | exact trivial | exact rfl | refine And.intro ?_ ?_))⟩
                · have g1 := of_decide_eq_false g1
                  obtain rfl : x = m := by omega
                  (repeat (first | refine Spl.t rfl ?_ | refine Spl.f rfl ?_))
                  exact ⟨x, by omega, by omega, ⟨some_iv (wrap_id _ (by omega) (by omega)), trivial⟩, (by repeat' (first | exact trivial | exact rfl | refine And.intro ?_ ?_)), ⟨rfl, congrArg (fun s => some (Ent.res (rowsR Try.prog tab 1) s)) (rowsM_congr fun j q _ _ => M4_all hmk hxm hxk hdir j q), trivial⟩, (by repeat' (first | exact trivial | exact rfl | refine And.intro ?_ ?_))⟩
            · have e3 := of_decide_eq_false e3
              have hdir : ¬ dirA a b := fun h => h.elim e1 fun h => e3 h.2.1
              (repeat (first | refine Spl.t rfl ?_ | refine Spl.f rfl ?_))
              exact ⟨m, by omega, by omega, ⟨some_iv (wrap_id _ (by omega) (by omega)), trivial⟩, (by repeat' (first | exact trivial | exact rfl | refine And.intro ?_ ?_)), ⟨rfl, congrArg (fun s => some (Ent.res (rowsR Try.prog tab 1) s)) (rowsM_congr fun j q _ _ => M3_no hxm hxk hdir j q), trivial⟩, (by repeat' (first | exact trivial | exact rfl | refine And.intro ?_ ?_))⟩
          · have e2 := of_decide_eq_false e2
            have hdir : ¬ dirA a b := fun h => h.elim e1 fun h => e2 h.1
            (repeat (first | refine Spl.t rfl ?_ | refine Spl.f rfl ?_))
            exact ⟨m, by omega, by omega, ⟨some_iv (wrap_id _ (by omega) (by omega)), trivial⟩, (by repeat' (first | exact trivial | exact rfl | refine And.intro ?_ ?_)), ⟨rfl, congrArg (fun s => some (Ent.res (rowsR Try.prog tab 1) s)) (rowsM_congr fun j q _ _ => M3_no hxm hxk hdir j q), trivial⟩, (by repeat' (first | exact trivial | exact rfl | refine And.intro ?_ ?_))⟩
      · have h3 := of_decide_eq_false h3
        obtain rfl : m' = 0 := by omega
        (repeat (first | refine Spl.t rfl ?_ | refine Spl.f rfl ?_))
        exact ⟨k + 1, by omega, by omega, ⟨some_iv (wrap_id _ (by omega) (by omega)), trivial⟩, (by repeat' (first | exact trivial | exact rfl | refine And.intro ?_ ?_)), ⟨rfl, congrArg (fun s => some (Ent.res (rowsR Try.prog tab 1) s)) (rowsM_congr fun j q _ _ => M3_all l k j q), trivial⟩, (by repeat' (first | exact trivial | exact rfl | refine And.intro ?_ ?_))⟩
    · have h2 := of_decide_eq_false h2
      simp at h2
      obtain rfl : k = l.length := by omega
      (repeat (first | refine Spl.t rfl ?_ | refine Spl.f rfl ?_))
      (first | refine Sq.go ?_ | refine vL_nil (Sq.go ?_) | skip)
      refine WJ.shift (SJ.pubRows 900 13 rfl (congrArg (fun x => some (Ent.arr 1 x)) (names_rows l.length (M2 l l.length) bc)) fun r hr => ?_) ?_
      · obtain ⟨j, hj, rfl⟩ := List.getElem_of_mem hr
        obtain ⟨p, hp⟩ : ∃ p, bc[j]? = some p := ⟨_, List.getElem?_eq_getElem (by unfold rowsM at hj; rw [List.length_mapIdx] at hj; exact hj)⟩
        have h5 := rowsM_row (n := l.length) (M := M2 l l.length) hp
        rw [List.getElem?_eq_getElem hj] at h5
        rw [Option.some.inj h5, rw_len]; omega
      have hord : (rowsM l.length (M2 l l.length) bc).map (fun r => [D.sl 1 r.xs]) = ordX l := by
        rw [rowsM_congr (M' := hbB l) fun j q _ hq => by unfold M2; rw [if_pos hq]]
        exact rows_ord hbn
      rw [hord]
      (try refine vc_sound _ _ _ _ ?_)
      (repeat (first | refine Spl.t rfl ?_ | refine Spl.f rfl ?_))
      refine FinP.pubA 13 rfl ?_ ?_ ?_
      · show l.length ≤ (ordX l).length
        rw [List.length_map, List.length_range]; exact Nat.le_refl _
      · omega
      refine FinP.open rfl ?_
      show AV.d (.sl 1 ((ordX l).take l.length)) = _
      rw [List.take_of_length_le (by rw [List.length_map, List.length_range]; exact Nat.le_refl _)]
end Go.Proofs.E
end
section
open Go Go.Gv
attribute [local irreducible] Go.Gv.WJ Go.Gv.OpJ Go.Gv.QJ Go.Gv.Spl Go.Gv.Req Go.Gv.IdxP Go.Gv.RegP Go.Gv.FinP Go.Gv.CellP Go.Gv.CellsP Go.Gv.ArrP Go.Gv.ArrsP Go.Gv.DropP Go.Gv.ByteP Go.Gv.StoreP
set_option maxRecDepth 100000
namespace Go.Proofs.E
theorem ord_row {l : List AC} {i : Nat} (h : i < l.length) : (ordX l)[i]? = some [.sl 1 ((List.range l.length).map fun k => [.v (.bool (hbB l i k))])] := by
  rw [List.getElem?_map, List.getElem?_range h]; rfl
theorem ord_cell {l : List AC} {i k : Nat} (h : k < l.length) : ((List.range l.length).map fun k => [D.v (.bool (hbB l i k))])[k]? = some [D.v (.bool (hbB l i k))] := by
  rw [List.getElem?_map, List.getElem?_range h]; rfl
noncomputable def raceR (l : List AC) (i k : Nat) : Bool := decide ((l.getD i AC0).k < 2) && (decide ((l.getD k AC0).k < 2) && (decide ((l.getD i AC0).loc = (l.getD k AC0).loc) && ((wrA (l.getD i AC0) || wrA (l.getD k AC0)) && (!hbB l i k && !hbB l k i))))
theorem Race_c (l : List AC) (i k : Nat) (hi : i < l.length) (hk : k < l.length) : Cv 17 [.d (.sl 3 (l.map acD)), .d (.sl 1 (ordX l)), iv i, iv k] (bv (raceR l i k)) := by
  have hxi := get_acD hi
  have hxk := get_acD hk
  have hoi := ord_row hi
  have hok := ord_row hk
  have hci := ord_cell (l := l) (i := k) hi
  have hck := ord_cell (l := l) (i := i) hk
  unfold raceR
  generalize l.getD i AC0 = a at hxi ⊢
  generalize l.getD k AC0 = b at hxk ⊢
  generalize hb1 : hbB l i k = h1 at hck ⊢
  generalize hb2 : hbB l k i = h2 at hci ⊢
  refine Ct.of_vc Try.f17 Try.func17 rfl rfl fun w H B g0 => ?_
  refine RegP.of rfl (by decide +kernel) ?_
  refine IdxP.of (acD a) (by omega) (by rw [Int.toNat_natCast]; exact hxi) ?_
  refine Spl.of (fun g1 => ?_) (fun g1 => ?_)
  · (repeat (first | refine Spl.t rfl ?_ | refine Spl.f rfl ?_))
    refine IdxP.of (acD b) (by omega) (by rw [Int.toNat_natCast]; exact hxk) ?_
    (repeat (first | refine Spl.t rfl ?_ | refine Spl.f rfl ?_))
    refine Spl.of (fun g2 => ?_) (fun g2 => ?_)
    · (repeat (first | refine Spl.t rfl ?_ | refine Spl.f rfl ?_))
      refine IdxP.of (acD a) (by omega) (by rw [Int.toNat_natCast]; exact hxi) ?_
      (repeat (first | refine Spl.t rfl ?_ | refine Spl.f rfl ?_))
      refine IdxP.of (acD b) (by omega) (by rw [Int.toNat_natCast]; exact hxk) ?_
      (repeat (first | refine Spl.t rfl ?_ | refine Spl.f rfl ?_))
      refine Spl.of (fun g3 => ?_) (fun g3 => ?_)
      · (repeat (first | refine Spl.t rfl ?_ | refine Spl.f rfl ?_))
        refine IdxP.of (acD a) (by omega) (by rw [Int.toNat_natCast]; exact hxi) ?_
        (repeat (first | refine Spl.t rfl ?_ | refine Spl.f rfl ?_))
        refine Spl.of (fun g4 => ?_) (fun g4 => ?_)
        · have e4 : (wrA a || wrA b) = true := by rw [show wrA a = true from g4]; rfl
          (repeat (first | refine Spl.t rfl ?_ | refine Spl.f rfl ?_))
          refine IdxP.of [.sl 1 ((List.range l.length).map fun k => [.v (.bool (hbB l i k))])] (by omega) (by rw [Int.toNat_natCast]; exact hoi) ?_
          (repeat (first | refine Spl.t rfl ?_ | refine Spl.f rfl ?_))
          refine IdxP.of [.v (.bool h1)] (by omega) (by rw [Int.toNat_natCast]; exact hck) ?_
          (repeat (first | refine Spl.t rfl ?_ | refine Spl.f rfl ?_))
          refine Spl.of (fun g5 => ?_) (fun g5 => ?_)
          · (repeat (first | refine Spl.t rfl ?_ | refine Spl.f rfl ?_))
            refine IdxP.of [.sl 1 ((List.range l.length).map fun i => [.v (.bool (hbB l k i))])] (by omega) (by rw [Int.toNat_natCast]; exact hok) ?_
            (repeat (first | refine Spl.t rfl ?_ | refine Spl.f rfl ?_))
            refine IdxP.of [.v (.bool h2)] (by omega) (by rw [Int.toNat_natCast]; exact hci) ?_
            (repeat (first | refine Spl.t rfl ?_ | refine Spl.f rfl ?_))
            exact FinP.open rfl (congrArg bv (by rw [g1, g2, g3, e4, g5]; rfl))
          · (repeat (first | refine Spl.t rfl ?_ | refine Spl.f rfl ?_))
            exact FinP.open rfl (congrArg bv (by rw [g1, g2, g3, e4, g5]; rfl))
        · (repeat (first | refine Spl.t rfl ?_ | refine Spl.f rfl ?_))
          refine IdxP.of (acD b) (by omega) (by rw [Int.toNat_natCast]; exact hxk) ?_
          (repeat (first | refine Spl.t rfl ?_ | refine Spl.f rfl ?_))
          refine Spl.of (fun g4b => ?_) (fun g4b => ?_)
          · have e4 : (wrA a || wrA b) = true := by rw [show wrA b = true from g4b]; simp
            (repeat (first | refine Spl.t rfl ?_ | refine Spl.f rfl ?_))
            refine IdxP.of [.sl 1 ((List.range l.length).map fun k => [.v (.bool (hbB l i k))])] (by omega) (by rw [Int.toNat_natCast]; exact hoi) ?_
            (repeat (first | refine Spl.t rfl ?_ | refine Spl.f rfl ?_))
            refine IdxP.of [.v (.bool h1)] (by omega) (by rw [Int.toNat_natCast]; exact hck) ?_
            (repeat (first | refine Spl.t rfl ?_ | refine Spl.f rfl ?_))
            refine Spl.of (fun g5 => ?_) (fun g5 => ?_)
            · (repeat (first | refine Spl.t rfl ?_ | refine Spl.f rfl ?_))
              refine IdxP.of [.sl 1 ((List.range l.length).map fun i => [.v (.bool (hbB l k i))])] (by omega) (by rw [Int.toNat_natCast]; exact hok) ?_
              (repeat (first | refine Spl.t rfl ?_ | refine Spl.f rfl ?_))
              refine IdxP.of [.v (.bool h2)] (by omega) (by rw [Int.toNat_natCast]; exact hci) ?_
              (repeat (first | refine Spl.t rfl ?_ | refine Spl.f rfl ?_))
              exact FinP.open rfl (congrArg bv (by rw [g1, g2, g3, e4, g5]; rfl))
            · (repeat (first | refine Spl.t rfl ?_ | refine Spl.f rfl ?_))
              exact FinP.open rfl (congrArg bv (by rw [g1, g2, g3, e4, g5]; rfl))
          · have e4 : (wrA a || wrA b) = false := by rw [show wrA a = false from g4, show wrA b = false from g4b]; rfl
            (repeat (first | refine Spl.t rfl ?_ | refine Spl.f rfl ?_))
            exact FinP.open rfl (congrArg bv (by rw [g1, g2, g3, e4]; rfl))
      · (repeat (first | refine Spl.t rfl ?_ | refine Spl.f rfl ?_))
        exact FinP.open rfl (congrArg bv (by rw [g1, g2, g3]; rfl))
    · (repeat (first | refine Spl.t rfl ?_ | refine Spl.f rfl ?_))
      exact FinP.open rfl (congrArg bv (by rw [g1, g2]; rfl))
  · (repeat (first | refine Spl.t rfl ?_ | refine Spl.f rfl ?_))
    exact FinP.open rfl (congrArg bv (by rw [g1]; rfl))
/-- Of acts that may be, it is the program's race. -/
theorem raceR_eq {l : List AC} (hl : l.length ≤ 1000) (hm : ∀ a, a ∈ l → mayA a = true) {i k : Nat} (hik : i < k) (hk : k < l.length) : raceR l i k = raceB l i k := by
  have hi : i < l.length := by omega
  have m1 := (mayA_iff _).1 (hm _ (List.mem_of_getElem? (getA hi)))
  have m2 := (mayA_iff _).1 (hm _ (List.mem_of_getElem? (getA hk)))
  have ha : ∀ a : AC, 0 ≤ a.k → decide (a.k < 2) = accA a := fun a h => bool_iff (by
    unfold accA
    rw [Bool.or_eq_true, decide_eq_true_iff, decide_eq_true_iff, decide_eq_true_iff]; omega)
  have h1 : aheadB l i k = hbB l i k := bool_iff (by rw [aheadB_iff hl hm hi hk, hbB_iff])
  have h2 : hbB l k i = false := by
    cases e : hbB l k i with
    | false => rfl
    | true => have := ((hbB_iff l k i).1 e).lt; omega
  unfold raceR raceB clashA
  rw [ha _ m1.2.2.1, ha _ m2.2.2.1, h1, h2]
  cases accA (l.getD i AC0) <;> cases accA (l.getD k AC0) <;> cases decide ((l.getD i AC0).loc = (l.getD k AC0).loc) <;> simp
theorem RFirst_c (l : List AC) (hl : l.length ≤ 1000) : Cv 11 [.d (.sl 3 (l.map acD))] (firstV l) := by
  have hmay := RMay_c l (by omega)
  have hord := Order_c l hl
  have hrace := fun i k h1 h2 => Race_c l i k h1 h2
  cases hm : allMay l with
  | false =>
    rw [hm] at hmay
    refine Ct.of_vc Try.f11 Try.func11 rfl rfl fun w H B g0 => ?_
    refine OpJ.callV hmay (fun _ _ => rfl) rfl rfl rfl ?_
    (repeat (first | refine Spl.t rfl ?_ | refine Spl.f rfl ?_))
    refine FinP.open rfl ?_
    unfold firstV
    rw [hm, if_neg (by simp)]; rfl
  | true =>
    rw [hm] at hmay
    have heq := fun i k h1 h2 => raceR_eq hl ((allMay_iff l).1 hm) (i := i) (k := k) h1 h2
    refine Ct.of_vc Try.f11 Try.func11 rfl rfl fun w H B g0 => ?_
    refine OpJ.callV hmay (fun _ _ => rfl) rfl rfl rfl ?_
    (repeat (first | refine Spl.t rfl ?_ | refine Spl.f rfl ?_))
    refine OpJ.callV hord (fun _ _ => rfl) rfl rfl rfl ?_
    (repeat (first | refine Spl.t rfl ?_ | refine Spl.f rfl ?_))
    refine WJ.loopK (V := Nat) (fun k => [(6, iv k)]) (fun _ => []) [] (fun k => l.length - k) (fun k => k ≤ l.length ∧ firstTo l k = none) 0 ⟨Nat.zero_le _, rfl⟩ (by repeat' (first | exact trivial | exact rfl | refine And.intro ?_ ?_)) (by repeat' (first | exact trivial | exact rfl | refine And.intro ?_ ?_)) ?_
    rintro k ⟨hk, hf⟩
    refine Spl.of (fun h1 => ?_) (fun h1 => ?_)
    · have hlt : k < l.length := by have := of_decide_eq_true h1; simp at this; omega
      (repeat (first | refine Spl.t rfl ?_ | refine Spl.f rfl ?_))
      refine WJ.loopK (V := Nat) (fun i => [(7, iv i)]) (fun _ => []) [] (fun i => k - i) (fun i => i ≤ k ∧ ∀ j, j < i → raceB l j k = false) 0 ⟨Nat.zero_le _, fun _ h => by omega⟩ (by repeat' (first | exact trivial | exact rfl | refine And.intro ?_ ?_)) (by repeat' (first | exact trivial | exact rfl | refine And.intro ?_ ?_)) ?_
      rintro i ⟨hi, hall⟩
      refine Spl.of (fun h2 => ?_) (fun h2 => ?_)
      · have hik : i < k := by have := of_decide_eq_true h2; omega
        have hr := hrace i k (by omega) hlt
        rw [heq i k hik hlt] at hr
        (repeat (first | refine Spl.t rfl ?_ | refine Spl.f rfl ?_))
        refine OpJ.callV hr (fun _ _ => rfl) rfl rfl rfl ?_
        (repeat (first | refine Spl.t rfl ?_ | refine Spl.f rfl ?_))
        refine Spl.of (fun h3 => ?_) (fun h3 => ?_)
        · (repeat (first | refine Spl.t rfl ?_ | refine Spl.f rfl ?_))
          refine FinP.open rfl ?_
          rw [first_in hm hf (firstI_some hall h3 k hik) hlt]; rfl
        · (repeat (first | refine Spl.t rfl ?_ | refine Spl.f rfl ?_))
          refine ⟨i + 1, ⟨by omega, fun j hj => ?_⟩, by omega, ⟨some_iv (wrap_id _ (by omega) (by omega)), trivial⟩, (by repeat' (first | exact trivial | exact rfl | refine And.intro ?_ ?_)), (by repeat' (first | exact trivial | exact rfl | refine And.intro ?_ ?_)), (by repeat' (first | exact trivial | exact rfl | refine And.intro ?_ ?_))⟩
          by_cases e : j = i
          · subst e; exact h3
          · exact hall j (by omega)
      · have h2 := of_decide_eq_false h2
        obtain rfl : i = k := by omega
        have hfn : firstTo l (i + 1) = none := by
          unfold firstTo
          rw [hf]
          simp only
          rw [(firstI_none l i i).2 hall]
        (repeat (first | refine Spl.t rfl ?_ | refine Spl.f rfl ?_))
        exact ⟨i + 1, ⟨by omega, hfn⟩, by omega, ⟨some_iv (wrap_id _ (by omega) (by omega)), trivial⟩, (by repeat' (first | exact trivial | exact rfl | refine And.intro ?_ ?_)), (by repeat' (first | exact trivial | exact rfl | refine And.intro ?_ ?_)), (by repeat' (first | exact trivial | exact rfl | refine And.intro ?_ ?_))⟩
    · have h1 := of_decide_eq_false h1
      simp at h1
      obtain rfl : k = l.length := by omega
      (repeat (first | refine Spl.t rfl ?_ | refine Spl.f rfl ?_))
      refine FinP.open rfl ?_
      unfold firstV
      rw [if_pos hm, hf]; rfl
end Go.Proofs.E
end
section
open Go Go.Gv
attribute [local irreducible] Go.Gv.WJ Go.Gv.OpJ Go.Gv.QJ Go.Gv.Spl Go.Gv.Req Go.Gv.IdxP Go.Gv.RegP Go.Gv.FinP Go.Gv.CellP Go.Gv.CellsP Go.Gv.ArrP Go.Gv.ArrsP Go.Gv.DropP Go.Gv.ByteP Go.Gv.StoreP
set_option maxRecDepth 100000
namespace Go.Proofs.E
theorem firstV_is (l : List AC) : ∃ x y : Int, firstV l = .tup [iv x, iv y, iv (firstE l)] := by
  unfold firstV firstE
  split
  · cases firstTo l l.length with
    | none => exact ⟨_, _, rfl⟩
    | some p => exact ⟨_, _, rfl⟩
  · exact ⟨_, _, rfl⟩
def seenB (l : List AC) (k i : Nat) : Bool := wrA (l.getD i AC0) && (decide ((l.getD i AC0).loc = (l.getD k AC0).loc) && aheadB l i k)
def seenI (l : List AC) (k : Nat) : Nat → Int
  | 0 => -1
  | m + 1 => if seenB l k m = true then (m : Int) else seenI l k m
def seenL (l : List AC) (k : Int) : Int := if firstE l ≠ 0 ∨ k < 0 ∨ (l.length : Nat) ≤ k ∨ (l.getD k.toNat AC0).k ≠ 0 then -1 else seenI l k.toNat k.toNat
theorem firstE_may {l : List AC} (h : firstE l = 0) : allMay l = true ∧ firstTo l l.length = none := by
  unfold firstE at h
  split at h
  · next hm =>
    refine ⟨hm, ?_⟩
    split at h
    · assumption
    · cases h
  · cases h
theorem Seen_c (l : List AC) (k : Int) (hl : l.length ≤ 1000) : Cv 10 [.d (.sl 3 (l.map acD)), iv k] (iv (seenL l k)) := by
  have hf := First_c l hl
  obtain ⟨fx, fy, he⟩ := firstV_is l
  rw [he] at hf
  have hc := clocks_c l hl
  unfold clksv at hc
  have hla := len_acD l
  unfold seenL
  refine Ct.of_vc Try.f10 Try.func10 rfl rfl fun w H B g0 => ?_
  refine OpJ.callV hf (fun _ _ => rfl) rfl rfl rfl ?_
  (repeat (first | refine Spl.t rfl ?_ | refine Spl.f rfl ?_))
  refine Spl.of (fun h1 => ?_) (fun h1 => ?_)
  · have h1 : firstE l ≠ 0 := by simpa using h1
    (repeat (first | refine Spl.t rfl ?_ | refine Spl.f rfl ?_))
    exact FinP.open rfl (congrArg iv (by rw [if_pos (.inl h1)]))
  have h1 : firstE l = 0 := by simpa using h1
  obtain ⟨hm, _⟩ := firstE_may h1
  rw [if_pos hm] at hc
  (repeat (first | refine Spl.t rfl ?_ | refine Spl.f rfl ?_))
  refine Spl.of (fun h2 => ?_) (fun h2 => ?_)
  · have h2 := of_decide_eq_true h2
    (repeat (first | refine Spl.t rfl ?_ | refine Spl.f rfl ?_))
    exact FinP.open rfl (congrArg iv (by rw [if_pos (.inr (.inl h2))]))
  have h2 := of_decide_eq_false h2
  (repeat (first | refine Spl.t rfl ?_ | refine Spl.f rfl ?_))
  refine Spl.of (fun h3 => ?_) (fun h3 => ?_)
  · have h3 := of_decide_eq_true h3
    simp at h3
    (repeat (first | refine Spl.t rfl ?_ | refine Spl.f rfl ?_))
    exact FinP.open rfl (congrArg iv (by rw [if_pos (.inr (.inr (.inl h3)))]))
  have h3 := of_decide_eq_false h3
  simp at h3
  obtain ⟨kn, rfl⟩ : ∃ n : Nat, k = (n : Int) := ⟨k.toNat, by omega⟩
  rw [Int.toNat_natCast]
  have hlt : kn < l.length := by omega
  have hxk := get_acD hlt
  have hah := fun i hi => ahead14_c l (runC l).cs i kn hi (by omega) hlt (runC_len l)
  have hd : ∀ i : Nat, (decide (i < kn) && decide (clAt ((runC l).cs.getD i []) (l.getD i AC0).t ≤ clAt ((runC l).cs.getD kn []) (l.getD i AC0).t)) = aheadB l i kn := fun _ => rfl
  have hsb : ∀ i, seenB l kn i = (wrA (l.getD i AC0) && (decide ((l.getD i AC0).loc = (l.getD kn AC0).loc) && aheadB l i kn)) := fun _ => rfl
  generalize l.getD kn AC0 = b at hxk hsb ⊢
  (repeat (first | refine Spl.t rfl ?_ | refine Spl.f rfl ?_))
  refine IdxP.of (acD b) (by omega) (by rw [Int.toNat_natCast]; exact hxk) ?_
  (repeat (first | refine Spl.t rfl ?_ | refine Spl.f rfl ?_))
  refine Spl.of (fun h4 => ?_) (fun h4 => ?_)
  · have h4 : b.k ≠ 0 := by simpa using h4
    (repeat (first | refine Spl.t rfl ?_ | refine Spl.f rfl ?_))
    exact FinP.open rfl (congrArg iv (by rw [if_pos (.inr (.inr (.inr h4)))]))
  have h4 : b.k = 0 := by simpa using h4
  rw [if_neg (by omega)]
  (repeat (first | refine Spl.t rfl ?_ | refine Spl.f rfl ?_))
  refine OpJ.callV hc (fun _ _ => rfl) rfl rfl rfl ?_
  (repeat (first | refine Spl.t rfl ?_ | refine Spl.f rfl ?_))
  generalize hcs : (runC l).cs = cs at hah hd ⊢
  refine WJ.loopK (V := Nat) (fun m => [(10, iv ((m : Int) - 1))]) (fun _ => []) [] (fun m => m) (fun m => m ≤ kn ∧ seenI l kn kn = seenI l kn m) kn ⟨Nat.le_refl _, rfl⟩ ⟨some_iv (wrap_id _ (by omega) (by omega)), trivial⟩ (by repeat' (first | exact trivial | exact rfl | refine And.intro ?_ ?_)) ?_
  rintro m' ⟨hm', hs⟩
  refine Spl.of (fun h5 => ?_) (fun h5 => ?_)
  · have hm0 : 1 ≤ m' := by have := of_decide_eq_true h5; omega
    obtain ⟨m, rfl⟩ : ∃ m, m' = m + 1 := ⟨m' - 1, by omega⟩
    have em : ((m + 1 : Nat) : Int) - 1 = (m : Int) := by omega
    rw [em]
    have hmn : m < l.length := by omega
    have hxm := get_acD hmn
    have hah := hah m hmn
    rw [hd] at hah
    have hsb := hsb m
    have hyes : seenB l kn m = true → seenI l kn kn = (m : Int) := fun h => by
      rw [hs]
      unfold seenI
      rw [if_pos h]
    have hno : seenB l kn m = false → seenI l kn kn = seenI l kn m := fun h => by
      rw [hs]
      show (if seenB l kn m = true then (m : Int) else seenI l kn m) = _
      rw [h, if_neg (by simp)]
    generalize l.getD m AC0 = a at hxm hsb
    (repeat (first | refine Spl.t rfl ?_ | refine Spl.f rfl ?_))
    refine RegP.of rfl (by decide +kernel) ?_
    refine IdxP.of (acD a) (by omega) (by rw [Int.toNat_natCast]; exact hxm) ?_
    refine Spl.of (fun h6 => ?_) (fun h6 => ?_)
    · rw [show wrA a = true from h6, Bool.true_and] at hsb
      (repeat (first | refine Spl.t rfl ?_ | refine Spl.f rfl ?_))
      refine IdxP.of (acD a) (by omega) (by rw [Int.toNat_natCast]; exact hxm) ?_
      (repeat (first | refine Spl.t rfl ?_ | refine Spl.f rfl ?_))
      refine IdxP.of (acD b) (by omega) (by rw [Int.toNat_natCast]; exact hxk) ?_
      (repeat (first | refine Spl.t rfl ?_ | refine Spl.f rfl ?_))
      refine Spl.of (fun h7 => ?_) (fun h7 => ?_)
      · rw [h7, Bool.true_and] at hsb
        (repeat (first | refine Spl.t rfl ?_ | refine Spl.f rfl ?_))
        refine QuietP.of (QJ.call hah (fun _ _ => rfl) rfl rfl) ?_
        (repeat (first | refine Spl.t rfl ?_ | refine Spl.f rfl ?_))
        refine Spl.of (fun h8 => ?_) (fun h8 => ?_)
        · (repeat (first | refine Spl.t rfl ?_ | refine Spl.f rfl ?_))
          exact FinP.open rfl (congrArg iv (hyes (hsb.trans h8)).symm)
        · (repeat (first | refine Spl.t rfl ?_ | refine Spl.f rfl ?_))
          exact ⟨m, ⟨by omega, hno (hsb.trans h8)⟩, by omega, ⟨some_iv (wrap_id _ (by omega) (by omega)), trivial⟩, (by repeat' (first | exact trivial | exact rfl | refine And.intro ?_ ?_)), (by repeat' (first | exact trivial | exact rfl | refine And.intro ?_ ?_)), (by repeat' (first | exact trivial | exact rfl | refine And.intro ?_ ?_))⟩
      · rw [h7, Bool.false_and] at hsb
        (repeat (first | refine Spl.t rfl ?_ | refine Spl.f rfl ?_))
        exact ⟨m, ⟨by omega, hno hsb⟩, by omega, ⟨some_iv (wrap_id _ (by omega) (by omega)), trivial⟩, (by repeat' (first | exact trivial | exact rfl | refine And.intro ?_ ?_)), (by repeat' (first | exact trivial | exact rfl | refine And.intro ?_ ?_)), (by repeat' (first | exact trivial | exact rfl | refine And.intro ?_ ?_))⟩
    · rw [show wrA a = false from h6, Bool.false_and] at hsb
      (repeat (first | refine Spl.t rfl ?_ | refine Spl.f rfl ?_))
      exact ⟨m, ⟨by omega, hno hsb⟩, by omega, ⟨some_iv (wrap_id _ (by omega) (by omega)), trivial⟩, (by repeat' (first | exact trivial | exact rfl | refine And.intro ?_ ?_)), (by repeat' (first | exact trivial | exact rfl | refine And.intro ?_ ?_)), (by repeat' (first | exact trivial | exact rfl | refine And.intro ?_ ?_))⟩
  · have h5 := of_decide_eq_false h5
    obtain rfl : m' = 0 := by omega
    (repeat (first | refine Spl.t rfl ?_ | refine Spl.f rfl ?_))
    exact FinP.open rfl (congrArg iv hs.symm)
/-! ### The example -/
def aw1 : List AC := [⟨0, 1, 0⟩, ⟨1, 0, 0⟩]
def aw2 : List AC := [⟨0, 1, 0⟩, ⟨0, 3, 5⟩, ⟨1, 2, 5⟩, ⟨1, 0, 0⟩]
theorem aw1_v : firstV aw1 = .tup [iv 0, iv 1, iv 13] := by
  unfold firstV
  rw [if_pos (by decide +kernel), show firstTo aw1 aw1.length = some (0, 1) from by decide +kernel]; rfl
theorem aw2_v : firstV aw2 = .tup [iv (-1), iv (-1), iv 0] := by
  unfold firstV
  rw [if_pos (by decide +kernel), show firstTo aw2 aw2.length = none from by decide +kernel]
theorem Awake14_c : Cv 7 [] (bv true) := by
  have h1 := First_c aw1 (by decide)
  have h2 := First_c aw2 (by decide)
  rw [aw1_v] at h1
  rw [aw2_v] at h2
  refine Ct.of_vc Try.f7 Try.func7 rfl rfl fun w H B g0 => ?_
  refine OpJ.shift (SJ.fullD 10 rfl) ?_
  refine OpJ.callV h1 (fun _ _ => rfl) rfl rfl rfl ?_
  (repeat (first | refine Spl.t rfl ?_ | refine Spl.f rfl ?_))
  refine OpJ.shift (SJ.fullD 20 rfl) ?_
  refine OpJ.callV h2 (fun _ _ => rfl) rfl rfl rfl ?_
  (repeat (first | refine Spl.t rfl ?_ | refine Spl.f rfl ?_))
  refine OpJ.callV Awake13_c (fun _ _ => rfl) rfl rfl rfl ?_
  (repeat (first | refine Spl.t rfl ?_ | refine Spl.f rfl ?_))
  exact FinP.open rfl rfl
end Go.Proofs.E
end
section
open Go Go.Gv
attribute [local irreducible] Go.Gv.WJ Go.Gv.OpJ Go.Gv.QJ Go.Gv.Spl Go.Gv.Req Go.Gv.IdxP Go.Gv.RegP Go.Gv.FinP Go.Gv.CellP Go.Gv.CellsP Go.Gv.ArrP Go.Gv.ArrsP Go.Gv.DropP Go.Gv.ByteP Go.Gv.StoreP
set_option maxRecDepth 100000
namespace Go.Proofs.E
end Go.Proofs.E
end
section
open Go Go.Gv
attribute [local irreducible] Go.Gv.WJ Go.Gv.OpJ Go.Gv.QJ Go.Gv.Spl Go.Gv.Req Go.Gv.IdxP Go.Gv.RegP Go.Gv.FinP Go.Gv.CellP Go.Gv.CellsP Go.Gv.ArrP Go.Gv.ArrsP Go.Gv.DropP Go.Gv.ByteP Go.Gv.StoreP
set_option maxRecDepth 100000
namespace Go.Proofs.E
theorem seenI_lt (l : List AC) (k : Nat) : ∀ m, seenI l k m = -1 ∧ (∀ i, i < m → seenB l k i = false) ∨ ∃ i : Nat, i < m ∧ seenI l k m = (i : Int) ∧ seenB l k i = true ∧ ∀ j, i < j → j < m → seenB l k j = false
  | 0 => .inl ⟨rfl, fun i h => absurd h (Nat.not_lt_zero i)⟩
  | m + 1 => by
    unfold seenI
    by_cases h : seenB l k m = true
    · rw [if_pos h]
      exact .inr ⟨m, by omega, rfl, h, fun j h1 h2 => by omega⟩
    · rw [if_neg h]
      rw [Bool.not_eq_true] at h
      rcases seenI_lt l k m with ⟨h1, h2⟩ | ⟨i, h1, h2, h3, h4⟩
      · refine .inl ⟨h1, fun i hi => ?_⟩
        by_cases e : i = m
        · subst e; exact h
        · exact h2 i (by omega)
      · refine .inr ⟨i, by omega, h2, h3, fun j h5 h6 => ?_⟩
        by_cases e : j = m
        · subst e; exact h
        · exact h4 j h5 (by omega)
/-- What is seen of a trace without races. -/
theorem seen_is {l : List AC} (hl : l.length ≤ 1000) (hm : allMay l = true) {k : Nat} (hk : k < l.length) :
    (seenI l k k = -1 ∧ ∀ (w : Nat), w < l.length → (l.getD w AC0).k = 1 → (l.getD w AC0).loc = (l.getD k AC0).loc → hbB l w k = false) ∨
    ∃ i : Nat, i < l.length ∧ seenI l k k = (i : Int) ∧ (l.getD i AC0).k = 1 ∧ (l.getD i AC0).loc = (l.getD k AC0).loc ∧ hbB l i k = true ∧
      ∀ w : Nat, w < l.length → (l.getD w AC0).k = 1 → (l.getD w AC0).loc = (l.getD k AC0).loc → hbB l w k = true → w ≤ i := by
  have hma := (allMay_iff l).1 hm
  have hs : ∀ w, w < l.length → (seenB l k w = true ↔ (l.getD w AC0).k = 1 ∧ (l.getD w AC0).loc = (l.getD k AC0).loc ∧ hbB l w k = true) := fun w hw => by
    unfold seenB wrA
    rw [Bool.and_eq_true, Bool.and_eq_true, decide_eq_true_iff, decide_eq_true_iff, aheadB_iff hl hma hw hk, hbB_iff]
  rcases seenI_lt l k k with ⟨h1, h2⟩ | ⟨i, h1, h2, h3, h4⟩
  · refine .inl ⟨h1, fun w hw p1 p2 => ?_⟩
    cases e : hbB l w k with
    | false => rfl
    | true =>
      have := ((hbB_iff l w k).1 e).lt
      rw [← h2 w (by omega)]
      exact ((hs w hw).2 ⟨p1, p2, e⟩).symm
  · obtain ⟨q1, q2, q3⟩ := (hs i (by omega)).1 h3
    refine .inr ⟨i, by omega, h2, q1, q2, q3, fun w hw p1 p2 p3 => ?_⟩
    have := ((hbB_iff l w k).1 p3).lt
    rcases Nat.lt_or_ge i w with h | h
    · have h5 := h4 w h (by omega)
      rw [(hs w hw).2 ⟨p1, p2, p3⟩] at h5; cases h5
    · exact h
/-- Of a trace without races, all other writes are ahead of what is seen, or behind the read. -/
theorem seen_last {l : List AC} (hl : l.length ≤ 1000) (hm : allMay l = true) (hf : firstTo l l.length = none) {i k w : Nat} (hi : i < l.length) (hk : k < l.length) (hw : w < l.length) (hki : (l.getD k AC0).k = 0)
    (h1 : (l.getD i AC0).k = 1) (h2 : (l.getD i AC0).loc = (l.getD k AC0).loc) (h3 : (l.getD w AC0).k = 1) (h4 : (l.getD w AC0).loc = (l.getD k AC0).loc)
    (hmax : hbB l w k = true → w ≤ i) (hne : w ≠ i) (hn : hbB l w i = false) : hbB l k w = true := by
  have hrf := (rf_iff hl ((allMay_iff l).1 hm)).1 hf
  have c1 : ∀ a b : AC, a.k = 1 → b.k = 1 → a.loc = b.loc → clashA a b = true := fun a b p q r => by simp [clashA, accA, wrA, p, q, r]
  have c2 : ∀ a b : AC, a.k = 1 → b.k = 0 → a.loc = b.loc → clashA a b = true := fun a b p q r => by simp [clashA, accA, wrA, p, q, r]
  have c3 : ∀ a b : AC, a.k = 0 → b.k = 1 → a.loc = b.loc → clashA a b = true := fun a b p q r => by simp [clashA, accA, wrA, p, q, r]
  have hiw : HB l i w := by
    rcases Nat.lt_or_ge w i with h | h
    · have := hrf w i _ _ h (getA hw) (getA hi) (c1 _ _ h3 h1 (h4.trans h2.symm))
      rw [(hbB_iff l w i).2 this] at hn; cases hn
    · exact hrf i w _ _ (by omega) (getA hi) (getA hw) (c1 _ _ h1 h3 (h2.trans h4.symm))
  have hiw := hiw.lt.1
  have hwk : w ≠ k := fun e => by subst e; omega
  rcases Nat.lt_or_ge w k with h | h
  · have := hrf w k _ _ h (getA hw) (getA hk) (c2 _ _ h3 hki h4)
    have := hmax ((hbB_iff l w k).2 this)
    omega
  · exact (hbB_iff l k w).2 (hrf k w _ _ (by omega) (getA hk) (getA hw) (c3 _ _ hki h3 h4.symm))
set_option maxHeartbeats 4000000 in
theorem RaceSees_c (l : List AC) (k : Int) : Cv 4 [.d (.sl 3 (l.map acD)), iv k] (bv true) := by
  have hla := len_acD l
  refine Ct.of_vc Try.f4 Try.func4 rfl rfl fun w H B g0 => ?_
  refine Spl.of (fun h1 => ?_) (fun h1 => ?_)
  · (repeat (first | refine Spl.t rfl ?_ | refine Spl.f rfl ?_))
    refine OpJ.callV Awake14_c (fun _ _ => rfl) rfl rfl rfl ?_
    (repeat (first | refine Spl.t rfl ?_ | refine Spl.f rfl ?_))
    exact FinP.open rfl rfl
  have h1 := of_decide_eq_false h1
  simp at h1
  have hl : l.length ≤ 1000 := by omega
  have hfst := RFirst_c l hl
  obtain ⟨fx, fy, he⟩ := firstV_is l
  rw [he] at hfst
  have hsn := Seen_c l k hl
  have hsl : seenL l k = if firstE l ≠ 0 ∨ k < 0 ∨ (l.length : Nat) ≤ k ∨ (l.getD k.toNat AC0).k ≠ 0 then -1 else seenI l k.toNat k.toNat := rfl
  generalize seenL l k = sn at hsn hsl
  (repeat (first | refine Spl.t rfl ?_ | refine Spl.f rfl ?_))
  refine OpJ.callV (OfA_c l (by omega)) (fun _ _ => rfl) rfl rfl rfl ?_
  (repeat (first | refine Spl.t rfl ?_ | refine Spl.f rfl ?_))
  refine OpJ.callV hsn (fun _ _ => rfl) rfl rfl rfl ?_
  (repeat (first | refine Spl.t rfl ?_ | refine Spl.f rfl ?_))
  refine OpJ.callV hfst (fun _ _ => rfl) rfl rfl rfl ?_
  (repeat (first | refine Spl.t rfl ?_ | refine Spl.f rfl ?_))
  refine Spl.of (fun g1 => ?_) (fun g1 => ?_)
  · have g1 : firstE l ≠ 0 := by simpa using g1
    rw [if_pos (.inl g1)] at hsl
    (repeat (first | refine Spl.t rfl ?_ | refine Spl.f rfl ?_))
    refine OpJ.callV Awake14_c (fun _ _ => rfl) rfl rfl rfl ?_
    (repeat (first | refine Spl.t rfl ?_ | refine Spl.f rfl ?_))
    exact FinP.open rfl (congrArg bv (by rw [hsl]; rfl))
  have g1 : firstE l = 0 := by simpa using g1
  (repeat (first | refine Spl.t rfl ?_ | refine Spl.f rfl ?_))
  refine Spl.of (fun g2 => ?_) (fun g2 => ?_)
  · have g2 := of_decide_eq_true g2
    rw [if_pos (.inr (.inl g2))] at hsl
    (repeat (first | refine Spl.t rfl ?_ | refine Spl.f rfl ?_))
    refine OpJ.callV Awake14_c (fun _ _ => rfl) rfl rfl rfl ?_
    (repeat (first | refine Spl.t rfl ?_ | refine Spl.f rfl ?_))
    exact FinP.open rfl (congrArg bv (by rw [hsl]; rfl))
  have g2 := of_decide_eq_false g2
  (repeat (first | refine Spl.t rfl ?_ | refine Spl.f rfl ?_))
  refine Spl.of (fun g3 => ?_) (fun g3 => ?_)
  · have g3 := of_decide_eq_true g3
    simp at g3
    rw [if_pos (.inr (.inr (.inl g3)))] at hsl
    (repeat (first | refine Spl.t rfl ?_ | refine Spl.f rfl ?_))
    refine OpJ.callV Awake14_c (fun _ _ => rfl) rfl rfl rfl ?_
    (repeat (first | refine Spl.t rfl ?_ | refine Spl.f rfl ?_))
    exact FinP.open rfl (congrArg bv (by rw [hsl]; rfl))
  have g3 := of_decide_eq_false g3
  simp at g3
  obtain ⟨kn, rfl⟩ : ∃ n : Nat, k = (n : Int) := ⟨k.toNat, by omega⟩
  rw [Int.toNat_natCast] at hsl
  have hlt : kn < l.length := by omega
  have hxk := get_acD hlt
  (repeat (first | refine Spl.t rfl ?_ | refine Spl.f rfl ?_))
  refine IdxP.of (acD (l.getD kn AC0)) (by omega) (by rw [Int.toNat_natCast]; exact hxk) ?_
  (repeat (first | refine Spl.t rfl ?_ | refine Spl.f rfl ?_))
  refine Spl.of (fun g4 => ?_) (fun g4 => ?_)
  · have g4 : (l.getD kn AC0).k ≠ 0 := by simpa using g4
    rw [if_pos (.inr (.inr (.inr g4)))] at hsl
    (repeat (first | refine Spl.t rfl ?_ | refine Spl.f rfl ?_))
    refine OpJ.callV Awake14_c (fun _ _ => rfl) rfl rfl rfl ?_
    (repeat (first | refine Spl.t rfl ?_ | refine Spl.f rfl ?_))
    exact FinP.open rfl (congrArg bv (by rw [hsl]; rfl))
  have g4 : (l.getD kn AC0).k = 0 := by simpa using g4
  rw [if_neg (by omega)] at hsl
  obtain ⟨hm, hf⟩ := firstE_may g1
  have hsee := seen_is hl hm hlt
  rw [← hsl] at hsee
  (repeat (first | refine Spl.t rfl ?_ | refine Spl.f rfl ?_))
  refine OpJ.callV (Order_c l hl) (fun _ _ => rfl) rfl rfl rfl ?_
  (repeat (first | refine Spl.t rfl ?_ | refine Spl.f rfl ?_))
  refine WJ.loopK (V := Nat) (fun w => [(57, iv w)]) (fun _ => []) [] (fun w => l.length - w) (fun w => w ≤ l.length) 0 (Nat.zero_le _) (by repeat' (first | exact trivial | exact rfl | refine And.intro ?_ ?_)) (by repeat' (first | exact trivial | exact rfl | refine And.intro ?_ ?_)) ?_
  intro w hw
  refine Spl.of (fun q1 => ?_) (fun q1 => ?_)
  · have hwl : w < l.length := by have := of_decide_eq_true q1; simp at this; omega
    have hxw := get_acD hwl
    (repeat (first | refine Spl.t rfl ?_ | refine Spl.f rfl ?_))
    refine IdxP.of (acD (l.getD w AC0)) (by omega) (by rw [Int.toNat_natCast]; exact hxw) ?_
    refine RegP.of rfl (by decide +kernel) ?_
    refine Spl.of (fun q2 => ?_) (fun q2 => ?_)
    · (repeat (first | refine Spl.t rfl ?_ | refine Spl.f rfl ?_))
      exact ⟨w + 1, by omega, by omega, ⟨some_iv (wrap_id _ (by omega) (by omega)), trivial⟩, (by repeat' (first | exact trivial | exact rfl | refine And.intro ?_ ?_)), (by repeat' (first | exact trivial | exact rfl | refine And.intro ?_ ?_)), (by repeat' (first | exact trivial | exact rfl | refine And.intro ?_ ?_))⟩
    have q2 : (l.getD w AC0).k = 1 := by simpa using q2
    (repeat (first | refine Spl.t rfl ?_ | refine Spl.f rfl ?_))
    refine IdxP.of (acD (l.getD kn AC0)) (by omega) (by rw [Int.toNat_natCast]; exact hxk) ?_
    (repeat (first | refine Spl.t rfl ?_ | refine Spl.f rfl ?_))
    refine Spl.of (fun q3 => ?_) (fun q3 => ?_)
    · (repeat (first | refine Spl.t rfl ?_ | refine Spl.f rfl ?_))
      exact ⟨w + 1, by omega, by omega, ⟨some_iv (wrap_id _ (by omega) (by omega)), trivial⟩, (by repeat' (first | exact trivial | exact rfl | refine And.intro ?_ ?_)), (by repeat' (first | exact trivial | exact rfl | refine And.intro ?_ ?_)), (by repeat' (first | exact trivial | exact rfl | refine And.intro ?_ ?_))⟩
    have q3 : (l.getD w AC0).loc = (l.getD kn AC0).loc := by simpa using q3
    rcases hsee with ⟨s1, s2⟩ | ⟨i, hi, s1, s2, s3, s4, s5⟩
    · have hz := s2 w hwl q2 q3
      have e1 : decide (sn < 0) = true := decide_eq_true (by omega)
      have e2 : decide (0 ≤ sn) = false := decide_eq_false (by omega)
      (repeat (first | refine Spl.t rfl ?_ | refine Spl.f rfl ?_))
      refine Spl.t e1 ?_
      (repeat (first | refine Spl.t rfl ?_ | refine Spl.f rfl ?_))
      refine IdxP.of [.sl 1 ((List.range l.length).map fun k => [.v (.bool (hbB l w k))])] (by omega) (by rw [Int.toNat_natCast]; exact ord_row hwl) ?_
      (repeat (first | refine Spl.t rfl ?_ | refine Spl.f rfl ?_))
      refine IdxP.of [.v (.bool (hbB l w kn))] (by omega) (by rw [Int.toNat_natCast]; exact ord_cell hlt) ?_
      (repeat (first | refine Spl.t rfl ?_ | refine Spl.f rfl ?_))
      rw [hz]
      (repeat (first | refine Spl.t rfl ?_ | refine Spl.f rfl ?_))
      refine Spl.f e2 ?_
      (repeat (first | refine Spl.t rfl ?_ | refine Spl.f rfl ?_))
      exact ⟨w + 1, by omega, by omega, ⟨some_iv (wrap_id _ (by omega) (by omega)), trivial⟩, (by repeat' (first | exact trivial | exact rfl | refine And.intro ?_ ?_)), (by repeat' (first | exact trivial | exact rfl | refine And.intro ?_ ?_)), (by repeat' (first | exact trivial | exact rfl | refine And.intro ?_ ?_))⟩
    · subst s1
      have e1 : decide ((i : Int) < 0) = false := decide_eq_false (by omega)
      have e2 : decide (0 ≤ (i : Int)) = true := decide_eq_true (by omega)
      (repeat (first | refine Spl.t rfl ?_ | refine Spl.f rfl ?_))
      refine Spl.of (fun q4 => ?_) (fun q4 => ?_)
      · have q4 : ¬ (w : Int) = (i : Int) := by simpa using q4
        have q4 : w ≠ i := by omega
        (repeat (first | refine Spl.t rfl ?_ | refine Spl.f rfl ?_))
        refine IdxP.of [.sl 1 ((List.range l.length).map fun k => [.v (.bool (hbB l w k))])] (by omega) (by rw [Int.toNat_natCast]; exact ord_row hwl) ?_
        (repeat (first | refine Spl.t rfl ?_ | refine Spl.f rfl ?_))
        refine IdxP.of [.v (.bool (hbB l w i))] (by omega) (by rw [Int.toNat_natCast]; exact ord_cell hi) ?_
        (repeat (first | refine Spl.t rfl ?_ | refine Spl.f rfl ?_))
        refine Spl.of (fun q5 => ?_) (fun q5 => ?_)
        · have q5 : hbB l w i = false := by simpa using q5
          have hz := seen_last hl hm hf hi hlt hwl g4 s2 s3 q2 q3 (s5 w hwl q2 q3) q4 q5
          (repeat (first | refine Spl.t rfl ?_ | refine Spl.f rfl ?_))
          refine IdxP.of [.sl 1 ((List.range l.length).map fun k => [.v (.bool (hbB l kn k))])] (by omega) (by rw [Int.toNat_natCast]; exact ord_row hlt) ?_
          (repeat (first | refine Spl.t rfl ?_ | refine Spl.f rfl ?_))
          refine IdxP.of [.v (.bool (hbB l kn w))] (by omega) (by rw [Int.toNat_natCast]; exact ord_cell hwl) ?_
          (repeat (first | refine Spl.t rfl ?_ | refine Spl.f rfl ?_))
          rw [hz]
          (repeat (first | refine Spl.t rfl ?_ | refine Spl.f rfl ?_))
          exact ⟨w + 1, by omega, by omega, ⟨some_iv (wrap_id _ (by omega) (by omega)), trivial⟩, (by repeat' (first | exact trivial | exact rfl | refine And.intro ?_ ?_)), (by repeat' (first | exact trivial | exact rfl | refine And.intro ?_ ?_)), (by repeat' (first | exact trivial | exact rfl | refine And.intro ?_ ?_))⟩
        · (repeat (first | refine Spl.t rfl ?_ | refine Spl.f rfl ?_))
          exact ⟨w + 1, by omega, by omega, ⟨some_iv (wrap_id _ (by omega) (by omega)), trivial⟩, (by repeat' (first | exact trivial | exact rfl | refine And.intro ?_ ?_)), (by repeat' (first | exact trivial | exact rfl | refine And.intro ?_ ?_)), (by repeat' (first | exact trivial | exact rfl | refine And.intro ?_ ?_))⟩
      · (repeat (first | refine Spl.t rfl ?_ | refine Spl.f rfl ?_))
        exact ⟨w + 1, by omega, by omega, ⟨some_iv (wrap_id _ (by omega) (by omega)), trivial⟩, (by repeat' (first | exact trivial | exact rfl | refine And.intro ?_ ?_)), (by repeat' (first | exact trivial | exact rfl | refine And.intro ?_ ?_)), (by repeat' (first | exact trivial | exact rfl | refine And.intro ?_ ?_))⟩
  · (repeat (first | refine Spl.t rfl ?_ | refine Spl.f rfl ?_))
    refine RegP.mixS 42 [] rfl (by decide +kernel) ?_
    refine QuietP.of (QJ.call Awake14_c (fun _ _ => rfl) rfl rfl) ?_
    (repeat (first | refine Spl.t rfl ?_ | refine Spl.f rfl ?_))
    rcases hsee with ⟨s1, s2⟩ | ⟨i, hi, s1, s2, s3, s4, s5⟩
    · have e1 : decide (sn < 0) = true := decide_eq_true (by omega)
      refine Spl.t e1 ?_
      (repeat (first | refine Spl.t rfl ?_ | refine Spl.f rfl ?_))
      exact FinP.open rfl rfl
    · subst s1
      have e1 : decide ((i : Int) < 0) = false := decide_eq_false (by omega)
      have e2 : decide ((i : Int) < ((l.map acD).length : Nat)) = true := decide_eq_true (by simp; omega)
      have hxi := get_acD hi
      (repeat (first | refine Spl.t rfl ?_ | refine Spl.f rfl ?_))
      refine Spl.t e2 ?_
      (repeat (first | refine Spl.t rfl ?_ | refine Spl.f rfl ?_))
      refine IdxP.of (acD (l.getD i AC0)) (by omega) (by rw [Int.toNat_natCast]; exact hxi) ?_
      (repeat (first | refine Spl.t rfl ?_ | refine Spl.f rfl ?_))
      refine Spl.t (decide_eq_true s2) ?_
      (repeat (first | refine Spl.t rfl ?_ | refine Spl.f rfl ?_))
      refine IdxP.of (acD (l.getD i AC0)) (by omega) (by rw [Int.toNat_natCast]; exact hxi) ?_
      (repeat (first | refine Spl.t rfl ?_ | refine Spl.f rfl ?_))
      refine IdxP.of (acD (l.getD kn AC0)) (by omega) (by rw [Int.toNat_natCast]; exact hxk) ?_
      (repeat (first | refine Spl.t rfl ?_ | refine Spl.f rfl ?_))
      refine Spl.t (decide_eq_true s3) ?_
      (repeat (first | refine Spl.t rfl ?_ | refine Spl.f rfl ?_))
      refine IdxP.of [.sl 1 ((List.range l.length).map fun k => [.v (.bool (hbB l i k))])] (by omega) (by rw [Int.toNat_natCast]; exact ord_row hi) ?_
      (repeat (first | refine Spl.t rfl ?_ | refine Spl.f rfl ?_))
      refine IdxP.of [.v (.bool (hbB l i kn))] (by omega) (by rw [Int.toNat_natCast]; exact ord_cell hlt) ?_
      (repeat (first | refine Spl.t rfl ?_ | refine Spl.f rfl ?_))
      exact FinP.open rfl (congrArg bv s4)
end Go.Proofs.E
end
section
namespace Go.Proofs.E
open Go Go.Gv
end Go.Proofs.E
end
section
open Go Go.Gv
attribute [local irreducible] Go.Gv.WJ Go.Gv.OpJ Go.Gv.QJ Go.Gv.Spl Go.Gv.Req Go.Gv.IdxP Go.Gv.RegP Go.Gv.FinP Go.Gv.CellP Go.Gv.CellsP Go.Gv.ArrP Go.Gv.ArrsP Go.Gv.DropP Go.Gv.ByteP Go.Gv.StoreP
namespace Go.Proofs.E
theorem acRow (cs : List D) (h : (Ty.st [.int .i64, .int .i64, .int .i64]).ok cs) : ∃ x : AC, cs = acD x ∧ True := by
  obtain ⟨_, _, rfl, ⟨a0, rfl, _⟩, ⟨_, _, rfl, ⟨a1, rfl, _⟩, ⟨_, _, rfl, ⟨a2, rfl, _⟩, rfl⟩⟩⟩ := h
  exact ⟨⟨a0, a1, a2⟩, rfl, trivial⟩
end Go.Proofs.E
end
