/- Laws that the claim's text stands on: A region that draws its order whose tail waits on all of the head but on its last operation (a late load); A room of operations that wait: the next that can be done; A room of operations that wait: the law's comparison; Whole numbers in double precision: exact up to 2^53; Doubles and complex numbers of whole parts; Contracts of the functions on tallies; Contracts of the functions on tallies: put, take; Contracts of the functions on tallies: the text; The laws on tallies: the example; TallyFull; The law TallyTurns; The document's tallies: a sum with an id more, its text; A version: what it tells; the next counter; A variable whose entry has a number of one's own; A version: the next counter, an operation taken in; the document's; A region that draws its order, in which some stores into private variables do not wait for what stands ahead of them; A version: an operation that can be applied is taken in; A version: an operation of another replica, by the closure that takes it in; A version: an operation of another replica. -/
import Derived.Test.YtcpmcadgknfpjaaGreatDoorM1
import Derived.Test.YtcpmcadgknfpjaaGreatDoorM2
import Derived.Test.YtcpmcadgknfpjaaGreatDoorM3
import Derived.Test.YtcpmcadgknfpjaaGreatDoorDShelf
import Derived.Test.YtcpmcadgknfpjaaGreatDoorM4
import Derived.Test.YtcpmcadgknfpjaaGreatDoorM5
import Derived.Test.YtcpmcadgknfpjaaGreatDoorM6
import Derived.CallsIn
set_option linter.unusedVariables false
set_option linter.unusedSimpArgs false
section
namespace Go.Gv
open Go.RowKit
structure CalmC (all : Array Oper) (m1 : Nat) : Prop where
  back : ∀ j o, all[j]? = some o → ∀ e, e ∈ o.after → Region.binds .any e = true → e.on < j
  tail : ∀ j o, all[j]? = some o → m1 < j → ∀ i, i < m1 → Anc all j i
  names : ∀ j o, j ≤ m1 → all[j]? = some o → ∀ i p, i < j → all[i]? = some p → edge o i = true ∨ ((∀ x, p.dst = some x → namesT all o x = false) ∧ ∀ x, o.dst = some x → namesT all p x = false)
theorem calm_anyC {X : Cx} {all : Array Oper} {m m1 : Nat} {t0 : T} {σ : Sg} {V : Nat → AV} {E : Nat → Option (Nat × Ent)} {Q' : Exit → Act → World → Prop} (hmm : m = m1 + 1) (hc : CalmC all m1) (hm : m ≤ all.size) (hE1 : E m1 = none)
    (hendB : ∀ γ H a w listed, St X γ H (states all V t0 m1) (bornAt E (fun _ => true) σ m1) a w → listed.size = all.size → (∀ j, j < all.size → listed.getD j false = decide (j < m1)) → wpAnyIn (Fr X.ro) 0 X.P .any all Q' (all.size - m1) listed a w)
    (hstep : ∀ i o, i < m → all[i]? = some o → BStep X all o (states all V t0 i) σ (V i) (E i) ∧ dOk o.dst X.N = true)
    (hfr : ∀ i id e, E i = some (id, e) → isFresh id t0 σ X.pin = true ∧ (∀ j x, j < m → j ≠ i → dstAt all j = some x → has2 id (V j) = false) ∧ ∀ j id' e', j ≠ i → E j = some (id', e') → id' ≠ id ∧ entHas id e' = false)
    (hend : ∀ γ H a w listed, St X γ H (states all V t0 m) (bornAt E (fun _ => true) σ m) a w → listed.size = all.size → (∀ j, j < all.size → listed.getD j false = decide (j < m)) → wpAnyIn (Fr X.ro) 0 X.P .any all Q' (all.size - m) listed a w) :
    ∀ (fuel : Nat) (listed : Array Bool) (γ : Ids) (H : HF) (a : Act) (w : World), listed.size = all.size →
      (∀ j, m ≤ j → listed.getD j false = false) → (∀ i o, listed.getD i false = true → all[i]? = some o → ∀ e, e ∈ o.after → Region.binds .any e = true → listed.getD e.on false = true) →
      ((List.range m).filter fun j => !listed.getD j false).length + (all.size - m) = fuel →
      TabOk γ H (tabAt all V t0 (fun j => listed.getD j false) m) a.tmps → St X γ H [] (bornAt E (fun j => listed.getD j false) σ m) a w →
      wpAnyIn (Fr X.ro) 0 X.P .any all Q' fuel listed a w := by
  intro fuel
  induction fuel with
  | zero =>
    intro listed γ H a w hs htail hclosed hcount htab sst
    have hall : ∀ j, j < m → listed.getD j false = true := fun j hj => by
      have h0 : ((List.range m).filter fun j => !listed.getD j false) = [] := List.length_eq_zero_iff.1 (by omega)
      have := List.filter_eq_nil_iff.1 h0 j (List.mem_range.2 hj)
      simpa using this
    have hmn : m = all.size := by omega
    have hst : St X γ H (states all V t0 m) (bornAt E (fun _ => true) σ m) a w := St.withT (by have h9 := sst; rw [bornAt_congr (S' := fun _ => true) m (fun j hj _ => hall j hj)] at h9; exact h9) (fun i b hi => htab i b (by
      rw [look_states] at hi
      rw [← hi]
      simp only [tabAt]
      rw [lastW_congr m (fun j hj _ => hall j hj)]))
    have := hend γ H a w listed hst hs (fun j hj => by rw [hall j (by omega)]; simp; omega)
    rw [show all.size - m = 0 from by omega] at this; exact this
  | succ fuel ih =>
    intro listed γ H a w hs htail hclosed hcount htab sst
    by_cases hall : ∀ j, j < m → listed.getD j false = true
    · -- the calm part is over
      have hst : St X γ H (states all V t0 m) (bornAt E (fun _ => true) σ m) a w := St.withT (by have h9 := sst; rw [bornAt_congr (S' := fun _ => true) m (fun j hj _ => hall j hj)] at h9; exact h9) (fun i b hi => htab i b (by
        rw [look_states] at hi
        rw [← hi]
        simp only [tabAt]
        rw [lastW_congr m (fun j hj _ => hall j hj)]))
      have h0 : ((List.range m).filter fun j => !listed.getD j false) = [] := List.filter_eq_nil_iff.2 fun j hj => by simp only [hall j (List.mem_range.1 hj)]; simp
      rw [h0] at hcount
      simp only [List.length_nil, Nat.zero_add] at hcount
      have := hend γ H a w listed hst hs (fun j hj => by
        by_cases hj' : j < m
        · rw [hall j hj']; simp [hj']
        · rw [htail j (by omega)]; simp; omega)
      rw [hcount] at this
      exact this
    · rcases Classical.em (∀ j, j < m1 → listed.getD j false = true) with hall1 | hall1
      · have hl1 : listed.getD m1 false = false := by
          cases hx : listed.getD m1 false with
          | false => rfl
          | true =>
            refine absurd (fun j hj => ?_) hall
            by_cases e : j = m1
            · rw [e]; exact hx
            · exact hall1 j (by omega)
        have hlb : bornAt E (fun j => listed.getD j false) σ m = bornAt E (fun _ => true) σ m1 := by
          rw [hmm]; simp only [bornAt, hE1]; exact bornAt_congr m1 (fun j hj _ => hall1 j hj)
        have hst : St X γ H (states all V t0 m1) (bornAt E (fun _ => true) σ m1) a w := St.withT (by have h9 := sst; rw [hlb] at h9; exact h9) (fun i b hi => htab i b (by
          rw [look_states] at hi
          rw [← hi]
          simp only [tabAt]
          have : lastW all (fun j => listed.getD j false) i m = lastW all (fun _ => true) i m1 := by
            rw [hmm]; simp only [lastW, hl1, Bool.false_eq_true, false_and, if_false]; exact lastW_congr m1 (fun j hj _ => hall1 j hj)
          rw [this]))
        have h0 : ((List.range m).filter fun j => !listed.getD j false) = [m1] := by
          have e1 : (List.range m1).filter (fun j => !listed.getD j false) = [] := List.filter_eq_nil_iff.2 fun j hj => by simp only [hall1 j (List.mem_range.1 hj)]; simp
          rw [hmm, List.range_succ, List.filter_append, e1, List.nil_append]
          simp only [List.filter_cons, List.filter_nil, hl1, Bool.not_false, if_true]
        rw [h0] at hcount
        simp only [List.length_cons, List.length_nil] at hcount
        have := hendB γ H a w listed hst hs (fun j hj => by
          by_cases hj' : j < m1
          · rw [hall1 j hj']; simp [hj']
          · by_cases e : j = m1
            · rw [e, hl1]; simp
            · rw [htail j (by omega)]; simp; omega)
        rw [show all.size - m1 = fuel + 1 from by omega] at this
        exact this
      refine ⟨fun hn => ?_, fun i hi => ?_⟩
      · -- the least that is not listed is ready
        exfalso
        have hex : ∃ j, j < m ∧ listed.getD j false = false := by
          refine Classical.byContradiction fun hno => hall fun j hj => ?_
          cases hx : listed.getD j false with
          | true => rfl
          | false => exact absurd ⟨j, hj, hx⟩ hno
        have hmin : ∃ j, j < m ∧ listed.getD j false = false ∧ ∀ i, i < j → listed.getD i false = true := by
          obtain ⟨j, hj⟩ := hex
          induction j using Nat.strongRecOn with
          | _ j ihj =>
            by_cases hlow : ∀ i, i < j → listed.getD i false = true
            · exact ⟨j, hj.1, hj.2, hlow⟩
            · have : ∃ i, i < j ∧ listed.getD i false = false := by
                refine Classical.byContradiction fun hno => hlow fun i hi => ?_
                cases hx : listed.getD i false with
                | true => rfl
                | false => exact absurd ⟨i, hi, hx⟩ hno
              obtain ⟨i, hi, hx⟩ := this
              exact ihj i hi ⟨by omega, hx⟩
        obtain ⟨j, hj, hjl, hlow⟩ := hmin
        have hjn : j < all.size := by omega
        have hmem' : j ∈ Region.ready .any all listed := by
          rw [mem_ready]
          refine ⟨?_, all[j], by simp [hjn], fun e he hb => hlow _ (hc.back j all[j] (by simp [hjn]) e he hb)⟩
          rw [Array.getD_eq_getD_getElem?] at hjl ⊢
          rw [Array.getElem?_eq_getElem (by omega)] at hjl ⊢
          simpa using hjl
        rw [hn] at hmem'; cases hmem'
      · obtain ⟨h1, o, ho, h2⟩ := ready_sound hi
        obtain ⟨hil, hif⟩ := getD_of h1
        have hin : i < all.size := (Array.getElem?_eq_some_iff.1 ho).1
        have him : i < m := by
          refine Classical.byContradiction fun hge => hall1 fun j hj => ?_
          exact anc_listed hclosed (hc.tail i o ho (by omega) j hj) ho h2
        -- who writes what i names: listed just if it stands ahead
        have hwr : ∀ x, namesT all o x = true → ∀ j, j < m → dstAt all j = some x → listed.getD j false = decide (j < i) := by
          intro x hx j hj hd'
          cases hp : all[j]? with
          | none => simp [dstAt, hp] at hd'
          | some p =>
            simp only [dstAt, hp, Option.bind_some] at hd'
            by_cases hji : j < i
            · rcases hc.names i o (by omega) ho j p hji hp with h3 | ⟨h3, _⟩
              · rw [edge_listed h3 h2]; simp [hji]
              · rw [h3 x hd'] at hx; cases hx
            · by_cases e : j = i
              · subst e; rw [hif]; simp
              · rcases hc.names j p (by omega) hp i o (by omega) ho with h3 | ⟨_, h3⟩
                · cases hlj : listed.getD j false with
                  | false => simp; omega
                  | true =>
                    have := edge_listed h3 (hclosed j p hlj hp)
                    rw [hif] at this; cases this
                · rw [h3 x hd'] at hx; cases hx
        have htab_i : ∀ x, namesT all o x = true → tabAt all V t0 (fun j => listed.getD j false) m x = look x (states all V t0 i) := by
          intro x hx
          rw [look_states]
          simp only [tabAt]
          rw [lastW_congr m (fun j hj hd' => hwr x hx j hj hd'), lastW_top m (by omega)]
        have hopnd : ∀ x, x ∈ o.op.operands → ∀ v, ge (states all V t0 i) x = some v → Rep γ H v (a.eval x) := by
          intro x hx v hv
          cases x with
          | tmp y =>
            have hy : namesT all o y = true := by
              simp only [namesT, Bool.or_eq_true]
              exact .inl (.inr (List.any_eq_true.2 ⟨_, Array.mem_toList_iff.2 hx, by simp [hasT]⟩))
            obtain ⟨u, hu, hr⟩ := htab y v (by rw [htab_i y hy]; exact hv)
            simp only [Act.eval, Array.getD_eq_getD_getElem?, hu, Option.getD_some]
            exact hr
          | const c => simp only [ge, Option.some.injEq] at hv; subst hv; exact rep_const γ H c
          | func f => simp only [ge, Option.some.injEq] at hv; subst hv; exact .d _ _ (.fn f [] [] rfl (fun j a u h1 => by simp at h1))
          | global g => simp [ge] at hv
        obtain ⟨hos, hdok⟩ := hstep i o him ho
        -- behind it
        have hnextG : ∀ v γ' H' w', TabOk γ' H' (tabAt all V t0 (fun j => listed.getD j false) m) a.tmps → Rep γ' H' (V i) v →
            St X γ' H' [] (bornAt E (fun j => (listed.setIfInBounds i true).getD j false) σ m) (a.put o.dst v) w' → wpAnyIn (Fr X.ro) 0 X.P .any all Q' fuel (listed.setIfInBounds i true) (a.put o.dst v) w' := by
          intro v γ' H' w' htab' hr sst'
          refine ih _ γ' H' _ w' (by simpa using hs) (fun j hj => ?_) (fun j p hj hp e he hb => ?_) ?_ ?_ sst'
          · rw [getD_set_ne false (by omega)]; exact htail j hj
          · by_cases e' : i = j
            · subst e'
              rw [ho] at hp; simp only [Option.some.injEq] at hp; subst hp
              exact getD_set_true (h2 e he hb)
            · rw [getD_set_ne false e'] at hj
              exact getD_set_true (hclosed j p hj hp e he hb)
          · have hf : ((List.range m).filter fun j => !listed.getD j false).length = ((List.range m).filter fun j => !(listed.setIfInBounds i true).getD j false).length + 1 := by
              have h5 : ∀ (l : List Nat), l.Nodup → i ∈ l → (l.filter fun j => !listed.getD j false).length = (l.filter fun j => !(listed.setIfInBounds i true).getD j false).length + 1 := by
                intro l
                induction l with
                | nil => intro _ h; cases h
                | cons b l ihl =>
                  intro hnd hmem'
                  rw [List.nodup_cons] at hnd
                  by_cases e : i = b
                  · subst e
                    have h6 : (listed.setIfInBounds i true).getD i false = true := by
                      rw [Array.getD_eq_getD_getElem?]; simp [hil]
                    have h7 : (l.filter fun j => !listed.getD j false) = (l.filter fun j => !(listed.setIfInBounds i true).getD j false) := by
                      refine List.filter_congr fun j hj => ?_
                      have hne : i ≠ j := fun e => hnd.1 (e ▸ hj)
                      rw [getD_set_ne false hne]
                    simp only [List.filter_cons, hif, h6, Bool.not_false, Bool.not_true, if_true, h7, List.length_cons, Bool.false_eq_true, if_false]
                  · have h6 := getD_set_ne (listed := listed) false e
                    have h7 := ihl hnd.2 (by rcases List.mem_cons.1 hmem' with h | h; exact absurd h e; exact h)
                    simp only [List.filter_cons, h6]
                    split <;> simp only [List.length_cons, h7]
              exact h5 _ List.nodup_range (List.mem_range.2 him)
            omega
          · -- the table
            intro x b hx
            by_cases hxd : o.dst = some x
            · have hlw : tabAt all V t0 (fun j => (listed.setIfInBounds i true).getD j false) m x = some (V i) := by
                have hnx : namesT all o x = true := by simp [namesT, hxd]
                simp only [tabAt]
                have : lastW all (fun j => (listed.setIfInBounds i true).getD j false) x m = lastW all (fun j => decide (j < i + 1)) x m := by
                  refine lastW_congr m fun j hj hd' => ?_
                  by_cases e : i = j
                  · subst e; rw [Array.getD_eq_getD_getElem?]; simp [hil]
                  · show (listed.setIfInBounds i true).getD j false = _
                    rw [getD_set_ne false e, hwr x hnx j hj hd']
                    simp; omega
                rw [this, lastW_top m (by omega)]
                have hda : dstAt all i = some x := by simp [dstAt, ho, hxd]
                simp [lastW, hda]
              rw [hlw] at hx
              simp only [Option.some.injEq] at hx
              subst hx
              have hlt : x < a.tmps.size := by have := sst.size; rw [hxd] at hdok; simp only [dOk, Nat.blt_eq] at hdok; omega
              exact ⟨v, by rw [hxd]; simp [Act.put, hlt], hr⟩
            · have hlw : tabAt all V t0 (fun j => (listed.setIfInBounds i true).getD j false) m x = tabAt all V t0 (fun j => listed.getD j false) m x := by
                simp only [tabAt]
                rw [lastW_congr m fun j hj hd' => ?_]
                have e : i ≠ j := fun e => by subst e; simp [dstAt, ho] at hd'; exact hxd hd'
                exact getD_set_ne false e
              rw [hlw] at hx
              obtain ⟨u, hu, hr'⟩ := htab' x b hx
              refine ⟨u, ?_, hr'⟩
              cases hod : o.dst with
              | none => simpa [Act.put, hod] using hu
              | some d =>
                have hne : d ≠ x := fun e => hxd (by rw [hod, e])
                simp only [Act.put]
                rw [Array.getElem?_setIfInBounds, if_neg hne]; exact hu
        have hnext : E i = none → ∀ v γ' σ' H' w', Mem w H (fun _ => False) γ' H' σ' w' → Rep γ H' (V i) v → wpAnyIn (Fr X.ro) 0 X.P .any all Q' fuel (listed.setIfInBounds i true) (a.put o.dst v) w' := by
          intro hE v γ' σ' H' w' hm' hr
          refine hnextG v γ H' w' (fun x b hx => let ⟨u, hu, r⟩ := htab x b hx; ⟨u, hu, r.mono hm'.hle⟩) hr ?_
          have h9 := sst.calm (d := o.dst) hm' hdok hr
          rw [bornAt_congr (S' := fun j => listed.getD j false) m (fun j hj hne => by
            have e' : i ≠ j := fun e => by subst e; exact hne hE
            exact getD_set_ne false e')]
          exact h9.wk (Wk.nil _) (Wk.refl _)
        have hmemσ : Mem X.w0 X.H0 X.B γ H σ w := sst.mem.wk (fun x e hx => bornAt_old hx (fun i' y e' hE' => fun hyx => by
          have := (fresh_s (hfr i' y e' hE').1 hx).1
          exact this hyx.symm) m)
        -- its guard
        have hguard : ∀ j b' d b, o.guard = some (j, b') → ((all[j]?).bind (·.dst)) = some d → look d (states all V t0 i) = some (.d (.v (.bool b))) → yielded all a.tmps j = some b := by
          intro j b' d b hg hd' hl
          have hnd : namesT all o d = true := by simp [namesT, hg, hd']
          obtain ⟨u, hu, hr⟩ := htab d _ (by rw [htab_i d hnd]; exact hl)
          have := rep_v hr
          subst this
          simp [yielded, hd', hu]
        have hguardU : ∀ j b' d, o.guard = some (j, b') → ((all[j]?).bind (·.dst)) = some d → look d (states all V t0 i) = some (.tup []) → yielded all a.tmps j = none := by
          intro j b' d hg hd' hl
          have hnd : namesT all o d = true := by simp [namesT, hg, hd']
          obtain ⟨u, hu, hr⟩ := htab d _ (by rw [htab_i d hnd]; exact hl)
          have := rep_undef_eq hr
          subst this
          simp [yielded, hd', hu, undef]
        unfold wpOpIn
        simp only [ho]
        rcases hos with ⟨hE, ⟨hg, hq⟩ | ⟨j, b, d, hg, hd', hl, hq⟩ | ⟨j, b, b', d, hg, hd', hl, hne, hV⟩ | ⟨j, b, d, hg, hd', hl, hV⟩⟩ | ⟨id, en, hg, hnj, hE⟩
        · have hw : Region.wanted o (yielded all a.tmps) = true := by simp [Region.wanted, hg]
          rw [if_pos hw]
          exact ⟨fun _ _ => trivial, hq γ H a w sst.lam hopnd hmemσ _ _ (hnext hE)⟩
        · have hw : Region.wanted o (yielded all a.tmps) = true := by simp [Region.wanted, hg, hguard j b d b hg hd' hl]
          rw [if_pos hw]
          exact ⟨fun _ _ => trivial, hq γ H a w sst.lam hopnd hmemσ _ _ (hnext hE)⟩
        · have hw : Region.wanted o (yielded all a.tmps) = false := by simp [Region.wanted, hg, hguard j b d b' hg hd' hl, hne]
          simp only [hw, Bool.false_eq_true, if_false]
          exact ⟨fun _ _ => trivial, hnext hE undef γ [] H w (sst.mem.refl γ) (by rw [hV]; exact rep_undef)⟩
        · have hw : Region.wanted o (yielded all a.tmps) = false := by simp [Region.wanted, hg, hguardU j b d hg hd' hl]
          simp only [hw, Bool.false_eq_true, if_false]
          exact ⟨fun _ _ => trivial, hnext hE undef γ [] H w (sst.mem.refl γ) (by rw [hV]; exact rep_undef)⟩
        · have hw : Region.wanted o (yielded all a.tmps) = true := by simp [Region.wanted, hg]
          rw [if_pos hw]
          refine ⟨fun _ _ => trivial, ?_⟩
          obtain ⟨bv, bn, bw, hrun, hmn, hrn⟩ := hnj γ H a w hopnd hmemσ
          rw [show (Fr X.ro).round = X.ro from rfl, hrun, Oper.uponIn_value]
          obtain ⟨f2, f3, f4⟩ := hfr i id _ hE
          have hfb : isFresh id [] (bornAt E (fun j => listed.getD j false) σ m) X.pin = true := by
            simp only [isFresh, Bool.and_eq_true, List.all_eq_true] at f2 ⊢
            refine ⟨⟨fun p hp => by simp at hp, fun p hp => ?_⟩, f2.2⟩
            rcases bornAt_mem m hp with h7 | ⟨j, _, h8, h9⟩
            · simpa using f2.1.2 p h7
            · obtain ⟨y, f⟩ := p
              obtain ⟨g1, g2⟩ := f4 j y f (fun e => by subst e; rw [hif] at h8; cases h8) h9
              have : Nat.beq id y = false := by rw [← Bool.not_eq_true, Nat.beq_eq]; exact fun h => g1 h.symm
              simp [this, g2]
          have hnew := sst.new (d := o.dst) hmn hfb hdok hrn
          refine hnextG _ (upd γ id ⟨w.heap.size, bn, fun _ => False⟩) H _ ?_ ?_ ?_
          · intro x b hx
            obtain ⟨u, hu', r⟩ := htab x b hx
            refine ⟨u, hu', rep_upd r ?_⟩
            simp only [tabAt] at hx
            split at hx
            · next j hj =>
              simp only [Option.some.injEq] at hx; subst hx
              obtain ⟨h7, h8, h9⟩ := lastW_spec m j hj
              exact f3 j x h7 (fun e => by subst e; rw [hif] at h8; cases h8) h9
            · exact fresh_t f2 hx
          · exact hrn
          · refine hnew.wk (Wk.nil _) fun x f hx => ?_
            rw [look_cons]
            rcases bornAt_lookup m hx with ⟨j, hjm, hj, hEj⟩ | hx
            · by_cases e' : j = i
              · subst e'
                rw [hE] at hEj
                simp only [Option.some.injEq, Prod.mk.injEq] at hEj
                rw [if_pos hEj.1.symm, hEj.2]
              · have hne := (f4 j x f e' hEj).1
                rw [if_neg hne]
                refine bornAt_look (fun i1 j1 y e1 e2 h1' h2' => Classical.byContradiction fun hne' => (((hfr i1 y e1 h1').2.2 j1 y e2 (fun h => hne' h.symm) h2').1 rfl)) m hjm ?_ hEj
                rw [getD_set_ne false (fun h => e' h.symm)] at hj; exact hj
            · have hne := (fresh_s f2 hx).1
              rw [if_neg hne]
              exact bornAt_old hx (fun i' y e' hE' => fun hyx => by
                have := (fresh_s (hfr i' y e' hE').1 hx).1
                exact this hyx.symm) m

def calmCb (all : Array Oper) (m1 : Nat) : Bool :=
  (List.range all.size).all fun j => match all[j]? with
    | none => true
    | some o => o.after.all (fun e => !Region.binds .any e || Nat.blt e.on j) && (Nat.ble j m1 || (List.range m1).all fun i => ancB all 24 j i) &&
      (!Nat.ble j m1 || (List.range j).all fun i => match all[i]? with
        | none => true
        | some p => edge o i || ((match p.dst with | some x => !namesT all o x | none => true) && (match o.dst with | some x => !namesT all p x | none => true)))
theorem calmCb_R {all : Array Oper} {m1 : Nat} (h : calmCb all m1 = true) : CalmC all m1 := by
  have at' : ∀ j o, all[j]? = some o → _ := fun j o ho => by
    have hj : j < all.size := (Array.getElem?_eq_some_iff.1 ho).1
    have h1 := (List.all_eq_true.1 h) j (List.mem_range.2 hj)
    simp only [ho, Bool.and_eq_true] at h1
    exact h1
  refine ⟨fun j o ho e he hb => ?_, fun j o ho hm i hi => ?_, fun j o hjm ho i p hi hp => ?_⟩
  · obtain ⟨⟨h2, h3⟩, h4⟩ := at' j o ho
    have := (Array.all_eq_true_iff_forall_mem.1 h2) e he
    simp only [hb, Bool.not_true, Bool.false_or, Nat.blt_eq] at this
    exact this
  · obtain ⟨⟨h2, h3⟩, h4⟩ := at' j o ho
    rcases Bool.or_eq_true_iff.1 h3 with h5 | h5
    · simp only [Nat.ble_eq] at h5; omega
    · exact ancB_sound _ _ _ (List.all_eq_true.1 h5 i (List.mem_range.2 hi))
  · obtain ⟨⟨h2, h3⟩, h4⟩ := at' j o ho
    rcases Bool.or_eq_true_iff.1 h4 with h5 | h5
    · have : Nat.ble j m1 = true := by simpa using hjm
      rw [this] at h5; cases h5
    · have h5 := List.all_eq_true.1 h5 i (List.mem_range.2 hi)
      simp only [hp] at h5
      rcases Bool.or_eq_true_iff.1 h5 with h6 | h6
      · exact .inl h6
      · refine .inr ?_
        simp only [Bool.and_eq_true] at h6
        refine ⟨fun x hx => ?_, fun x hx => ?_⟩
        · have := h6.1; simp only [hx] at this; simpa using this
        · have := h6.2; simp only [hx] at this; simpa using this
/-- The last of the head, which some of the tail do not wait for. -/
def FreeO (X : Cx) (ops : Array Oper) (m1 : Nat) (σ : Sg) (t : T) (K : T → Prop) : Prop :=
  ∃ o V, ops[m1]? = some o ∧ o.guard = none ∧ QJ X o t σ V ∧ dOk o.dst X.N = true ∧ V.open = true ∧ K (putT o.dst V t)
theorem WJ.calmC {X : Cx} {id : Nat} {ops : Array Oper} {t : T} {σ : Sg} {RB RA : T → Sg → Prop} {Q' : Exit → Act → World → Prop} (m1 : Nat) (hm : X.P.follows .mixedOrders = true) (hc : CalmC ops m1) (hle : m1 + 1 ≤ ops.size)
    (hendB : ∀ t σ, RB t σ → ∀ γ H a w listed, St X γ H t σ a w → listed.size = ops.size → (∀ j, j < ops.size → listed.getD j false = decide (j < m1)) → wpAnyIn (Fr X.ro) 0 X.P .any ops Q' (ops.size - m1) listed a w)
    (hend : ∀ t σ, RA t σ → ∀ γ H a w listed, St X γ H t σ a w → listed.size = ops.size → (∀ j, j < ops.size → listed.getD j false = decide (j < m1 + 1)) → wpAnyIn (Fr X.ro) 0 X.P .any ops Q' (ops.size - (m1 + 1)) listed a w)
    (h : CB X ops σ (fun t' σ' => RB t' σ' ∧ FreeO X ops m1 σ t' fun t'' => RA t'' σ') (ops.toList.take m1) t []) : ∀ γ H a w, St X γ H t σ a w → (Code.region id ops true).wpIn (Fr X.ro) 0 X.P Q' a w := by
  intro γ H a w s
  refine wpIn_region_any hm ?_
  have hlen : (ops.toList.take m1).length = m1 := by simp; omega
  have tb := CB.table (ops.toList.take m1) 0 t [] (fun j hj => by rw [hlen] at hj; rw [Nat.zero_add, List.getElem?_take, if_pos hj]; simp) h
  unfold Tabled at tb
  obtain ⟨V, E, h1, ⟨t', h2, h3, o1, V1, g1, g2, g3, g4, g5, g6⟩, ha, hb, hc', _⟩ := tb
  simp only [hlen, Nat.zero_add] at h1 h2 h3 ha hb hc' g6
  rw [statesFrom_zero] at h2
  have hst : ∀ i, i ≤ m1 → states ops (fun i => if i < m1 then V i else V1) t i = states ops V t i := fun i => by
    induction i with
    | zero => intro _; rfl
    | succ i ih => intro hi; simp only [states]; rw [ih (by omega), if_pos (by omega)]
  have s' : St X γ H t σ a { w with drawn := w.drawn + 1 } := ⟨s.lam, s.round, s.defers, s.size, s.pinned, s.tmp, s.mem.drew⟩
  have hall : ∀ j, (Array.replicate ops.size false).getD j false = false := fun j => by
    rw [Array.getD_eq_getD_getElem?, Array.getElem?_replicate]; split <;> rfl
  have hbB : bornAt (fun i => if i < m1 then E i else none) (fun _ => true) σ m1 = bornFrom E 0 [] m1 ++ σ := by
    rw [bornAt_all]
    congr 1
    exact bornFrom_congr m1 fun i _ hi => if_pos (by omega)
  have hd1 : dstAt ops m1 = o1.dst := by simp [dstAt, g1]
  refine calm_anyC (m := m1 + 1) (m1 := m1) (t0 := t) (σ := σ) rfl hc hle (V := fun i => if i < m1 then V i else V1) (E := fun i => if i < m1 then E i else none) (by simp) (fun γ H a w lst st hls hlst => ?_) (fun i o hi ho => ?_) (fun i id e hE => ?_) (fun γ H a w lst st hls hlst => ?_) ops.size _ γ H a _ (by simp) (fun j _ => hall j) (fun i o hi => by rw [hall i] at hi; cases hi) ?_ ?_ ?_
  · rw [hbB, hst m1 (Nat.le_refl _)] at st
    exact hendB _ _ h3 γ H a w lst (st.wk h2 (Wk.refl _)) hls hlst
  · rw [hst i (by omega)]
    by_cases him : i < m1
    · have := h1 i o him ho
      rw [statesFrom_zero] at this
      simp only [if_pos him]; exact this
    · have e : i = m1 := by omega
      subst e
      rw [g1] at ho; cases ho
      simp only [if_neg him]
      exact ⟨.inl ⟨rfl, .inl ⟨g2, g3.wk h2 (Wk.refl _)⟩⟩, g4⟩
  · have him : i < m1 := by
      refine Classical.byContradiction fun hge => ?_
      rw [if_neg hge] at hE; cases hE
    simp only [if_pos him] at hE
    have g2 := ha i id e him hE
    refine ⟨g2, fun j x hj hne hx => ?_, fun j id' e' hne hE' => ?_⟩
    · by_cases hj' : j < m1
      · simp only [if_pos hj']; exact hb i j x id e him hj' hne hE hx
      · simp only [if_neg hj']; exact has2_open g5
    · by_cases hj : j < m1
      · rw [if_pos hj] at hE'
        exact hc' i j id e id' e' him hj hne hE hE'
      · rw [if_neg hj] at hE'; cases hE'
  · have hbe : bornAt (fun i => if i < m1 then E i else none) (fun _ => true) σ (m1 + 1) = bornFrom E 0 [] m1 ++ σ := by
      rw [← hbB]
      simp only [bornAt, Nat.lt_irrefl, if_false]
    have hse : states ops (fun i => if i < m1 then V i else V1) t (m1 + 1) = putT o1.dst V1 (states ops V t m1) := by
      simp only [states, Nat.lt_irrefl, if_false]
      rw [hst m1 (Nat.le_refl _), hd1]
    rw [hbe, hse] at st
    exact hend _ _ g6 γ H a w lst (st.wk h2.put (Wk.refl _)) hls hlst
  · have : ((List.range (m1 + 1)).filter fun j => !(Array.replicate ops.size false).getD j false) = List.range (m1 + 1) := List.filter_eq_self.2 fun j _ => by rw [hall j]; rfl
    rw [this, List.length_range]; omega
  · intro x b hx
    have : lastW ops (fun j => (Array.replicate ops.size false).getD j false) x (m1 + 1) = none := by
      have h0 : ∀ k, lastW ops (fun _ => false) x k = none := fun k => by
        induction k with
        | zero => rfl
        | succ k ih => simp [lastW, ih]
      rw [lastW_congr (S' := fun _ => false) (m1 + 1) (fun j _ _ => hall j)]; exact h0 _
    simp only [tabAt, this] at hx
    exact s.tmp x b hx
  · have : bornAt (fun i => if i < m1 then E i else none) (fun j => (Array.replicate ops.size false).getD j false) σ (m1 + 1) = σ := by
      have h0 : ∀ k, bornAt (fun i => if i < m1 then E i else none) (fun _ => false) σ k = σ := fun k => by
        induction k with
        | zero => rfl
        | succ k ih => simp only [bornAt, ih]; split <;> simp
      rw [bornAt_congr (S' := fun _ => false) (m1 + 1) (fun j _ _ => hall j)]; exact h0 _
    rw [this]; exact s'.wk (Wk.nil _) (Wk.refl _)
theorem CB.imp {X : Cx} {all : Array Oper} {σ : Sg} {Q Q' : T → Sg → Prop} (hQ : ∀ t σ, Q t σ → Q' t σ) : ∀ (rest : List Oper) (t : T) (bs : Sg), CB X all σ Q rest t bs → CB X all σ Q' rest t bs
  | [], t, bs, ⟨t', h1, h2⟩ => ⟨t', h1, hQ _ _ h2⟩
  | o :: rest, t, bs, h => by
    rcases h with ⟨V, h1, h2, h3, h4⟩ | ⟨id, V, e, hd, hg, hn, hN, hf, hb, hv, h4⟩
    · exact .inl ⟨V, h1, h2, h3, CB.imp hQ rest _ _ h4⟩
    · exact .inr ⟨id, V, e, hd, hg, hn, hN, hf, hb, hv, CB.imp hQ rest _ _ h4⟩
/-- As FreeO, reckoned. -/
def freeW (X : Cx) (ops : Array Oper) (m1 : Nat) (σ : Sg) (t : T) (K : T → Prop) : Prop := match ops[m1]? with
  | some o => match o.guard with
    | none => qw X o t σ (fun V => match dOk o.dst X.N && V.open with | true => K (putT o.dst V t) | false => False) False
    | some _ => False
  | none => False
theorem freeW_sound {X : Cx} {ops : Array Oper} {m1 : Nat} {σ : Sg} {t : T} {K : T → Prop} (h : freeW X ops m1 σ t K) : FreeO X ops m1 σ t K := by
  unfold freeW at h
  split at h
  · next o ho =>
    split at h
    · next hg =>
      rcases qw_sound h with ⟨V, hq, hk⟩ | h
      · split at hk
        · next hb =>
          simp only [Bool.and_eq_true] at hb
          exact ⟨o, V, ho, hg, hq, hb.1, hb.2, hk⟩
        · exact hk.elim
      · exact h.elim
    · exact h.elim
  · exact h.elim
/-- As RegP.mix, but some of the tail do not wait for the head's last operation (m1). -/
theorem RegP.mixF {X : Cx} {id : Nat} {ops : Array Oper} {t : T} {σ : Sg} {Q : T → Sg → Prop} (m1 : Nat) (hm : X.P.follows .mixedOrders = true) (hc : (calmCb ops m1 && Nat.ble (m1 + 1) ops.size) = true)
    (h : vB X ops σ (fun t' σ' => vO X ops Q (ops.size - m1) (trues m1 (falses (ops.size - m1))) t' σ' ∧ freeW X ops m1 σ t' fun t'' => vO X ops Q (ops.size - (m1 + 1)) (trues (m1 + 1) (falses (ops.size - (m1 + 1)))) t'' σ') (ops.toList.take m1) t []) : RegP X id ops t σ Q := by
  intro Q' hQ
  simp only [Bool.and_eq_true, Nat.ble_eq] at hc
  have key : ∀ m, m ≤ ops.size → ∀ t σ, vO X ops Q (ops.size - m) (trues m (falses (ops.size - m))) t σ → ∀ γ H a w listed, St X γ H t σ a w → listed.size = ops.size → (∀ j, j < ops.size → listed.getD j false = decide (j < m)) → wpAnyIn (Fr X.ro) 0 X.P .any ops (Post X Q') (ops.size - m) listed a w := fun m hle t σ h3 γ H a w lst hst hls hlst => by
    have e : lst = (trues m (falses (ops.size - m))).toArray := by
      rw [trues_eq, falses_eq]
      apply Array.ext
      · simp [hls]; omega
      · intro j h1 h2
        have hj := hlst j (by omega)
        rw [Array.getD_eq_getD_getElem?, Array.getElem?_eq_getElem h1, Option.getD_some] at hj
        rw [hj, List.getElem_toArray, List.getElem_append]
        split
        · next h3 => simp at h3; simp [h3]
        · next h3 => simp at h3; simp; omega
    rw [e]
    exact vO_sound (Q := Q) (Q' := Post X Q') (fun γ H t σ a w s q => ⟨γ, H, t, σ, s, hQ t σ q⟩) (ops.size - m) _ t σ h3 γ H a w hst
  refine WJ.calmC m1 hm (calmCb_R hc.1) hc.2 (key m1 (by omega)) (key (m1 + 1) hc.2) ?_
  exact CB.imp (fun t σ h => ⟨h.1, freeW_sound h.2⟩) _ _ _ (vB_sound _ _ _ h)
end Go.Gv
end
section
open Go Go.Gv
attribute [local irreducible] Go.Gv.WJ Go.Gv.OpJ Go.Gv.QJ Go.Gv.Spl Go.Gv.Req Go.Gv.IdxP Go.Gv.RegP Go.Gv.FinP Go.Gv.CellP Go.Gv.CellsP Go.Gv.ArrP Go.Gv.ArrsP Go.Gv.DropP Go.Gv.ByteP Go.Gv.StoreP
set_option maxRecDepth 100000
namespace Go.Proofs.E
attribute [local irreducible] elems
theorem nextIx_none (l : List OP) : ∀ (R : List OP), (∀ x, x ∈ R → wrongO l x = 6) → nextIx l R = -1
  | [], _ => rfl
  | o :: r, h => by
    have h1 := h o (List.mem_cons_self ..)
    have h2 := nextIx_none l r fun x hx => h x (List.mem_cons_of_mem _ hx)
    rw [nextIx, if_neg (fun e => e h1), h2]; rfl
theorem nextIx_at (l : List OP) : ∀ (R : List OP) (i : Nat) (x : OP), R[i]? = some x → (∀ y, y ∈ R.take i → wrongO l y = 6) → wrongO l x ≠ 6 → nextIx l R = i
  | [], i, x, h, _, _ => by simp at h
  | o :: r, 0, x, h, _, hw => by
    cases (Option.some.inj h)
    rw [nextIx, if_pos hw]; rfl
  | o :: r, i + 1, x, h, hb, hw => by
    have h1 := hb o (by simp)
    have h2 := nextIx_at l r i x (by simpa using h) (fun y hy => hb y (by simp [hy])) hw
    rw [nextIx, if_neg (fun e => e h1), h2, if_neg (by omega)]; omega
theorem nextIx_lt (l : List OP) : ∀ R : List OP, nextIx l R < R.length ∧ -1 ≤ nextIx l R
  | [] => by simp [nextIx]
  | o :: r => by
    have h := nextIx_lt l r
    rw [nextIx, List.length_cons]
    split
    · omega
    · split <;> omega
theorem nextR_at {l R : List OP} {i : Nat} (h : nextIx l R = i) : nextR l R = R.take i ++ R.drop (i + 1) := by unfold nextR; rw [h, if_neg (by omega), Int.toNat_natCast]
theorem nextO_at {l R : List OP} {i : Nat} {x : OP} (h : nextIx l R = i) (hx : R[i]? = some x) : nextO l R = x := by unfold nextO; rw [h, if_neg (by omega), Int.toNat_natCast, List.getD_eq_getElem?_getD, hx]; rfl
theorem six_snoc {l R : List OP} {i : Nat} {x : OP} (hx : R[i]? = some x) (h : ∀ y, y ∈ R.take i → wrongO l y = 6) (hw : wrongO l x = 6) : ∀ y, y ∈ R.take (i + 1) → wrongO l y = 6 := fun y hy => by
  rw [take_snoc hx] at hy
  rcases List.mem_append.1 hy with h1 | h1
  · exact h y h1
  · cases List.mem_singleton.1 h1; exact hw
theorem RNext_c (l R : List OP) (hl : l.length ≤ 1000000) (hR : R.length ≤ 1000000) : Cv 110 [.d (.sl 6 (R.map opD)), .d (.sl 6 (l.map opD))] (iv (nextIx l R)) := by
  refine Ct.of_vc Tryz.f110 Tryz.func110 rfl rfl fun w H B g0 => ?_
  refine WJ.loopK (V := Nat) (fun i => [(5, iv i)]) (fun _ => []) [] (fun i => R.length - i) (fun i => i ≤ R.length ∧ ∀ x, x ∈ R.take i → wrongO l x = 6) 0 ⟨by omega, fun x hx => by simp at hx⟩ (by repeat' (first | exact trivial | exact rfl | refine And.intro ?_ ?_)) (by repeat' (first | exact trivial | exact rfl | refine And.intro ?_ ?_)) ?_
  rintro i ⟨hi, hb⟩
  refine Spl.of (fun h1 => ?_) (fun h1 => ?_)
  · have hlt : i < R.length := by have := of_decide_eq_true h1; simp at this; omega
    have hx : R[i]? = some R[i] := by simp
    generalize R[i] = x at hx
    have hrw := RWrong_c l x hl
    (repeat (first | refine Spl.t rfl ?_ | refine Spl.f rfl ?_))
    refine IdxP.of (opD x) (by omega) (by simp [hx]) ?_
    refine OpJ.callV hrw (fun _ _ => rfl) rfl rfl rfl ?_
    refine Spl.of (fun h2 => ?_) (fun h2 => ?_)
    · have h2 : wrongO l x ≠ 6 := by simpa using h2
      (repeat (first | refine Spl.t rfl ?_ | refine Spl.f rfl ?_))
      exact FinP.open rfl (congrArg iv (nextIx_at l R i x hx hb h2).symm)
    · have h2 : wrongO l x = 6 := by simpa using h2
      (repeat (first | refine Spl.t rfl ?_ | refine Spl.f rfl ?_))
      exact ⟨i + 1, ⟨by omega, six_snoc hx hb h2⟩, by omega, ⟨some_iv (wrap_id _ (by omega) (by omega)), trivial⟩, (by repeat' (first | exact trivial | exact rfl | refine And.intro ?_ ?_)), (by repeat' (first | exact trivial | exact rfl | refine And.intro ?_ ?_)), (by repeat' (first | exact trivial | exact rfl | refine And.intro ?_ ?_))⟩
  · have h1 := of_decide_eq_false h1
    simp at h1
    (repeat (first | refine Spl.t rfl ?_ | refine Spl.f rfl ?_))
    rw [List.take_of_length_le (by omega)] at hb
    exact FinP.open rfl (congrArg iv (nextIx_none l R hb).symm)
theorem wo_row (R : List OP) (i : Nat) (k : Int) (hk : k = i + 1) : ([] : List (List D)) ++ List.drop (Int.toNat 0) (List.take ((i : Int)).toNat (R.map opD)) ++ List.drop k.toNat (List.take ((R.map opD).length : Int).toNat (R.map opD)) = (R.take i ++ R.drop (i + 1)).map opD := by
  subst hk
  rw [Int.toNat_natCast, Int.toNat_natCast, List.take_length, show ((i : Int) + 1).toNat = i + 1 from by omega, List.nil_append, List.map_append, List.map_take, List.map_drop]; rfl
theorem take_app3 {α : Type} (A B C : List α) : List.take (A.length + B.length + C.length) (A ++ B ++ C) = A ++ B ++ C := List.take_of_length_le (by rw [List.length_append, List.length_append]; exact Nat.le_refl _)
theorem len_app3 {α : Type} (A B C : List α) : A.length + B.length + C.length ≤ (A ++ B ++ C).length := by rw [List.length_append, List.length_append]; exact Nat.le_refl _
theorem wo_len (R : List OP) (hR : R.length ≤ 1000000) (i k : Int) : 0 + (List.drop (Int.toNat 0) (List.take i.toNat (R.map opD))).length + (List.drop k.toNat (List.take ((R.map opD).length : Int).toNat (R.map opD))).length ≤ 2000000 := by
  rw [List.length_drop, List.length_drop, List.length_take, List.length_take, List.length_map]; omega
theorem Without_c (R : List OP) (i : Nat) (hR : R.length ≤ 1000000) (hi : i < R.length) : Cv 111 [.d (.sl 6 (R.map opD)), iv i] (.d (.sl 6 ((R.take i ++ R.drop (i + 1)).map opD))) := by
  refine Ct.of_vc Tryz.f111 Tryz.func111 rfl rfl fun w H B g0 => ?_
  refine RegP.mix 9 rfl (by decide +kernel) ?_
  refine Req.of ⟨by omega, by omega, by rw [List.length_map]; omega⟩ ?_
  refine QuietP.born (Go.Gv.B.appF (i := 9) rfl (.full _ _) (FlatQ.data rfl rfl) rfl (by show 0 + _ ≤ _; rw [List.length_drop, List.length_take, List.length_map]; omega) (.inr rfl)) ?_
  (repeat' (first | exact trivial | refine And.intro ?_ ?_))
  have hwr : IntKind.i64.wrap ((i : Int) + 1) = i + 1 := wrap_id _ (by omega) (by omega)
  refine Req.of ⟨by rw [hwr]; omega, by rw [hwr, List.length_map]; omega, by rw [List.length_map]; omega⟩ ?_
  (repeat' (first | exact trivial | refine And.intro ?_ ?_))
  refine Req.of ⟨by rw [List.length_append], Nat.le_trans (wo_len R hR i _) (by decide)⟩ ?_
  (repeat' (first | exact trivial | refine And.intro ?_ ?_))
  refine FinP.pubA 9 rfl (len_app3 _ _ _) (Nat.le_trans (wo_len R hR i _) (by decide)) (FinP.open rfl ?_)
  exact congrArg (fun r => AV.d (.sl 6 r)) ((take_app3 _ _ _).trans (wo_row R i _ hwr))
theorem Next_c {s : SS} {l : List OP} (h : isS s l) (R : List OP) (hR : R.length ≤ 1000000) : Cv 60 [rmv R, stv s] (.tup [rmv (nextR l R), opv (nextO l R), bv (decide (0 ≤ nextIx l R))]) := by
  refine Ct.of_wv Tryz.f60 Tryz.func60 rfl rfl fun w H B g0 => ?_
  try refine WJ.cut ?_
  (first | refine Sq.go ?_ | refine vL_nil (Sq.go ?_) | skip)
  try refine WJ.cut ?_
  refine WJ.loopK (V := Nat) (fun i => [(15, iv i)]) (fun _ => []) [] (fun i => R.length - i) (fun i => i ≤ R.length ∧ ∀ x, x ∈ R.take i → wrongO l x = 6) 0 ⟨by omega, fun x hx => by simp at hx⟩ (by repeat' (first | exact trivial | exact rfl | refine And.intro ?_ ?_)) (by repeat' (first | exact trivial | exact rfl | refine And.intro ?_ ?_)) ?_
  rintro i ⟨hi, hb⟩
  refine Spl.of (fun h1 => ?_) (fun h1 => ?_)
  · have hlt : i < R.length := by have := of_decide_eq_true h1; simp at this; omega
    have hx : R[i]? = some R[i] := by simp
    generalize R[i] = x at hx
    have hap := Apply_c h x
    (repeat (first | refine Spl.t rfl ?_ | refine Spl.f rfl ?_))
    refine IdxP.of (opD x) (by omega) (by simp [hx]) ?_
    (first | refine Sq.go ?_ | refine vL_nil (Sq.go ?_) | skip)
    try refine WJ.cut ?_
    refine OpJ.callV hap (fun _ _ => rfl) rfl rfl rfl ?_
    (first | refine Sq.go ?_ | refine vL_nil (Sq.go ?_) | skip)
    try refine WJ.cut ?_
    refine Spl.of (fun h2 => ?_) (fun h2 => ?_)
    · have h2 : wrongO l x ≠ 6 := by simpa using h2
      have hix := nextIx_at l R i x hx hb h2
      (repeat (first | refine Spl.t rfl ?_ | refine Spl.f rfl ?_))
      refine RegP.mixF 12 rfl (by decide +kernel) ?_
      refine Req.of ⟨by omega, by omega, by rw [List.length_map]; omega, rfl⟩ ?_
      have hwr : IntKind.i64.wrap ((i : Int) + 1) = i + 1 := wrap_id _ (by omega) (by omega)
      refine Req.of ⟨by rw [hwr]; omega, by rw [hwr, List.length_map]; omega, by rw [List.length_map]; omega⟩ ?_
      refine QuietP.of (QJ.appG rfl (.full _ _) (FlatQ.data rfl rfl) rfl (Nat.le_trans (Nat.le_trans (Nat.add_le_add_right (Nat.le_add_left _ 0) _) (wo_len R hR i _)) (by decide))) ?_
      (repeat' (first | exact trivial | refine And.intro ?_ ?_))
      all_goals (refine .out (by simp) ?_; refine FinP.open rfl ?_; rw [nextR_at hix, nextO_at hix hx, hix, decide_eq_true (Int.natCast_nonneg i)])
      all_goals exact congrArg (fun r => AV.tup [.agg [.d (.sl 6 r)], opv x, bv true]) (wo_row R i _ hwr)
    · have h2 : wrongO l x = 6 := by simpa using h2
      (repeat (first | refine Spl.t rfl ?_ | refine Spl.f rfl ?_))
      (first | refine Sq.go ?_ | refine vL_nil (Sq.go ?_) | skip)
      try refine WJ.cut ?_
      exact ⟨i + 1, ⟨by omega, six_snoc hx hb h2⟩, by omega, ⟨some_iv (wrap_id _ (by omega) (by omega)), trivial⟩, (by repeat' (first | exact trivial | exact rfl | refine And.intro ?_ ?_)), (by repeat' (first | exact trivial | exact rfl | refine And.intro ?_ ?_)), (by repeat' (first | exact trivial | exact rfl | refine And.intro ?_ ?_))⟩
  · have h1 := of_decide_eq_false h1
    simp at h1
    rw [List.take_of_length_le (by omega)] at hb
    have hix := nextIx_none l R hb
    (repeat (first | refine Spl.t rfl ?_ | refine Spl.f rfl ?_))
    (first | refine Sq.go ?_ | refine vL_nil (Sq.go ?_) | skip)
    try refine vc_sound _ _ _ _ ?_
    refine FinP.open rfl ?_
    unfold nextR nextO
    rw [hix]; rfl
end Go.Proofs.E
end
section
open Go Go.Gv
attribute [local irreducible] Go.Gv.WJ Go.Gv.OpJ Go.Gv.QJ Go.Gv.Spl Go.Gv.Req Go.Gv.IdxP Go.Gv.RegP Go.Gv.FinP Go.Gv.CellP Go.Gv.CellsP Go.Gv.ArrP Go.Gv.ArrsP Go.Gv.DropP Go.Gv.ByteP Go.Gv.StoreP
set_option maxRecDepth 100000
namespace Go.Proofs.E
attribute [local irreducible] elems
end Go.Proofs.E
end
section
namespace Go.Gv.Fl
open Ieee
set_option exponentiation.threshold 2000
/-- A whole number's word. -/
def fl (z : Int) : Nat := double.write (.number (decide (z < 0)) z.natAbs 0)

theorem log2_lt {n k : Nat} (h0 : n ≠ 0) (h : n < 2 ^ k) : n.log2 < k := (Nat.log2_lt h0).2 h
theorem log2_mul (n k : Nat) (h : n ≠ 0) : (n * 2 ^ k).log2 = n.log2 + k := by
  induction k with
  | zero => simp
  | succ k ih =>
    rw [Nat.pow_succ, ← Nat.mul_assoc, Nat.mul_comm (n * 2 ^ k) 2, Nat.log2_two_mul (Nat.mul_ne_zero h (Nat.ne_of_gt (Nat.two_pow_pos k))), ih]; omega

theorem least : double.leastPlace = -1074 := by decide
theorem binade : double.binade = 2 ^ 52 := rfl
theorem sw : double.signWeight = 2 ^ 63 := rfl
theorem inf : double.infRung = 2047 * 2 ^ 52 := by decide
/-- What is written of mag·2^place, if that is a whole number z below 2^53. -/
theorem nearest_int (neg : Bool) (mag z : Nat) (place : Int) (hp : -1074 ≤ place) (hz : 0 < z) (hz' : z < 2 ^ 53) (h : mag * 2 ^ (place + 1074).toNat = z * 2 ^ 1074) :
    double.nearest neg mag place = double.word neg ((1022 + z.log2) * 2 ^ 52 + z * 2 ^ (52 - z.log2)) := by
  have hz0 : z ≠ 0 := by omega
  have hm0 : mag ≠ 0 := fun e => by
    subst e; rw [Nat.zero_mul] at h
    have := Nat.mul_pos hz (Nat.two_pow_pos 1074); omega
  have hl : z.log2 ≤ 52 := by have := log2_lt hz0 hz'; omega
  have hlog : mag.log2 + (place + 1074).toNat = z.log2 + 1074 := by
    rw [← log2_mul mag _ hm0, h, log2_mul z _ hz0]
  unfold Format.nearest
  rw [if_neg hm0]
  simp only [least]
  have hlast : max (place + (mag.log2 : Int) - (double.fractionBits : Nat)) (-1074) = ((z.log2 : Nat) : Int) - 52 := by
    have : (double.fractionBits : Int) = 52 := rfl
    omega
  rw [hlast]
  have hkept : Toward.even.cut neg (mag <<< (place - (((z.log2 : Nat) : Int) - 52)).toNat) ((((z.log2 : Nat) : Int) - 52) - place).toNat = z * 2 ^ (52 - z.log2) := by
    by_cases hc : ((z.log2 : Nat) : Int) - 52 ≤ place
    · have e1 : (((z.log2 : Nat) : Int) - 52 - place).toNat = 0 := by omega
      rw [e1]
      have e2 : mag <<< (place - (((z.log2 : Nat) : Int) - 52)).toNat = z * 2 ^ (52 - z.log2) := by
        rw [Nat.shiftLeft_eq]
        have : mag * 2 ^ (place - (((z.log2 : Nat) : Int) - 52)).toNat * 2 ^ (1022 + z.log2) = z * 2 ^ (52 - z.log2) * 2 ^ (1022 + z.log2) := by
          rw [Nat.mul_assoc, ← Nat.pow_add, Nat.mul_assoc, ← Nat.pow_add, show (place - (((z.log2 : Nat) : Int) - 52)).toNat + (1022 + z.log2) = (place + 1074).toNat by omega, show 52 - z.log2 + (1022 + z.log2) = 1074 by omega]
          exact h
        exact Nat.eq_of_mul_eq_mul_right (Nat.two_pow_pos _) this
      rw [e2]
      unfold Toward.cut
      simp [Nat.mod_one]
    · have e1 : (place - (((z.log2 : Nat) : Int) - 52)).toNat = 0 := by omega
      rw [e1, Nat.shiftLeft_zero]
      generalize hd : (((z.log2 : Nat) : Int) - 52 - place).toNat = d
      have hmag : mag = z * 2 ^ (52 - z.log2) * 2 ^ d := by
        have : mag * 2 ^ (place + 1074).toNat = z * 2 ^ (52 - z.log2) * 2 ^ d * 2 ^ (place + 1074).toNat := by
          rw [Nat.mul_assoc, Nat.mul_assoc, ← Nat.pow_add, ← Nat.pow_add, show 52 - z.log2 + (d + (place + 1074).toNat) = 1074 by omega]
          exact h
        exact Nat.eq_of_mul_eq_mul_right (Nat.two_pow_pos _) this
      have hk : d ≤ mag.log2 := by
        rw [hmag, log2_mul _ _ (Nat.mul_ne_zero hz0 (Nat.ne_of_gt (Nat.two_pow_pos _)))]; omega
      unfold Toward.cut
      rw [Nat.min_eq_left (by omega), Nat.one_shiftLeft]
      have hr : mag % 2 ^ d = 0 := by rw [hmag]; exact Nat.mul_mod_left _ _
      have hq : mag / 2 ^ d = z * 2 ^ (52 - z.log2) := by rw [hmag]; exact Nat.mul_div_cancel _ (Nat.two_pow_pos _)
      simp only [hr, hq]
      have : ¬ (2 ^ d < 2 * 0) := by omega
      have h2 : (2 ^ d == 2 * 0) = false := beq_eq_false_iff_ne.2 (Nat.ne_of_gt (Nat.two_pow_pos d))
      simp [h2]
  rw [hkept]
  have hb : z * 2 ^ (52 - z.log2) < 2 ^ 53 := by
    have : z < 2 ^ (z.log2 + 1) := Nat.lt_log2_self
    calc z * 2 ^ (52 - z.log2) < 2 ^ (z.log2 + 1) * 2 ^ (52 - z.log2) := (Nat.mul_lt_mul_right (Nat.two_pow_pos _)).2 this
      _ = 2 ^ 53 := by rw [← Nat.pow_add]; congr 1; omega
  have e3 : ((((z.log2 : Nat) : Int) - 52) - -1074).toNat = 1022 + z.log2 := by omega
  have hmin : min ((1022 + z.log2) * 2 ^ 52 + z * 2 ^ (52 - z.log2)) (2047 * 2 ^ 52) = (1022 + z.log2) * 2 ^ 52 + z * 2 ^ (52 - z.log2) := by
    have : (1022 + z.log2) * 2 ^ 52 ≤ 1074 * 2 ^ 52 := Nat.mul_le_mul_right _ (by omega)
    have hle : (1022 + z.log2) * 2 ^ 52 + z * 2 ^ (52 - z.log2) ≤ 2047 * 2 ^ 52 := Nat.le_trans (Nat.add_le_add this (Nat.le_of_lt hb)) (by decide)
    exact Nat.min_eq_left hle
  rw [e3, inf, binade]
  exact congrArg (double.word neg) hmin

/-- A word that stands for a whole number. -/
def Is (d : Datum) (z : Int) : Prop := ∃ s m i, d = .number s m i ∧ -104 ≤ i ∧ i ≤ 64 ∧ (m : Int) * 2 ^ (i + 1074).toNat * (if s then -1 else 1) = z * 2 ^ 1074
theorem read_word (neg : Bool) (L k : Nat) (hL : L ≤ 1074) (hk : 2 ^ 52 ≤ k) (hk' : k < 2 ^ 53) : double.read (double.word neg (L * 2 ^ 52 + k)) = .number neg k (L - 1074) := by
  have hr : L * 2 ^ 52 + k < 2047 * 2 ^ 52 := by
    have : L * 2 ^ 52 ≤ 1074 * 2 ^ 52 := Nat.mul_le_mul_right _ hL
    omega
  have hw : double.word neg (L * 2 ^ 52 + k) / 2 ^ 63 % 2 = neg.toNat ∧ double.word neg (L * 2 ^ 52 + k) % 2 ^ 63 = L * 2 ^ 52 + k := by
    unfold Format.word
    rw [sw]
    cases neg with
    | true => simp only [if_true, Bool.toNat_true]; omega
    | false => simp only [Bool.false_eq_true, if_false, Bool.toNat_false]; omega
  have e1 : (L * 2 ^ 52 + k) % 2 ^ 52 = k - 2 ^ 52 := by omega
  have e2 : (L * 2 ^ 52 + k) / 2 ^ 52 = L + 1 := by omega
  have hneg : (neg.toNat == 1) = neg := by cases neg <;> rfl
  have n1 : ¬ (L * 2 ^ 52 + k < 2 ^ 52) := by omega
  have n2 : 2 ^ 52 + (k - 2 ^ 52) = k := by omega
  have n3 : (-1074 : Int) + ((L + 1 - 1 : Nat) : Int) = (L : Int) - 1074 := by omega
  simp only [Format.read, sw, hw.1, hw.2, least, binade, inf, n1, if_false, hr, if_true, e1, e2, hneg, n2, n3]
theorem fl_pos (z : Nat) (h : 0 < z) (h' : z < 2 ^ 53) (neg : Bool) : double.write (.number neg z 0) = double.word neg ((1022 + z.log2) * 2 ^ 52 + z * 2 ^ (52 - z.log2)) :=
  nearest_int neg z z 0 (by decide) h h' rfl
theorem kept_range (z : Nat) (h : 0 < z) (h' : z < 2 ^ 53) : z.log2 ≤ 52 ∧ 2 ^ 52 ≤ z * 2 ^ (52 - z.log2) ∧ z * 2 ^ (52 - z.log2) < 2 ^ 53 := by
  have hz0 : z ≠ 0 := by omega
  have hl : z.log2 ≤ 52 := by have := log2_lt hz0 h'; omega
  have h1 : z < 2 ^ (z.log2 + 1) := Nat.lt_log2_self
  have h2 : 2 ^ z.log2 ≤ z := Nat.log2_self_le hz0
  refine ⟨hl, ?_, ?_⟩
  · calc 2 ^ 52 = 2 ^ z.log2 * 2 ^ (52 - z.log2) := by rw [← Nat.pow_add]; congr 1; omega
      _ ≤ _ := Nat.mul_le_mul_right _ h2
  · calc z * 2 ^ (52 - z.log2) < 2 ^ (z.log2 + 1) * 2 ^ (52 - z.log2) := (Nat.mul_lt_mul_right (Nat.two_pow_pos _)).2 h1
      _ = 2 ^ 53 := by rw [← Nat.pow_add]; congr 1; omega
theorem zero_word : fl 0 = 0 := by decide
theorem read_zero : double.read 0 = .number false 0 (-1074) := by decide
theorem fl_ne {z : Int} (h : z ≠ 0) (h' : z.natAbs < 2 ^ 53) : fl z = double.word (decide (z < 0)) ((1022 + z.natAbs.log2) * 2 ^ 52 + z.natAbs * 2 ^ (52 - z.natAbs.log2)) := fl_pos z.natAbs (by omega) h' _
theorem read_fl {z : Int} (h : z ≠ 0) (h' : z.natAbs < 2 ^ 53) : double.read (fl z) = .number (decide (z < 0)) (z.natAbs * 2 ^ (52 - z.natAbs.log2)) ((z.natAbs.log2 : Int) - 52) := by
  obtain ⟨k1, k2, k3⟩ := kept_range z.natAbs (by omega) h'
  rw [fl_ne h h', read_word _ _ _ (by omega) k2 k3]
  congr 1
  omega
/-- What a number of the shape s·m·2^i stands for, in units of 2^-1074. -/
def un (s : Bool) (m : Nat) (i : Int) : Int := Ieee.signed s m (i + 1074).toNat
theorem signed_eq (s : Bool) (m k : Nat) : Ieee.signed s m k = (if s then -1 else 1) * ((m : Int) * 2 ^ k) := by
  unfold Ieee.signed
  cases s <;> simp [Nat.shiftLeft_eq]
theorem read_un {a : Int} (h' : a.natAbs < 2 ^ 53) : ∃ s m i, double.read (fl a) = .number s m i ∧ -1074 ≤ i ∧ i ≤ 0 ∧ un s m i = a * 2 ^ 1074 ∧ s = decide (a < 0) ∧ (a ≠ 0 → m = a.natAbs * 2 ^ (-i).toNat ∧ -52 ≤ i) ∧ (a = 0 → m = 0) := by
  by_cases h : a = 0
  · subst h
    refine ⟨false, 0, -1074, ?_, by decide, by decide, ?_, rfl, fun h => absurd rfl h, fun _ => rfl⟩
    · rw [zero_word, read_zero]
    · rw [un, signed_eq]; simp
  · obtain ⟨k1, k2, k3⟩ := kept_range a.natAbs (by omega) h'
    refine ⟨_, _, _, read_fl h h', by omega, by omega, ?_, rfl, fun _ => ⟨?_, by omega⟩, fun e => absurd e h⟩
    · rw [un, signed_eq]
      have e1 : (((a.natAbs.log2 : Nat) : Int) - 52 + 1074).toNat = 1022 + a.natAbs.log2 := by omega
      rw [e1]
      have e2 : (((a.natAbs * 2 ^ (52 - a.natAbs.log2) : Nat) : Int)) * 2 ^ (1022 + a.natAbs.log2) = (a.natAbs : Int) * 2 ^ 1074 := by
        rw [Int.natCast_mul, Int.mul_assoc, Int.natCast_pow, show ((2 : Nat) : Int) = 2 from rfl, ← Int.pow_add, show 52 - a.natAbs.log2 + (1022 + a.natAbs.log2) = 1074 by omega]
      rw [e2]
      by_cases hn : a < 0
      · rw [decide_eq_true hn, if_pos rfl, ← Int.mul_assoc]; congr 1; omega
      · rw [decide_eq_false hn, if_neg (by decide), ← Int.mul_assoc]; congr 1; omega
    · congr 2; omega
theorem un_shift (s : Bool) (m : Nat) (i base : Int) (h : base ≤ i) (hb : -1074 ≤ base) : Ieee.signed s m (i - base).toNat * 2 ^ (base + 1074).toNat = un s m i := by
  rw [un, signed_eq, signed_eq, Int.mul_assoc, Int.mul_assoc, ← Int.pow_add, show (i - base).toNat + (base + 1074).toNat = (i + 1074).toNat by omega]
theorem pow_pos' (k : Nat) : (0 : Int) < 2 ^ k := Int.pow_pos (by decide)
theorem scale {t z : Int} {k : Nat} (hk : k ≤ 1074) (h : t * 2 ^ k = z * 2 ^ 1074) : (t = 0 ↔ z = 0) ∧ (t < 0 ↔ z < 0) ∧ t.natAbs * 2 ^ k = z.natAbs * 2 ^ 1074 := by
  have e : t = z * 2 ^ (1074 - k) := by
    have : t * 2 ^ k = z * 2 ^ (1074 - k) * 2 ^ k := by rw [Int.mul_assoc, ← Int.pow_add, show 1074 - k + k = 1074 by omega]; exact h
    exact Int.eq_of_mul_eq_mul_right (Int.ne_of_gt (pow_pos' k)) this
  have hp := pow_pos' (1074 - k)
  refine ⟨⟨fun h0 => ?_, fun h0 => by rw [e, h0, Int.zero_mul]⟩, ⟨fun h0 => ?_, fun h0 => ?_⟩, ?_⟩
  · rw [e] at h0
    rcases Int.mul_eq_zero.1 h0 with h1 | h1
    · exact h1
    · omega
  · refine Classical.byContradiction fun hn => ?_
    have := Int.mul_nonneg (show (0 : Int) ≤ z by omega) (Int.le_of_lt hp)
    omega
  · rw [e]; exact Int.mul_neg_of_neg_of_pos h0 hp
  · rw [e, Int.natAbs_mul, Int.natAbs_pow, Nat.mul_assoc]
    rw [show (2 : Int).natAbs = 2 from rfl, ← Nat.pow_add, show 1074 - k + k = 1074 by omega]
/-- A sum is written exactly. -/
theorem sum_int {s t : Bool} {m n : Nat} {i j a b : Int} (hi : -1074 ≤ i) (hi' : i ≤ 0) (hj : -1074 ≤ j) (hj' : j ≤ 0) (ha : un s m i = a * 2 ^ 1074) (hb : un t n j = b * 2 ^ 1074) (h : (a + b).natAbs < 2 ^ 53) (h0 : a + b = 0 → (s && t) = false) :
    ((Datum.number s m i).sum (.number t n j)).map double.write = some (fl (a + b)) := by
  simp only [Datum.sum, Option.map_some, Option.some.injEq]
  generalize hbase : min i j = base
  have hb1 : -1074 ≤ base := by omega
  have hb2 : base ≤ 0 := by omega
  generalize htot : Ieee.signed s m (i - base).toNat + Ieee.signed t n (j - base).toNat = tot
  have e1 : tot * 2 ^ (base + 1074).toNat = (a + b) * 2 ^ 1074 := by
    rw [← htot, Int.add_mul, un_shift s m i base (by omega) hb1, un_shift t n j base (by omega) hb1, ha, hb, Int.add_mul]
  obtain ⟨z1, z2, z3⟩ := scale (by omega) e1
  by_cases hz : a + b = 0
  · rw [if_pos (z1.2 hz), z1.2 hz, h0 hz, hz, zero_word]
    show double.nearest false 0 base = 0
    rw [Format.nearest, if_pos rfl]; rfl
  · rw [if_neg fun e => hz (z1.1 e), fl_ne hz h]
    have : decide (tot < 0) = decide (a + b < 0) := by simp [z2]
    rw [this]
    exact nearest_int _ _ _ base hb1 (by omega) h z3
theorem add_fl {a b : Int} (ha : a.natAbs < 2 ^ 53) (hb : b.natAbs < 2 ^ 53) (h : (a + b).natAbs < 2 ^ 53) : double.add (fl a) (fl b) = some (fl (a + b)) := by
  obtain ⟨s, m, i, h1, h2, h3, h4, h5, _, _⟩ := read_un ha
  obtain ⟨t, n, j, k1, k2, k3, k4, k5, _, _⟩ := read_un hb
  unfold Format.add
  rw [h1, k1]
  refine sum_int h2 h3 k2 k3 h4 k4 h fun e => ?_
  subst h5; subst k5
  by_cases x : a < 0
  · rw [decide_eq_false (show ¬ b < 0 by omega), Bool.and_false]
  · rw [decide_eq_false x, Bool.false_and]
theorem un_not (s : Bool) (m : Nat) (i : Int) : un (!s) m i = - un s m i := by
  rw [un, un, signed_eq, signed_eq]; cases s <;> simp
theorem sub_fl {a b : Int} (ha : a.natAbs < 2 ^ 53) (hb : b.natAbs < 2 ^ 53) (h : (a - b).natAbs < 2 ^ 53) : double.sub (fl a) (fl b) = some (fl (a - b)) := by
  obtain ⟨s, m, i, h1, h2, h3, h4, h5, _, _⟩ := read_un ha
  obtain ⟨t, n, j, k1, k2, k3, k4, k5, _, _⟩ := read_un hb
  unfold Format.sub
  rw [h1, k1]
  have := sum_int (t := !t) (n := n) (j := j) (b := -b) h2 h3 k2 k3 h4 (by rw [un_not, k4, Int.neg_mul]) (by rw [← Int.sub_eq_add_neg]; exact h) fun e => by
    subst h5; subst k5
    have : a = b := by omega
    subst this
    cases decide (a < 0) <;> rfl
  rw [← Int.sub_eq_add_neg] at this
  exact this
theorem mul_fl {a b : Int} (ha : a.natAbs < 2 ^ 53) (hb : b.natAbs < 2 ^ 53) (ha0 : a ≠ 0) (hb0 : b ≠ 0) (h : (a * b).natAbs < 2 ^ 53) : double.mul (fl a) (fl b) = some (fl (a * b)) := by
  obtain ⟨s, m, i, h1, h2, h3, h4, h5, h6, _⟩ := read_un ha
  obtain ⟨t, n, j, k1, k2, k3, k4, k5, k6, _⟩ := read_un hb
  obtain ⟨m1, m2⟩ := h6 ha0
  obtain ⟨n1, n2⟩ := k6 hb0
  unfold Format.mul
  rw [h1, k1]
  simp only [Datum.product, Option.map_some, Option.some.injEq]
  have hab : a * b ≠ 0 := Int.mul_ne_zero ha0 hb0
  rw [fl_ne hab h]
  have hs : (s ^^ t) = decide (a * b < 0) := by
    subst h5; subst k5
    by_cases x : a < 0 <;> by_cases y : b < 0
    · have := Int.mul_pos_of_neg_of_neg x y
      rw [decide_eq_true x, decide_eq_true y, decide_eq_false (by omega)]; rfl
    · have := Int.mul_neg_of_neg_of_pos x (show 0 < b by omega)
      rw [decide_eq_true x, decide_eq_false y, decide_eq_true this]; rfl
    · have := Int.mul_neg_of_pos_of_neg (show 0 < a by omega) y
      rw [decide_eq_false x, decide_eq_true y, decide_eq_true this]; rfl
    · have := Int.mul_pos (show 0 < a by omega) (show 0 < b by omega)
      rw [decide_eq_false x, decide_eq_false y, decide_eq_false (by omega)]; rfl
  rw [← hs]
  refine nearest_int _ _ _ (i + j) (by omega) (Int.natAbs_pos.2 hab) h ?_
  rw [m1, n1, Int.natAbs_mul]
  rw [show a.natAbs * 2 ^ (-i).toNat * (b.natAbs * 2 ^ (-j).toNat) * 2 ^ (i + j + 1074).toNat = a.natAbs * b.natAbs * (2 ^ (-i).toNat * 2 ^ (-j).toNat * 2 ^ (i + j + 1074).toNat) by ac_rfl, ← Nat.pow_add, ← Nat.pow_add, show (-i).toNat + (-j).toNat + (i + j + 1074).toNat = 1074 by omega]
theorem toInt_fl {a : Int} (ha : a.natAbs < 2 ^ 53) : (double.read (fl a)).toInt .zero = some a := by
  obtain ⟨s, m, i, h1, h2, h3, h4, h5, h6, h7⟩ := read_un ha
  rw [h1]
  unfold Datum.toInt Datum.integral
  simp only
  rw [show i.toNat = 0 by omega, Nat.shiftLeft_zero]
  by_cases h : a = 0
  · rw [h7 h]
    subst h
    have : Toward.zero.cut s 0 (-i).toNat = 0 := by unfold Toward.cut; simp
    rw [this, signed_eq]; simp
  · obtain ⟨m1, m2⟩ := h6 h
    have hz : a.natAbs ≠ 0 := by omega
    have hc : Toward.zero.cut s m (-i).toNat = a.natAbs := by
      unfold Toward.cut
      have hl : m.log2 = a.natAbs.log2 + (-i).toNat := by rw [m1, log2_mul _ _ hz]
      rw [Nat.min_eq_left (by omega), Nat.one_shiftLeft, m1]
      show a.natAbs * 2 ^ (-i).toNat / 2 ^ (-i).toNat + 0 = a.natAbs
      rw [Nat.mul_div_cancel _ (Nat.two_pow_pos _)]; rfl
    rw [hc, signed_eq, h5]
    congr 1
    by_cases hn : a < 0
    · rw [decide_eq_true hn, if_pos rfl]; omega
    · rw [decide_eq_false hn, if_neg (by decide)]; omega
end Go.Gv.Fl
end
section
namespace Go.Gv
open Go.RowKit Fl
abbrev vf (a : Int) : Value := .float .f64 (fl a)
abbrev vc2 (a b : Int) : Value := .complex .f64 (fl a) (fl b)
abbrev fv (a : Int) : AV := .d (.v (vf a))
abbrev cx (a b : Int) : AV := .d (.v (vc2 a b))
def sm (z : Int) : Prop := z.natAbs < 2 ^ 53
section
variable {P : Program}
theorem eqGuard_c {op : BinOp} {tt : TypeId} {ox oy : Operand} {k k' : FloatKind} {a b c d : Nat} {w : World} : (eqGuard op tt ox oy (.complex k a b) (.complex k' c d)).run P w = .ok () w := by
  cases op <;> simp [eqGuard]
theorem f_add {a b : Int} (ha : sm a) (hb : sm b) (h : sm (a + b)) : FloatKind.f64.format.add (fl a) (fl b) = some (fl (a + b)) := add_fl ha hb h
theorem f_sub {a b : Int} (ha : sm a) (hb : sm b) (h : sm (a - b)) : FloatKind.f64.format.sub (fl a) (fl b) = some (fl (a - b)) := sub_fl ha hb h
theorem f_mul {a b : Int} (ha : sm a) (hb : sm b) (ha0 : a ≠ 0) (hb0 : b ≠ 0) (h : sm (a * b)) : FloatKind.f64.format.mul (fl a) (fl b) = some (fl (a * b)) := mul_fl ha hb ha0 hb0 h
theorem B.cadd {tt : TypeId} {a b c d : Int} (h1 : sm a) (h2 : sm b) (h3 : sm c) (h4 : sm d) (h5 : sm (a + c)) (h6 : sm (b + d)) : BinRun P .add tt (vc2 a b) (vc2 c d) (vc2 (a + c) (b + d)) :=
  ⟨rfl, fun ox oy w => by simp [eqGuard_c, binOp, Op.complexOp, Op.Complex.arith, Op.floatArith, f_add h1 h3 h5, f_add h2 h4 h6]⟩
theorem B.cmul {tt : TypeId} {a b c d : Int} (h1 : sm a) (h2 : sm b) (h3 : sm c) (h4 : sm d) (a0 : a ≠ 0) (b0 : b ≠ 0) (c0 : c ≠ 0) (d0 : d ≠ 0) (m1 : sm (a * c)) (m2 : sm (b * d)) (m3 : sm (a * d)) (m4 : sm (b * c)) (h5 : sm (a * c - b * d)) (h6 : sm (a * d + b * c)) :
    BinRun P .mul tt (vc2 a b) (vc2 c d) (vc2 (a * c - b * d) (a * d + b * c)) :=
  ⟨rfl, fun ox oy w => by
    simp [eqGuard_c, binOp, Op.complexOp, Op.Complex.arith, Op.Complex.conv, Op.Complex.product, Op.Complex.add, Op.Complex.sub, Op.Complex.mul, Op.floatArith, f_mul h1 h3 a0 c0 m1, f_mul h2 h4 b0 d0 m2, f_mul h1 h4 a0 d0 m3, f_mul h2 h3 b0 c0 m4, f_sub m1 m2 h5, f_add m3 m4 h6]⟩
theorem conv_fi {src dst : TypeId} {z : Int} {d : TypeDesc} (hs : P.underlying src = some d) (hd : P.underlying dst = some (.int .i64)) (h : sm z) (w : World) : (convert src dst (vf z)).run P w = .ok (.int .i64 z) w := by
  have hz : -9223372036854775808 ≤ z ∧ z ≤ 9223372036854775807 := by unfold sm at h; omega
  have e : (FloatKind.f64.decode (fl z)).toInt .zero = some z := toInt_fl h
  have hr : IntKind.i64.min ≤ z ∧ z ≤ IntKind.i64.max := hz
  simp [convert, underlying, hs, hd, Conv.floatToInt, e, hr]
  intro hlt; omega
end
section
variable {X : Cx} {d : Option Nat} {ty : TypeId} {pos : String} {aft : Array Edge} {g : Option (Nat × Bool)} {t : T} {σ : Sg}
theorem O.complex {x y : Operand} {tys : Array TypeId} {a b : Int} (hx : ge t x = some (fv a)) (hy : ge t y = some (fv b)) : QJ X ⟨d, .call { callee := .builtin .complex, args := #[x, y], argTypes := tys }, ty, pos, aft, g⟩ t σ (cx a b) :=
  O.bi2 hx hy (fun cs w => rfl) rfl
theorem O.convFI {src dst : TypeId} {x : Operand} {z : Int} {de : TypeDesc} (hx : ge t x = some (fv z)) (hs : X.P.underlying src = some de) (hd : X.P.underlying dst = some (.int .i64)) (h : sm z) : QJ X ⟨d, .convert src dst x, ty, pos, aft, g⟩ t σ (.d (.v (.int .i64 z))) :=
  O.conv hx (conv_fi hs hd h) rfl
end
end Go.Gv
end
section
open Go Go.Gv Go.Gv.Fl
attribute [local irreducible] Go.Gv.WJ Go.Gv.OpJ Go.Gv.QJ Go.Gv.Spl Go.Gv.Req Go.Gv.IdxP Go.Gv.RegP Go.Gv.FinP Go.Gv.CellP Go.Gv.CellsP Go.Gv.ArrP Go.Gv.ArrsP Go.Gv.DropP Go.Gv.ByteP Go.Gv.StoreP
set_option maxRecDepth 100000
namespace Go.Proofs.E
structure TL where
  n : Int
  a : Int
  b : Int
  c : Int
  d : Int
abbrev tlv (t : TL) : AV := .agg [iv t.n, cx t.a t.b, cx t.c t.d]
def TL.ok (t : TL) : Prop := 0 ≤ t.n ∧ t.n ≤ 4096 ∧ t.a.natAbs ≤ t.n.toNat * 1048576 ∧ t.b.natAbs ≤ t.n.toNat * 1000 ∧ t.c.natAbs ≤ t.n.toNat * 1099511627776 ∧ t.d.natAbs ≤ t.n.toNat * 2147483648
def TL.add (t u : TL) : TL := ⟨t.n + u.n, t.a + u.a, t.b + u.b, t.c + u.c, t.d + u.d⟩
def TL.sub (t u : TL) : TL := ⟨t.n - u.n, t.a - u.a, t.b - u.b, t.c - u.c, t.d - u.d⟩
def TL.one (x : ID) : TL := ⟨1, x.c, x.s, x.c * x.c - x.s * x.s, x.c * x.s + x.s * x.c⟩
def TL.zero : TL := ⟨0, 0, 0, 0, 0⟩
theorem TL.ok_sm {t : TL} (h : t.ok) : sm t.a ∧ sm t.b ∧ sm t.c ∧ sm t.d := by
  obtain ⟨h1, h2, h3, h4, h5, h6⟩ := h
  unfold sm
  refine ⟨?_, ?_, ?_, ?_⟩ <;> omega
theorem TL.ok_add {t u : TL} (h : t.ok) (k : u.ok) (hn : t.n + u.n ≤ 4096) : (t.add u).ok := by
  obtain ⟨h1, h2, h3, h4, h5, h6⟩ := h
  obtain ⟨k1, k2, k3, k4, k5, k6⟩ := k
  unfold TL.ok TL.add
  simp only
  refine ⟨?_, ?_, ?_, ?_, ?_, ?_⟩ <;> omega
theorem OfT_c (x : ID) : Cv 135 [idv x] (cx x.c x.s) := by
  refine Ct.of_vc Tryz.f135 Tryz.func135 rfl rfl fun w H B g0 => ?_
  refine OpJ.qu (O.complex (a := x.c) (b := x.s) rfl rfl) rfl ?_
  exact FinP.open rfl rfl
theorem And_c (t u : TL) (h : t.ok) (k : u.ok) : Cv 136 [tlv t, tlv u] (if t.n + u.n ≤ 4096 then .tup [tlv (t.add u), iv 0] else .tup [tlv TL.zero, iv 7]) := by
  have hw : IntKind.i64.wrap (t.n + u.n) = t.n + u.n := by obtain ⟨_, _, _⟩ := h; obtain ⟨_, _, _⟩ := k; exact wrap_id _ (by omega) (by omega)
  obtain ⟨a1, a2, a3, a4⟩ := TL.ok_sm h
  obtain ⟨b1, b2, b3, b4⟩ := TL.ok_sm k
  refine Ct.of_vc Tryz.f136 Tryz.func136 rfl rfl fun w H B g0 => ?_
  refine Spl.of (fun e => ?_) (fun e => ?_)
  · have : ¬ t.n + u.n ≤ 4096 := by have := of_decide_eq_true e; rw [hw] at this; omega
    rw [if_neg this]
    exact FinP.open rfl rfl
  · have hle : t.n + u.n ≤ 4096 := by have := of_decide_eq_false e; rw [hw] at this; omega
    obtain ⟨c1, c2, c3, c4⟩ := TL.ok_sm (TL.ok_add h k hle)
    rw [if_pos hle]
    (repeat (first | refine Spl.t rfl ?_ | refine Spl.f rfl ?_))
    refine OpJ.qu (O.bin rfl rfl (Gv.B.cadd a1 a2 b1 b2 c1 c2)) rfl ?_
    refine OpJ.qu (O.bin rfl rfl (Gv.B.cadd a3 a4 b3 b4 c3 c4)) rfl ?_
    refine FinP.open rfl ?_
    show AV.tup [.agg [iv (IntKind.i64.wrap (t.n + u.n)), _, _], _] = _
    rw [hw]; rfl
end Go.Proofs.E
end
section
open Go Go.Gv Go.Gv.Fl
attribute [local irreducible] Go.Gv.WJ Go.Gv.OpJ Go.Gv.QJ Go.Gv.Spl Go.Gv.Req Go.Gv.IdxP Go.Gv.RegP Go.Gv.FinP Go.Gv.CellP Go.Gv.CellsP Go.Gv.ArrP Go.Gv.ArrsP Go.Gv.DropP Go.Gv.ByteP Go.Gv.StoreP
set_option maxRecDepth 100000
namespace Go.Proofs.E
theorem mul_rng {a b m n : Int} (h1 : 1 ≤ a) (h2 : a ≤ m) (h3 : 1 ≤ b) (h4 : b ≤ n) : 1 ≤ a * b ∧ a * b ≤ m * n :=
  ⟨by have := Int.mul_le_mul h1 h3 (by omega) (by omega); simpa using this, Int.mul_le_mul h2 h4 (by omega) (by omega)⟩
theorem one_rng {x : ID} (h : mayI x = true) : (1 ≤ x.c * x.c ∧ x.c * x.c ≤ 1099511627776) ∧ (1 ≤ x.s * x.s ∧ x.s * x.s ≤ 1000000) ∧ (1 ≤ x.c * x.s ∧ x.c * x.s ≤ 1048576000) ∧ (1 ≤ x.s * x.c ∧ x.s * x.c ≤ 1048576000) := by
  obtain ⟨a1, a2, a3, a4⟩ := mayI_iff h
  exact ⟨mul_rng a1 a2 a1 a2, mul_rng a3 a4 a3 a4, mul_rng a1 a2 a3 a4, mul_rng a3 a4 a1 a2⟩
theorem one_ok {x : ID} (h : mayI x = true) : (TL.one x).ok := by
  obtain ⟨a1, a2, a3, a4⟩ := mayI_iff h
  obtain ⟨h1, h2, h3, h4⟩ := one_rng h
  unfold TL.ok TL.one
  simp only
  refine ⟨by omega, by omega, ?_, ?_, ?_, ?_⟩
  · show x.c.natAbs ≤ 1 * 1048576; omega
  · show x.s.natAbs ≤ 1 * 1000; omega
  · show (x.c * x.c - x.s * x.s).natAbs ≤ 1 * 1099511627776; omega
  · show (x.c * x.s + x.s * x.c).natAbs ≤ 1 * 2147483648; omega
theorem PutT_c (t : TL) (x : ID) (h : t.ok) : Cv 90 [tlv t, idv x] (if mayI x = true then (if t.n + (TL.one x).n ≤ 4096 then .tup [tlv (t.add (TL.one x)), iv 0] else .tup [tlv TL.zero, iv 7]) else .tup [tlv TL.zero, iv 2]) := by
  refine Ct.of_vc Tryz.f90 Tryz.func90 rfl rfl fun w H B g0 => ?_
  refine OpJ.callV (Check_c x) (fun _ _ => rfl) rfl rfl rfl ?_
  (repeat (first | refine Spl.t rfl ?_ | refine Spl.f rfl ?_))
  refine Spl.of (fun e => ?_) (fun e => ?_)
  · have hm : ¬ mayI x = true := fun y => by simp [checkI, y] at e
    rw [if_neg hm]
    refine FinP.open rfl ?_
    show AV.tup [_, iv (checkI x)] = _
    rw [checkI, if_neg hm]; rfl
  · have hm : mayI x = true := by
      cases y : mayI x with
      | true => rfl
      | false => simp [checkI, y] at e
    obtain ⟨a1, a2, a3, a4⟩ := mayI_iff hm
    obtain ⟨h1, h2, h3, h4⟩ := one_rng hm
    rw [if_pos hm]
    (repeat (first | refine Spl.t rfl ?_ | refine Spl.f rfl ?_))
    refine OpJ.callV (OfT_c x) (fun _ _ => rfl) rfl rfl rfl ?_
    (repeat (first | refine Spl.t rfl ?_ | refine Spl.f rfl ?_))
    refine OpJ.qu (O.bin rfl rfl (Gv.B.cmul (by unfold sm; omega) (by unfold sm; omega) (by unfold sm; omega) (by unfold sm; omega) (by omega) (by omega) (by omega) (by omega) (by unfold sm; omega) (by unfold sm; omega) (by unfold sm; omega) (by unfold sm; omega) (by unfold sm; omega) (by unfold sm; omega))) rfl ?_
    have hc := And_c t (TL.one x) h (one_ok hm)
    by_cases hn : t.n + (TL.one x).n ≤ 4096
    · rw [if_pos hn] at hc ⊢
      refine OpJ.callV hc (fun _ _ => rfl) rfl rfl rfl ?_
      exact FinP.open rfl rfl
    · rw [if_neg hn] at hc ⊢
      refine OpJ.callV hc (fun _ _ => rfl) rfl rfl rfl ?_
      exact FinP.open rfl rfl
end Go.Proofs.E
end
section
open Go Go.Gv Go.Gv.Fl
attribute [local irreducible] Go.Gv.WJ Go.Gv.OpJ Go.Gv.QJ Go.Gv.Spl Go.Gv.Req Go.Gv.IdxP Go.Gv.RegP Go.Gv.FinP Go.Gv.CellP Go.Gv.CellsP Go.Gv.ArrP Go.Gv.ArrsP Go.Gv.DropP Go.Gv.ByteP Go.Gv.StoreP
set_option maxRecDepth 100000
namespace Go.Proofs.E
abbrev strD (x : List UInt8) : List D := [.v (.string ⟨⟨x⟩⟩)]
theorem repd_v {H : HF} {x u : Value} (r : RepD H (.v x) u) : u = x := by cases r; rfl
theorem Join_c (xs : List (List UInt8)) (sep : List UInt8) (h0 : xs ≠ []) (h1 : xs.length ≤ 1000000) (h2 : (Lib.join xs sep).length ≤ 100000000) :
    Cv 133 [.d (.sl 1 (xs.map strD)), sv sep] (sv (Lib.join xs sep)) :=
  Ct.of_calls fun γ H w vs hΛ hok hl hr => by
    obtain ⟨v0, v1, rfl⟩ : ∃ a b, vs = [a, b] := by
      match vs, hl with
      | [a, b], _ => exact ⟨a, b, rfl⟩
    have r0 := rep_d (hr 0 _ v0 rfl rfl)
    obtain rfl := rep_v (hr 1 _ v1 rfl rfl)
    have hm := Mem.start hok γ
    cases r0 with
    | sl _ _ A c b o us hk hn hc hA hH hrep =>
      have hlen : 0 < (xs.map strD).length := by simp; exact List.length_pos_iff.2 h0
      obtain rfl := hA hlen
      have hcell : ∀ (j : Nat) (x : ByteArray), (xs.map fun x => (⟨⟨x⟩⟩ : ByteArray))[j]? = some x → w.cell? ⟨b, o + j, none⟩ = some (.string x) := fun j x hx => by
        simp only [List.getElem?_map, Option.map_eq_some_iff] at hx
        obtain ⟨l, hl, rfl⟩ := hx
        have hj : j < (xs.map strD).length := by simp; exact (List.getElem?_eq_some_iff.1 hl).1
        have e1 := hok.c _ _ _ (hH j 0 hj (by decide))
        have e2 := repd_v (hrep j 0 (strD l) (.v (.string ⟨⟨l⟩⟩)) (by simp [hl]) rfl)
        rw [Nat.mul_one, Nat.add_zero, e2] at e1
        exact e1
      have hlt : b < w.heap.size := lt_of_cell (hok.c _ _ _ (hH 0 0 hlen (by decide)))
      have e0 : (xs.map fun x => (⟨⟨x⟩⟩ : ByteArray)).length = (xs.map strD).length := by simp
      have e3 : (xs.map fun x => (⟨⟨x⟩⟩ : ByteArray)).map (fun x => x.data.toList) = xs := by simp [List.map_map, Function.comp_def]
      have key := Tryz.strings_Join b o c (xs.map fun x => ⟨⟨x⟩⟩) ⟨⟨sep⟩⟩ w hcell hlt (by simp; omega) (by rw [e0]; exact hn) (by rw [e3]; exact Nat.le_trans h2 (by decide))
      rw [e3, e0] at key
      refine key.mono fun e w' ⟨he, hb⟩ => ⟨_, H, he, .d _ _ (.v _ rfl), hm.quiet (keeps_below hb)⟩
theorem itoa_le (n : Int) (h : n.natAbs < 10 ^ 18) : (Lib.itoa n).length ≤ 19 := by
  unfold Lib.itoa
  split
  · simp only [List.length_cons]
    have := decDigits_len n.natAbs 18 h (by decide)
    omega
  · have := decDigits_len n.toNat 18 (by omega) (by decide)
    omega
def textT (t : TL) : List UInt8 := Lib.join [Lib.itoa t.n, Lib.itoa t.a, Lib.itoa t.b, Lib.itoa t.c, Lib.itoa t.d] [32]
def strsT (t : TL) : List (List UInt8) := [Lib.itoa t.n, Lib.itoa t.a, Lib.itoa t.b, Lib.itoa t.c, Lib.itoa t.d]
def T0T (t : TL) (i : Nat) : T := [(24, iv i), (3, match i with | 0 => .full 1 [strD (Lib.itoa t.n)] | i + 1 => .arr 33 1 (i + 2))]
def S0T (t : TL) (i : Nat) : Sg := match i with | 0 => [] | i + 1 => [(33, .arr 1 (((strsT t).take (i + 2)).map strD))]
set_option profiler true in
set_option maxHeartbeats 2000000 in
theorem StringT_c (t : TL) (h : t.ok) : Cv 88 [tlv t] (sv (textT t)) := by
  obtain ⟨a1, a2, a3, a4⟩ := TL.ok_sm h
  have hn := h.1
  have hn' := h.2.1
  have itoa : ∀ z, sm z → Cv 132 [iv z, iv 10] (sv (Lib.itoa z)) := fun z hz => FormatInt_c z (by unfold sm at hz; omega) (by unfold sm at hz; omega)
  refine Ct.of_vc Tryz.f88 Tryz.func88 rfl rfl fun w H B g0 => ?_
  refine OpJ.callV (Itoa_c t.n (by omega) (by omega)) (fun _ _ => rfl) rfl rfl rfl ?_
  refine WJ.loopF (V := Nat) (T0T t) (S0T t) (fun i => 4 - i) (fun i => i ≤ 4) 0 (by omega) (by repeat' (first | exact trivial | exact rfl | refine And.intro ?_ ?_)) (by repeat' (first | exact trivial | exact rfl | refine And.intro ?_ ?_)) ?_
  intro i hi
  refine Spl.of (fun h => ?_) (fun h => ?_)
  · have hlt : i < 4 := by have := of_decide_eq_true h; change (i : Int) < 4 at this; omega
    match i, hlt with
    | 0, _ =>
      (repeat (first | refine Spl.t rfl ?_ | refine Spl.f rfl ?_))
      refine IdxP.of [.v (vf t.a)] (by decide) rfl ?_
      refine OpJ.qu (O.convFI rfl rfl rfl a1) rfl ?_
      refine OpJ.callV (itoa _ a1) (fun _ _ => rfl) rfl rfl rfl ?_
      refine O.appF (k := 1) rfl rfl (.full 1 _) rfl rfl rfl rfl (by show 1 + 1 ≤ 1000000000; decide) (.inl (List.cons_ne_nil _ _)) ?_
      exact ⟨1, by decide, by decide, (by repeat' (first | exact trivial | exact rfl | refine And.intro ?_ ?_)), (by repeat' (first | exact trivial | exact rfl | refine And.intro ?_ ?_))⟩
    | 1, _ =>
      (repeat (first | refine Spl.t rfl ?_ | refine Spl.f rfl ?_))
      refine IdxP.of [.v (vf t.b)] (by decide) rfl ?_
      refine OpJ.qu (O.convFI rfl rfl rfl a2) rfl ?_
      refine OpJ.callV (itoa _ a2) (fun _ _ => rfl) rfl rfl rfl ?_
      refine Req.of ⟨rfl, Nat.le_of_ble_eq_true rfl⟩ ?_
      exact ⟨2, by decide, by decide, (by repeat' (first | exact trivial | exact rfl | refine And.intro ?_ ?_)), (by repeat' (first | exact trivial | exact rfl | refine And.intro ?_ ?_))⟩
    | 2, _ =>
      (repeat (first | refine Spl.t rfl ?_ | refine Spl.f rfl ?_))
      refine IdxP.of [.v (vf t.c)] (by decide) rfl ?_
      refine OpJ.qu (O.convFI rfl rfl rfl a3) rfl ?_
      refine OpJ.callV (itoa _ a3) (fun _ _ => rfl) rfl rfl rfl ?_
      refine Req.of ⟨rfl, Nat.le_of_ble_eq_true rfl⟩ ?_
      exact ⟨3, by decide, by decide, (by repeat' (first | exact trivial | exact rfl | refine And.intro ?_ ?_)), (by repeat' (first | exact trivial | exact rfl | refine And.intro ?_ ?_))⟩
    | 3, _ =>
      (repeat (first | refine Spl.t rfl ?_ | refine Spl.f rfl ?_))
      refine IdxP.of [.v (vf t.d)] (by decide) rfl ?_
      refine OpJ.qu (O.convFI rfl rfl rfl a4) rfl ?_
      refine OpJ.callV (itoa _ a4) (fun _ _ => rfl) rfl rfl rfl ?_
      refine Req.of ⟨rfl, Nat.le_of_ble_eq_true rfl⟩ ?_
      exact ⟨4, by decide, by decide, (by repeat' (first | exact trivial | exact rfl | refine And.intro ?_ ?_)), (by repeat' (first | exact trivial | exact rfl | refine And.intro ?_ ?_))⟩
  · have he : i = 4 := by have := of_decide_eq_false h; change ¬ (i : Int) < 4 at this; omega
    subst he
    (repeat (first | refine Spl.t rfl ?_ | refine Spl.f rfl ?_))
    refine OpJ.shift (SJ.pubA 33 35 rfl rfl (Nat.le_of_ble_eq_true rfl) (by decide)) ?_
    refine OpJ.callV (Join_c (strsT t) [32] (by simp [strsT]) (by simp [strsT]) ?_) (fun _ _ => rfl) rfl rfl rfl ?_
    · have b1 := itoa_le t.n (by omega)
      have b2 := itoa_le t.a (by unfold sm at a1; omega)
      have b3 := itoa_le t.b (by unfold sm at a2; omega)
      have b4 := itoa_le t.c (by unfold sm at a3; omega)
      have b5 := itoa_le t.d (by unfold sm at a4; omega)
      simp [strsT, Lib.join, List.intercalate, List.intersperse]
      omega
    exact FinP.open rfl rfl
end Go.Proofs.E
end
section
open Go Go.Gv Go.Gv.Fl
attribute [local irreducible] Go.Gv.WJ Go.Gv.OpJ Go.Gv.QJ Go.Gv.Spl Go.Gv.Req Go.Gv.IdxP Go.Gv.RegP Go.Gv.FinP Go.Gv.CellP Go.Gv.CellsP Go.Gv.ArrP Go.Gv.ArrsP Go.Gv.DropP Go.Gv.ByteP Go.Gv.StoreP
set_option maxRecDepth 100000
namespace Go.Proofs.E
theorem Awake2_c : Cv 54 [] (bv true) := by
  have h0 : TL.zero.ok := by unfold TL.ok; decide
  have hp := PutT_c TL.zero ⟨3, 2⟩ h0
  rw [if_pos (by decide), if_pos (by decide)] at hp
  refine Ct.of_vc Tryz.f54 Tryz.func54 rfl rfl fun w H B g0 => ?_
  refine OpJ.callV hp (fun _ _ => rfl) rfl rfl rfl ?_
  refine OpJ.callV Awake_c (fun _ _ => rfl) rfl rfl rfl ?_
  (repeat (first | refine Spl.t rfl ?_ | refine Spl.f rfl ?_))
  refine OpJ.callV (StringT_c _ (by unfold TL.ok; decide)) (fun _ _ => rfl) rfl rfl rfl ?_
  (repeat (first | refine Spl.t rfl ?_ | refine Spl.f rfl ?_))
  refine FinP.open rfl (congrArg bv ?_)
  decide +kernel
def TL.mul (k : Int) (x : ID) : TL := ⟨k, k * x.c, k * x.s, k * (x.c * x.c - x.s * x.s), k * (x.c * x.s + x.s * x.c)⟩
theorem TL.mul_one (x : ID) : TL.mul 1 x = TL.one x := by simp [TL.mul, TL.one]
theorem TL.back (t : TL) (x : ID) : (t.sub (TL.one x)).add (TL.one x) = t := by
  simp only [TL.sub, TL.add, TL.one]
  cases t
  simp
end Go.Proofs.E
end
section
open Go Go.Gv Go.Gv.Fl
attribute [local irreducible] Go.Gv.WJ Go.Gv.OpJ Go.Gv.QJ Go.Gv.Spl Go.Gv.Req Go.Gv.IdxP Go.Gv.RegP Go.Gv.FinP Go.Gv.CellP Go.Gv.CellsP Go.Gv.ArrP Go.Gv.ArrsP Go.Gv.DropP Go.Gv.ByteP Go.Gv.StoreP
set_option maxRecDepth 100000
namespace Go.Proofs.E
def TL.sum : List ID → TL
  | [] => TL.zero
  | x :: l => (TL.sum l).add (TL.one x)
theorem TL.add_comm (t u : TL) : t.add u = u.add t := by
  simp only [TL.add, TL.mk.injEq]; omega
theorem TL.add_assoc (t u v : TL) : (t.add u).add v = t.add (u.add v) := by
  simp only [TL.add, TL.mk.injEq]; omega
theorem TL.zero_add (t : TL) : TL.zero.add t = t := by cases t; simp [TL.zero, TL.add]
theorem TL.sum_app : ∀ (l m : List ID), TL.sum (l ++ m) = (TL.sum l).add (TL.sum m)
  | [], m => by rw [List.nil_append, TL.sum, TL.zero_add]
  | x :: l, m => by
    rw [List.cons_append, TL.sum, TL.sum, TL.sum_app l m, TL.add_assoc, TL.add_comm (TL.sum m), ← TL.add_assoc]
theorem TL.sum_one (x : ID) : TL.sum [x] = TL.one x := by rw [TL.sum, TL.sum, TL.zero_add]
theorem TL.sum_snoc (l : List ID) (x : ID) : TL.sum (l ++ [x]) = (TL.sum l).add (TL.one x) := by rw [TL.sum_app, TL.sum_one]
theorem TL.sum_n : ∀ (l : List ID), (TL.sum l).n = l.length
  | [] => rfl
  | x :: l => by rw [TL.sum]; show (TL.sum l).n + 1 = _; rw [TL.sum_n l]; simp
theorem TL.sum_ok : ∀ (l : List ID), (∀ x, x ∈ l → mayI x = true) → l.length ≤ 4096 → (TL.sum l).ok
  | [], _, _ => by unfold TL.ok; decide
  | x :: l, h, hl => by
    have h1 := TL.sum_ok l (fun y hy => h y (List.mem_cons_of_mem _ hy)) (by simp at hl; omega)
    refine TL.ok_add h1 (one_ok (h x (by simp))) ?_
    rw [TL.sum_n]; simp at hl; show (l.length : Int) + 1 ≤ 4096; omega
theorem PutOk_c (t : TL) (x : ID) (h : t.ok) (hm : mayI x = true) (hn : t.n + 1 ≤ 4096) : Cv 90 [tlv t, idv x] (.tup [tlv (t.add (TL.one x)), iv 0]) := by
  have := PutT_c t x h
  rw [if_pos hm, if_pos (by show t.n + 1 ≤ 4096; exact hn)] at this
  exact this
end Go.Proofs.E
end
section
open Go Go.Gv
attribute [local irreducible] Go.Gv.WJ Go.Gv.OpJ Go.Gv.QJ Go.Gv.Spl Go.Gv.Req Go.Gv.IdxP Go.Gv.RegP Go.Gv.FinP Go.Gv.CellP Go.Gv.CellsP Go.Gv.ArrP Go.Gv.ArrsP Go.Gv.DropP Go.Gv.ByteP Go.Gv.StoreP
set_option maxRecDepth 100000
namespace Go.Proofs.E
abbrev rtv (t : TL) : AV := .agg [iv t.n, iv t.a, iv t.b, iv t.c, iv t.d]
theorem itoa_len2 (n : Int) (h : n.natAbs < 10 ^ 18) : (Lib.itoa n).length ≤ 19 := itoa_le n h
theorem digits2_c (n : Int) (h : n.natAbs < 10 ^ 18) : Cv 134 [iv n] (sv (Lib.itoa n)) := by
  have hw : IntKind.i64.wrap (0 - n) = -n := (congrArg _ (Int.zero_sub n)).trans (wrap_id _ (by omega) (by omega))
  refine Ct.of_vc Tryz.f134 Tryz.func134 rfl rfl fun w H B g0 => ?_
  refine Spl.of (fun h1 => ?_) (fun h1 => ?_)
  · have h1 : n < 0 := of_decide_eq_true h1
    have hd := DigitsI_c (-n) (by omega) (by omega)
    have hl := itoa_len2 (-n) (by omega)
    have e : Lib.itoa n = 45 :: Lib.itoa (-n) := by
      unfold Lib.itoa
      rw [if_pos h1, if_neg (by omega), show n.natAbs = (-n).toNat from by omega]
    rw [e]
    rw [← hw] at hd
    (repeat (first | refine Spl.t rfl ?_ | refine Spl.f rfl ?_))
    refine OpJ.callV hd (fun _ _ => rfl) rfl rfl rfl ?_
    (repeat (first | refine Spl.t rfl ?_ | refine Spl.f rfl ?_))
    rw [hw]
    refine Req.of (by simp; omega) ?_
    exact FinP.open rfl rfl
  · have h1 : ¬ n < 0 := of_decide_eq_false h1
    have hd := DigitsI_c n (by omega) (by omega)
    (repeat (first | refine Spl.t rfl ?_ | refine Spl.f rfl ?_))
    refine OpJ.callV hd (fun _ _ => rfl) rfl rfl rfl ?_
    exact FinP.open rfl rfl
theorem RText2_c (t : TL) (h : t.ok) : Cv 89 [rtv t] (sv (textT t)) := by
  obtain ⟨a1, a2, a3, a4⟩ := TL.ok_sm h
  have hn := h.1
  have hn' := h.2.1
  unfold sm at a1 a2 a3 a4
  have l0 := itoa_len2 t.n (by omega)
  have l1 := itoa_len2 t.a (by omega)
  have l2 := itoa_len2 t.b (by omega)
  have l3 := itoa_len2 t.c (by omega)
  have l4 := itoa_len2 t.d (by omega)
  have e : textT t = Lib.itoa t.n ++ [32] ++ Lib.itoa t.a ++ [32] ++ Lib.itoa t.b ++ [32] ++ Lib.itoa t.c ++ [32] ++ Lib.itoa t.d := by simp [textT, Lib.join, List.intercalate]
  rw [e]
  have d0 := digits2_c t.n (by omega)
  have d1 := digits2_c t.a (by omega)
  have d2 := digits2_c t.b (by omega)
  have d3 := digits2_c t.c (by omega)
  have d4 := digits2_c t.d (by omega)
  clear e
  generalize Lib.itoa t.n = x0 at l0 d0 ⊢
  generalize Lib.itoa t.a = x1 at l1 d1 ⊢
  generalize Lib.itoa t.b = x2 at l2 d2 ⊢
  generalize Lib.itoa t.c = x3 at l3 d3 ⊢
  generalize Lib.itoa t.d = x4 at l4 d4 ⊢
  refine Ct.of_vc Tryz.f89 Tryz.func89 rfl rfl fun w H B g0 => ?_
  refine RegP.of rfl (by decide +kernel) ?_
  refine QuietP.of (QJ.call d0 (fun _ _ => rfl) rfl rfl) ?_
  refine Req.of (by simp; omega) ?_
  refine QuietP.of (QJ.call d1 (fun _ _ => rfl) rfl rfl) ?_
  refine Req.of (by simp; omega) ?_
  refine Req.of (by simp; omega) ?_
  refine QuietP.of (QJ.call d2 (fun _ _ => rfl) rfl rfl) ?_
  refine Req.of (by simp; omega) ?_
  refine Req.of (by simp; omega) ?_
  refine QuietP.of (QJ.call d3 (fun _ _ => rfl) rfl rfl) ?_
  refine Req.of (by simp; omega) ?_
  refine Req.of (by simp; omega) ?_
  refine QuietP.of (QJ.call d4 (fun _ _ => rfl) rfl rfl) ?_
  refine Req.of (by simp; omega) ?_
  exact FinP.open rfl rfl
theorem RPut2_c (t : TL) (x : ID) (h : t.ok) (hm : mayI x = true) (hn : t.n + 1 ≤ 4096) : Cv 86 [rtv t, idv x] (.tup [rtv (t.add (TL.one x)), iv 0]) := by
  obtain ⟨a1, a2, a3, a4⟩ := mayI_iff hm
  obtain ⟨h1, h2, h3, h4⟩ := one_rng hm
  obtain ⟨b1, b2, b3, b4⟩ := TL.ok_sm h
  unfold sm at b1 b2 b3 b4
  have hn0 := h.1
  refine Ct.of_vc Tryz.f86 Tryz.func86 rfl rfl fun w H B g0 => ?_
  refine OpJ.callV (May_c x) (fun _ _ => rfl) rfl rfl rfl ?_
  (repeat (first | refine Spl.t rfl ?_ | refine Spl.f rfl ?_))
  refine Spl.f (by rw [hm]; rfl) ?_
  (repeat (first | refine Spl.t rfl ?_ | refine Spl.f rfl ?_))
  refine Spl.f (decide_eq_false (by omega)) ?_
  (repeat (first | refine Spl.t rfl ?_ | refine Spl.f rfl ?_))
  refine RegP.of rfl (by decide +kernel) ?_
  (repeat (first | refine Spl.t rfl ?_ | refine Spl.f rfl ?_))
  refine FinP.open rfl ?_
  have hcc : IntKind.i64.wrap (x.c * x.c) = x.c * x.c := wrap_id _ (by omega) (by omega)
  have hss : IntKind.i64.wrap (x.s * x.s) = x.s * x.s := wrap_id _ (by omega) (by omega)
  have h2c : IntKind.i64.wrap (2 * x.c) = 2 * x.c := wrap_id _ (by omega) (by omega)
  have e3 : 2 * x.c * x.s = x.c * x.s + x.s * x.c := by rw [Int.mul_comm x.s x.c, Int.mul_assoc]; omega
  have hcs : IntKind.i64.wrap (2 * x.c * x.s) = x.c * x.s + x.s * x.c := by rw [e3]; exact wrap_id _ (by omega) (by omega)
  show AV.tup [.agg [iv (IntKind.i64.wrap (t.n + 1)), iv (IntKind.i64.wrap (t.a + x.c)), iv (IntKind.i64.wrap (t.b + x.s)), iv (IntKind.i64.wrap (IntKind.i64.wrap (t.c + IntKind.i64.wrap (x.c * x.c)) - IntKind.i64.wrap (x.s * x.s))), iv (IntKind.i64.wrap (t.d + IntKind.i64.wrap (IntKind.i64.wrap (2 * x.c) * x.s)))], iv 0] = _
  rw [hcc, hss, h2c, hcs, wrap_id (t.n + 1) (by omega) (by omega), wrap_id (t.a + x.c) (by omega) (by omega), wrap_id (t.b + x.s) (by omega) (by omega), wrap_id (t.c + x.c * x.c) (by omega) (by omega), wrap_id (t.c + x.c * x.c - x.s * x.s) (by omega) (by omega), wrap_id (t.d + _) (by omega) (by omega)]
  have e4 : t.c + x.c * x.c - x.s * x.s = t.c + (x.c * x.c - x.s * x.s) := by omega
  rw [e4]; rfl
end Go.Proofs.E
end
section
open Go Go.Gv
attribute [local irreducible] Go.Gv.WJ Go.Gv.OpJ Go.Gv.QJ Go.Gv.Spl Go.Gv.Req Go.Gv.IdxP Go.Gv.RegP Go.Gv.FinP Go.Gv.CellP Go.Gv.CellsP Go.Gv.ArrP Go.Gv.ArrsP Go.Gv.DropP Go.Gv.ByteP Go.Gv.StoreP
set_option maxRecDepth 100000
namespace Go.Proofs.E
attribute [local irreducible] elems
def deadL (L : List EL) : Nat := (L.filter fun e => e.dead).length
theorem Dn.rowlen : ∀ {l : List OP}, Dn l → l.length = (rowE l).length + deadL (rowE l) := by
  intro l h
  induction h with
  | nil => rfl
  | @snoc l o h hw ih =>
    obtain ⟨_, h1⟩ := wrong_0 hw
    rcases h1 with ⟨hk, _⟩ | ⟨hk, _⟩
    · obtain ⟨n, ch, _, hg, _, hr, _⟩ := row_del h hw hk
      have hn := (List.getElem?_eq_some_iff.1 hg).1
      have e1 := (List.take_append_drop n (rowE l)).symm
      have e2 : (rowE l).drop n = ⟨o.i, ch, false⟩ :: (rowE l).drop (n + 1) := by
        rw [List.drop_eq_getElem_cons hn]
        rw [(List.getElem?_eq_some_iff.1 hg).2]
      have e3 : (rowE l).set n ⟨o.i, ch, true⟩ = (rowE l).take n ++ ⟨o.i, ch, true⟩ :: (rowE l).drop (n + 1) := List.set_eq_take_append_cons_drop .. |>.trans (if_pos hn)
      have h2 : deadL (rowE l) = deadL ((rowE l).take n) + deadL ((rowE l).drop (n + 1)) := by
        conv => lhs; rw [e1, e2]
        unfold deadL
        rw [List.filter_append, List.length_append, List.filter_cons]; simp
      have h3 : deadL ((rowE l).set n ⟨o.i, ch, true⟩) = deadL ((rowE l).take n) + (deadL ((rowE l).drop (n + 1)) + 1) := by
        rw [e3]
        unfold deadL
        rw [List.filter_append, List.length_append, List.filter_cons]; simp
      rw [hr, h3, List.length_set, List.length_append, ih, h2]; simp; omega
    · rw [row_ins h hw hk]
      have h2 : deadL (rowE l) = deadL ((rowE l).take (posO l o)) + deadL ((rowE l).drop (posO l o)) := by
        unfold deadL
        rw [← List.length_append, ← List.filter_append, List.take_append_drop]
      have h3 : deadL ((rowE l).take (posO l o) ++ ⟨o.i, o.ch, false⟩ :: (rowE l).drop (posO l o)) = deadL ((rowE l).take (posO l o)) + deadL ((rowE l).drop (posO l o)) := by
        unfold deadL
        rw [List.filter_append, List.length_append, List.filter_cons]; simp
      have hp := posO_le h hw hk
      rw [h3, ← h2, List.length_append, ih]; simp; omega
theorem Dn.len2 {l : List OP} (h : Dn l) : l.length ≤ 8192 := by
  have h1 := h.rowlen
  have h2 : deadL (rowE l) ≤ (rowE l).length := List.length_filter_le _ _
  have h3 := row_len h
  have h4 := h.is.len
  omega
/-! ### The greatest counter -/
theorem topF : ∀ (X : List OP) (n : Int), let m := X.foldl (fun n o => if o.i.c > n then o.i.c else n) n
    n ≤ m ∧ (∀ x, x ∈ X → x.i.c ≤ m) ∧ (m = n ∨ ∃ x, x ∈ X ∧ m = x.i.c)
  | [], n => ⟨by simp, by simp, .inl rfl⟩
  | o :: r, n => by
    have h := topF r (if o.i.c > n then o.i.c else n)
    simp only [List.foldl_cons] at h ⊢
    generalize List.foldl (fun n o => if o.i.c > n then o.i.c else n) (if o.i.c > n then o.i.c else n) r = m at h ⊢
    obtain ⟨h1, h2, h3⟩ := h
    refine ⟨by split at h1 <;> omega, fun x hx => ?_, ?_⟩
    · rcases List.mem_cons.1 hx with rfl | hx
      · split at h1 <;> omega
      · exact h2 x hx
    · rcases h3 with h3 | ⟨x, hx, h3⟩
      · split at h3
        · exact .inr ⟨o, by simp, h3⟩
        · exact .inl h3
      · exact .inr ⟨x, by simp [hx], h3⟩
theorem top_nn (X : List OP) : 0 ≤ topR X := (topF X 0).1
theorem top_ge {X : List OP} {x : OP} (h : x ∈ X) : x.i.c ≤ topR X := (topF X 0).2.1 x h
theorem top_is (X : List OP) : topR X = 0 ∨ ∃ x, x ∈ X ∧ topR X = x.i.c := (topF X 0).2.2
theorem top_max (X : List OP) (n : Int) (h : 0 ≤ n) : X.foldl (fun n o => if o.i.c > n then o.i.c else n) n = if topR X ≤ n then n else topR X := by
  obtain ⟨a1, a2, a3⟩ := topF X n
  generalize X.foldl (fun n o => if o.i.c > n then o.i.c else n) n = m at a1 a2 a3 ⊢
  have b3 := top_is X
  have b0 := top_nn X
  rcases a3 with a3 | ⟨x, hx, a3⟩
  · rcases b3 with b3 | ⟨y, hy, b3⟩
    · split <;> omega
    · have := a2 y hy
      split <;> omega
  · have := top_ge hx
    rcases b3 with b3 | ⟨y, hy, b3⟩
    · split <;> omega
    · have := a2 y hy
      split <;> omega
theorem checkO_may {o : OP} (h : checkO o = 0) : mayI o.i = true := by
  unfold checkO at h
  split at h
  · cases h
  · split at h
    · cases h
    · split at h
      · cases h
      · next h3 =>
        cases e : mayI o.i with
        | true => rfl
        | false => exact absurd (.inl e) h3
theorem top_le {X : List OP} (h : ∀ o, o ∈ X → checkO o = 0) : topR X ≤ 1048576 := by
  rcases top_is X with h1 | ⟨x, hx, h1⟩
  · omega
  · have := (mayI_iff (checkO_may (h x hx))).2.1
    omega
theorem ok_insL {l : List OP} (h : Dn l) : ∀ o, o ∈ insL l → checkO o = 0 := fun o ho => h.is.ok o (mem_insL.1 ho).1
theorem last_ge : ∀ {M : List IE}, upM M → ∀ x, x ∈ M → x.1 = lastI M ∨ lessI x.1 (lastI M) = true := by
  intro M h x hx
  unfold lastI
  cases hl : M.getLast? with
  | none => rw [List.getLast?_eq_none_iff.1 hl] at hx; simp at hx
  | some y =>
    simp only
    obtain ⟨r, hr⟩ := List.getLast?_eq_some_iff.1 hl
    subst hr
    rcases List.mem_append.1 hx with hx | hx
    · exact .inr ((List.pairwise_append.1 h).2.2 x hx y (by simp))
    · left; rw [List.mem_singleton.1 hx]
theorem last_top {l : List OP} (h : Dn l) {M : List IE} (hu : upM M) (ha : ∀ a, alook a M = entO l a) : (lastI M).c = topR (insL l) := by
  have up : ∀ x, x ∈ M → x.1.c ≤ topR (insL l) := fun x hx => by
    have h1 := alook_mem hu hx
    rw [ha] at h1
    unfold entO at h1
    cases hf : findO 0 x.1 l with
    | none => rw [hf] at h1; cases h1
    | some o =>
      obtain ⟨h2, h3, h4⟩ := findO_some hf
      rw [← h4]
      exact top_ge (mem_insL.2 ⟨h2, h3⟩)
  have dn : ∀ o, o ∈ insL l → o.i.c ≤ (lastI M).c := fun o ho => by
    have hf := find_unique h ho
    have h1 := ha o.i
    unfold entO at h1
    rw [hf] at h1
    obtain ⟨j, h2, _⟩ := alook_is h1
    have h3 := last_ge hu _ (List.mem_of_getElem? h2)
    rcases h3 with h3 | h3
    · rw [← h3]; exact Int.le_refl _
    · unfold lessI at h3
      simp only [Bool.or_eq_true, Bool.and_eq_true, decide_eq_true_eq] at h3
      omega
  have h0 := top_is (insL l)
  cases hl : M.getLast? with
  | none =>
    have e : lastI M = ⟨0, 0⟩ := by unfold lastI; rw [hl]
    have hM : M = [] := List.getLast?_eq_none_iff.1 hl
    rw [e]
    rcases h0 with h0 | ⟨o, ho, h0⟩
    · exact h0.symm
    · have := ha o.i
      rw [hM] at this
      unfold entO at this
      rw [find_unique h ho] at this; cases this
  | some y =>
    have e : lastI M = y.1 := by unfold lastI; rw [hl]
    have hy : y ∈ M := List.mem_of_getLast? hl
    have h1 := up y hy
    rcases h0 with h0 | ⟨o, ho, h0⟩
    · have h2 : alook y.1 M = some y.2 := alook_mem hu hy
      rw [ha] at h2
      unfold entO at h2
      cases hf : findO 0 y.1 l with
      | none => rw [hf] at h2; cases h2
      | some o =>
        obtain ⟨h3, h4, h5⟩ := findO_some hf
        have h6 := (mayI_iff (checkO_may (h.is.ok o h3))).1
        have h7 := top_ge (mem_insL.2 ⟨h3, h4⟩)
        rw [h0] at h7; omega
    · have := dn o ho
      rw [e] at this ⊢; omega
/-! ### A version -/
def sumV (l : List OP) : TL := TL.sum ((insL l).map fun o => o.i)
abbrev vcs (s : SS) (l R : List OP) : List AV := [.d s.t.d, .d s.p.d, iv s.n, .d (.sl 6 (R.map opD)), iv (l.length : Nat), iv (sumV l).n, cx (sumV l).a (sumV l).b, cx (sumV l).c (sumV l).d]
abbrev vv (s : SS) (l R : List OP) : AV := .agg (vcs s l R)
abbrev rvv (l R : List OP) : AV := .agg [.d (.sl 6 (l.map opD)), .d (.sl 6 (R.map opD))]
theorem sum_ok {l : List OP} (h : Dn l) : (sumV l).ok := TL.sum_ok _ (fun x hx => by
  obtain ⟨o, ho, rfl⟩ := List.mem_map.1 hx
  exact checkO_may (ok_insL h o ho)) (by rw [List.length_map]; exact h.is.len)
theorem VText_c {s : SS} {l : List OP} (h : isS s l) (R : List OP) : Cv 14 [vv s l R] (sv (byt (txtZ (rowE l)))) := by
  have ht := Text_c s.t (by have := h.small; omega) (by rw [h.els]; exact okE_of h.dn)
  rw [h.els] at ht
  refine Ct.of_vc Tryz.f14 Tryz.func14 rfl rfl fun w H B g0 => ?_
  refine OpJ.callV ht (fun _ _ => rfl) rfl rfl rfl ?_
  exact FinP.open rfl rfl
theorem VLen_c {s : SS} {l : List OP} (h : isS s l) (R : List OP) : Cv 15 [vv s l R] (iv (liveL (rowE l))) := by
  have ht := TAlive_c s.t
  rw [live_els, h.els] at ht
  refine Ct.of_vc Tryz.f15 Tryz.func15 rfl rfl fun w H B g0 => ?_
  refine OpJ.callV ht (fun _ _ => rfl) rfl rfl rfl ?_
  exact FinP.open rfl rfl
theorem VSeq_c (s : SS) (l R : List OP) : Cv 16 [vv s l R] (iv (l.length : Nat)) := by
  refine Ct.of_vc Tryz.f16 Tryz.func16 rfl rfl fun w H B g0 => ?_
  exact FinP.open rfl rfl
theorem VWaiting_c (s : SS) (l R : List OP) (hR : R.length ≤ 1000000) : Cv 85 [vv s l R] (.d (.sl 6 (R.map opD))) := by
  refine Ct.of_vc Tryz.f85 Tryz.func85 rfl rfl fun w H B g0 => ?_
  refine OpJ.callV (RAll_c R hR) (fun _ _ => rfl) rfl rfl rfl ?_
  exact FinP.open rfl rfl
theorem VTally_c (s : SS) (l R : List OP) : Cv 87 [vv s l R] (tlv (sumV l)) := by
  refine Ct.of_vc Tryz.f87 Tryz.func87 rfl rfl fun w H B g0 => ?_
  exact FinP.open rfl rfl
def nameL (L : List EL) (k : Int) : ID := if 0 ≤ k ∧ k < liveL L then ((L[selL k.toNat L]?).getD EL0).id else ⟨0, 0⟩
theorem VNamed_c {s : SS} {l : List OP} (h : isS s l) (R : List OP) (k : Int) : Cv 22 [vv s l R, iv k] (.tup [idv (nameL (rowE l) k), bv (decide (0 ≤ k ∧ k < liveL (rowE l)))]) := by
  have hs := h.small
  have ht := Select_c s.t k (by omega)
  unfold selOk at ht
  have hlv : s.t.live = liveL (rowE l) := by rw [live_els, h.els]
  rw [hlv] at ht
  by_cases hk : 0 ≤ k ∧ k < liveL (rowE l)
  · have hlt := sel_lt (rowE l) k.toNat (by omega)
    have e1 : selT s.t k = selL k.toNat (rowE l) := by unfold selT; rw [hlv, if_pos hk, h.els]
    rw [e1] at ht
    have hat := At_c s.t (selL k.toNat (rowE l) : Nat) (by omega)
    have hx : (rowE l)[selL k.toNat (rowE l)]? = some (rowE l)[selL k.toNat (rowE l)] := by simp
    rw [atT_row h, hx] at hat
    have e2 : nameL (rowE l) k = (rowE l)[selL k.toNat (rowE l)].id := by unfold nameL; rw [if_pos hk, hx]; rfl
    rw [e2]
    rw [decide_eq_true hk] at ht ⊢
    generalize (rowE l)[selL k.toNat (rowE l)] = e at hat ⊢
    generalize selL k.toNat (rowE l) = n at ht hat
    refine Ct.of_vc Tryz.f22 Tryz.func22 rfl rfl fun w H B g0 => ?_
    refine OpJ.callV ht (fun _ _ => rfl) rfl rfl rfl ?_
    (repeat (first | refine Spl.t rfl ?_ | refine Spl.f rfl ?_))
    refine OpJ.callV hat (fun _ _ => rfl) rfl rfl rfl ?_
    exact FinP.open rfl rfl
  · rw [decide_eq_false hk] at ht ⊢
    have e2 : nameL (rowE l) k = ⟨0, 0⟩ := by unfold nameL; rw [if_neg hk]
    rw [e2]
    refine Ct.of_vc Tryz.f22 Tryz.func22 rfl rfl fun w H B g0 => ?_
    refine OpJ.callV ht (fun _ _ => rfl) rfl rfl rfl ?_
    (repeat (first | refine Spl.t rfl ?_ | refine Spl.f rfl ?_))
    exact FinP.open rfl rfl
def beforeL (L : List EL) (a : ID) : Int := if 0 ≤ placeL a L then rankL L (placeL a L) else 0
theorem VBefore_c {s : SS} {l : List OP} (h : isS s l) (R : List OP) (a : ID) : Cv 18 [vv s l R, idv a] (.tup [iv (beforeL (rowE l) a), bv (decide (0 ≤ placeL a (rowE l)))]) := by
  have hs := h.small
  have hf := Find_c h a
  have hlt := placeL_lt a (rowE l)
  have hlen : (rowE l).length ≤ 4096 := by rw [row_len h.dn]; exact h.dn.is.len
  by_cases hp : 0 ≤ placeL a (rowE l)
  · have hr := Rank_c s.t (placeL a (rowE l)) (by omega) (by omega) (by omega)
    rw [h.els] at hr
    have e : beforeL (rowE l) a = rankL (rowE l) (placeL a (rowE l)) := by unfold beforeL; rw [if_pos hp]
    rw [decide_eq_true hp] at hf ⊢
    rw [e]
    refine Ct.of_vc Tryz.f18 Tryz.func18 rfl rfl fun w H B g0 => ?_
    refine OpJ.callV hf (fun _ _ => rfl) rfl rfl rfl ?_
    (repeat (first | refine Spl.t rfl ?_ | refine Spl.f rfl ?_))
    refine OpJ.callV hr (fun _ _ => rfl) rfl rfl rfl ?_
    exact FinP.open rfl rfl
  · have e : beforeL (rowE l) a = 0 := by unfold beforeL; rw [if_neg hp]
    rw [decide_eq_false hp] at hf ⊢
    rw [e]
    refine Ct.of_vc Tryz.f18 Tryz.func18 rfl rfl fun w H B g0 => ?_
    refine OpJ.callV hf (fun _ _ => rfl) rfl rfl rfl ?_
    (repeat (first | refine Spl.t rfl ?_ | refine Spl.f rfl ?_))
    exact FinP.open rfl rfl
end Go.Proofs.E
end
section
namespace Go.Gv
open Go.RowKit
section
variable {X : Cx} {ty : TypeId} {pos : String} {aft : Array Edge} {g : Option (Nat × Bool)} {t : T} {σ : Sg} {K : T → Sg → Prop}
theorem O.allocN (i : Nat) {d : Nat} {e : TypeId} {z : Value} (hz : zeroOf X.P e = some z) (h1 : oneAV (ofConst z) = true) (hf : isFresh i t σ X.pin = true)
    (hc : (avCells (ofConst z)).any (has2 i) = false) (hN : dOk (some d) X.N = true) (k : K ((d, .box i 0) :: t) ((i, .cells (avCells (ofConst z))) :: σ)) : OpJ X ⟨some d, .alloc e, ty, pos, aft, g⟩ t σ K := by
  intro γ H a w s next Q' hk
  obtain ⟨us, hu, hl, hr⟩ := rep_cells (rep_const γ H z) h1
  have hz := fun w => zeroOf_run hz (w := w)
  have hrun : (execOp a.eval ⟨some d, .alloc e, ty, pos, aft, g⟩).run X.P w = .ok (.value (.pointer (some ⟨w.heap.size, 0, none⟩))) (w.alloc (.cells us.toArray e)) := by
    simp [execOp, Instr.alloc, newVar, newRow, hu, hz]
  rw [semAt_of (by simp), hrun, Oper.uponIn_value]
  exact hk _ H _ _ _ _ (newCells s hf hN hl hr hc) k
end
end Go.Gv
end
section
open Go Go.Gv
attribute [local irreducible] Go.Gv.WJ Go.Gv.OpJ Go.Gv.QJ Go.Gv.Spl Go.Gv.Req Go.Gv.IdxP Go.Gv.RegP Go.Gv.FinP Go.Gv.CellP Go.Gv.CellsP Go.Gv.ArrP Go.Gv.ArrsP Go.Gv.DropP Go.Gv.ByteP Go.Gv.StoreP
set_option maxRecDepth 100000
namespace Go.Proofs.E
attribute [local irreducible] elems
/-! ### Which one alive -/
def rselL : Int → List EL → Nat
  | _, [] => 0
  | n, e :: L => if e.dead = true then rselL n L + 1 else if n = 0 then 0 else rselL (IntKind.i64.wrap (n - 1)) L + 1
theorem rsel_eq : ∀ (L : List EL) (n : Nat), n ≤ 9223372036854775807 → rselL n L = if n < liveL L then selL n L else L.length
  | [], n, _ => by rw [rselL, if_neg (by simp [liveL])]; rfl
  | e :: L, n, hn => by
    rw [rselL, live_cons, selL]
    cases hd : e.dead with
    | true =>
      have h1 : TR.one e = 0 := by unfold TR.one; rw [hd]
      rw [if_pos rfl, if_pos rfl, rsel_eq L n hn, h1]
      by_cases h : n < liveL L
      · rw [if_pos h, if_pos (by omega)]
      · rw [if_neg h, if_neg (by omega)]; rfl
    | false =>
      have h1 : TR.one e = 1 := by unfold TR.one; rw [hd]
      simp only [Bool.false_eq_true, if_false]
      rw [h1]
      by_cases h0 : n = 0
      · subst h0
        rw [if_pos (by rfl), if_pos (by omega), if_pos rfl]
      · rw [if_neg (by omega), if_neg h0, wrap_id _ (by omega) (by omega), show (n : Int) - 1 = ((n - 1 : Nat) : Int) by omega, rsel_eq L (n - 1) (by omega)]
        by_cases h : n - 1 < liveL L
        · rw [if_pos h, if_pos (by omega)]
        · rw [if_neg h, if_neg (by omega)]; rfl
theorem rsel_le : ∀ (L : List EL) (n : Int), rselL n L ≤ L.length
  | [], n => by rw [rselL]; exact Nat.zero_le _
  | e :: L, n => by
    rw [rselL, List.length_cons]
    split
    · have := rsel_le L n; omega
    · split
      · omega
      · have := rsel_le L (IntKind.i64.wrap (n - 1)); omega
theorem RSelect_c (L : List EL) (k : Int) (hL : L.length ≤ 1000000) : Cv 75 [.d (.sl 4 (L.map elD)), iv k] (iv (rselL k L)) := by
  refine Ct.of_vc Tryz.f75 Tryz.func75 rfl rfl fun w H B g0 => ?_
  refine WJ.loopK (V := Nat × Int) (fun v => [(5, iv v.1), (1, iv v.2)]) (fun _ => []) [] (fun v => L.length - v.1) (fun v => v.1 ≤ L.length ∧ rselL k L = v.1 + rselL v.2 (L.drop v.1)) (0, k) ⟨by simp, by simp⟩ (by repeat' (first | exact trivial | exact rfl | refine And.intro ?_ ?_)) (by repeat' (first | exact trivial | exact rfl | refine And.intro ?_ ?_)) ?_
  rintro ⟨i, n⟩ ⟨hi, he⟩
  simp only at hi he
  refine Spl.of (fun h1 => ?_) (fun h1 => ?_)
  · have hlt : i < L.length := by have := of_decide_eq_true h1; simp at this; omega
    have hx : L[i]? = some L[i] := by simp
    have hdr : L.drop i = L[i] :: L.drop (i + 1) := List.drop_eq_getElem_cons hlt
    rw [hdr, rselL] at he
    generalize L[i] = e at hx he
    (repeat (first | refine Spl.t rfl ?_ | refine Spl.f rfl ?_))
    refine IdxP.of (elD e) (by omega) (by simp [hx]) ?_
    refine Spl.of (fun h2 => ?_) (fun h2 => ?_)
    · rw [if_pos h2] at he
      (repeat (first | refine Spl.t rfl ?_ | refine Spl.f rfl ?_))
      exact ⟨(i + 1, n), ⟨by simp only; omega, by simp only; omega⟩, by simp only; omega, ⟨some_iv (wrap_id _ (by omega) (by omega)), rfl, trivial⟩, (by repeat' (first | exact trivial | exact rfl | refine And.intro ?_ ?_)), (by repeat' (first | exact trivial | exact rfl | refine And.intro ?_ ?_)), (by repeat' (first | exact trivial | exact rfl | refine And.intro ?_ ?_))⟩
    · have h2 : ¬ e.dead = true := by simpa using h2
      rw [if_neg h2] at he
      (repeat (first | refine Spl.t rfl ?_ | refine Spl.f rfl ?_))
      refine Spl.of (fun h3 => ?_) (fun h3 => ?_)
      · rw [if_pos (of_decide_eq_true h3)] at he
        (repeat (first | refine Spl.t rfl ?_ | refine Spl.f rfl ?_))
        exact FinP.open rfl (congrArg iv (by rw [he]; omega))
      · rw [if_neg (of_decide_eq_false h3)] at he
        (repeat (first | refine Spl.t rfl ?_ | refine Spl.f rfl ?_))
        exact ⟨(i + 1, IntKind.i64.wrap (n - 1)), ⟨by simp only; omega, by simp only; omega⟩, by simp only; omega, ⟨some_iv (wrap_id _ (by omega) (by omega)), rfl, trivial⟩, (by repeat' (first | exact trivial | exact rfl | refine And.intro ?_ ?_)), (by repeat' (first | exact trivial | exact rfl | refine And.intro ?_ ?_)), (by repeat' (first | exact trivial | exact rfl | refine And.intro ?_ ?_))⟩
  · have h1 := of_decide_eq_false h1
    simp at h1
    (repeat (first | refine Spl.t rfl ?_ | refine Spl.f rfl ?_))
    rw [List.drop_eq_nil_of_le (by omega), rselL] at he
    exact FinP.open rfl (congrArg iv (by rw [he, List.length_map]; omega))
theorem RList8_c {l : List OP} (h : Dn l) (R : List OP) : Cv 19 [rvv l R] (.d (.sl 4 ((rowE l).map elD))) := by
  have hl := h.len2
  refine Ct.of_vc Tryz.f19 Tryz.func19 rfl rfl fun w H B g0 => ?_
  refine OpJ.callV (List_c h (by omega)) (fun _ _ => rfl) rfl rfl rfl ?_
  exact FinP.open rfl rfl
theorem row_le {l : List OP} (h : Dn l) : (rowE l).length ≤ 4096 := by rw [row_len h]; exact h.is.len
theorem RText8_c {l : List OP} (h : Dn l) (R : List OP) : Cv 82 [rvv l R] (sv (byt (txtZ (rowE l)))) := by
  have hl := row_le h
  refine Ct.of_vc Tryz.f82 Tryz.func82 rfl rfl fun w H B g0 => ?_
  refine OpJ.callV (RList8_c h R) (fun _ _ => rfl) rfl rfl rfl ?_
  (repeat (first | refine Spl.t rfl ?_ | refine Spl.f rfl ?_))
  refine OpJ.callV (RText3_c (rowE l) (by omega) (okE_of h)) (fun _ _ => rfl) rfl rfl rfl ?_
  exact FinP.open rfl rfl
theorem RNamed_c {l : List OP} (h : Dn l) (R : List OP) (k : Int) (h1 : k ≤ 9223372036854775807) : Cv 23 [rvv l R, iv k] (idv (nameL (rowE l) k)) := by
  have hl := row_le h
  have hsel := RSelect_c (rowE l) k (by omega)
  have hle := rsel_le (rowE l) k
  have hlt := sel_lt (rowE l) k.toNat
  have hli : RList8_c h R = RList8_c h R := rfl
  have hlist := RList8_c h R
  have hname : nameL (rowE l) k = if 0 ≤ k ∧ k < liveL (rowE l) then (((rowE l)[selL k.toNat (rowE l)]?).getD EL0).id else ⟨0, 0⟩ := rfl
  have hrs : 0 ≤ k → rselL k (rowE l) = if k.toNat < liveL (rowE l) then selL k.toNat (rowE l) else (rowE l).length := fun h0 => by
    have := rsel_eq (rowE l) k.toNat (by omega)
    rw [Int.toNat_of_nonneg h0] at this; exact this
  generalize rowE l = L at hl hsel hle hlt hlist hname hrs ⊢
  generalize rselL k L = m at hsel hle hrs
  rw [hname]
  refine Ct.of_vc Tryz.f23 Tryz.func23 rfl rfl fun w H B g0 => ?_
  refine OpJ.callV hlist (fun _ _ => rfl) rfl rfl rfl ?_
  (repeat (first | refine Spl.t rfl ?_ | refine Spl.f rfl ?_))
  refine OpJ.callV hsel (fun _ _ => rfl) rfl rfl rfl ?_
  (repeat (first | refine Spl.t rfl ?_ | refine Spl.f rfl ?_))
  refine Spl.of (fun h2 => ?_) (fun h2 => ?_)
  · have h2 : k < 0 := of_decide_eq_true h2
    rw [if_neg (by omega)]
    (repeat (first | refine Spl.t rfl ?_ | refine Spl.f rfl ?_))
    exact FinP.open rfl rfl
  · have h2 : ¬ k < 0 := of_decide_eq_false h2
    have hm := hrs (by omega)
    (repeat (first | refine Spl.t rfl ?_ | refine Spl.f rfl ?_))
    refine Spl.of (fun h3 => ?_) (fun h3 => ?_)
    · have h3 := of_decide_eq_true h3
      simp at h3
      rw [if_neg (fun ⟨_, h5⟩ => by rw [if_pos (by omega)] at hm; have := hlt (by omega); omega)]
      (repeat (first | refine Spl.t rfl ?_ | refine Spl.f rfl ?_))
      exact FinP.open rfl rfl
    · have h3 := of_decide_eq_false h3
      simp at h3
      have h5 : k.toNat < liveL L := by
        apply Classical.byContradiction
        intro h6
        rw [if_neg h6] at hm; omega
      rw [if_pos h5] at hm
      have h6 := hlt h5
      rw [← hm] at h6
      have hx : L[m]? = some L[m] := by simp
      rw [if_pos (by omega), ← hm, hx]
      generalize L[m] = e at hx
      (repeat (first | refine Spl.t rfl ?_ | refine Spl.f rfl ?_))
      refine IdxP.of (elD e) (by omega) (by simp [hx]) ?_
      exact FinP.open rfl rfl
/-! ### The next counter -/
def cntV (l R : List OP) : Int := (if topR R > topR (insL l) then topR R else topR (insL l)) + 1
theorem VCounter_c {s : SS} {l : List OP} (h : isS s l) {R : List OP} (hR : R.length ≤ 1000000) (hok : ∀ o, o ∈ R → checkO o = 0) : Cv 63 [vv s l R] (iv (cntV l R)) := by
  obtain ⟨M, h1, h2, _⟩ := h.mp
  have hlast := LastIs_c h1
  have hc := last_top h.dn h1.up h2
  have ht := top_le (ok_insL h.dn)
  have htr := top_le hok
  have h0 := top_nn (insL l)
  have h00 := top_nn R
  unfold cntV
  rw [← hc] at ht h0 ⊢
  have htop := Top_c R hR
  generalize lastI M = la at hlast ht h0 ⊢
  generalize topR R = tr at htop htr h00 ⊢
  refine Ct.of_vc Tryz.f63 Tryz.func63 rfl rfl fun w H B g0 => ?_
  refine RegP.of rfl (by decide +kernel) ?_
  refine QuietP.of (QJ.call hlast (fun _ _ => rfl) rfl rfl) ?_
  refine QuietP.of (QJ.call htop (fun _ _ => rfl) rfl rfl) ?_
  exact FinP.open rfl (congrArg iv (wrap_id _ (by split <;> omega) (by split <;> omega)))
theorem cnt_take {l : List OP} {i : Nat} {x : OP} (h : l[i]? = some x) (n : Int) : (insL (l.take (i + 1))).foldl (fun n o => if o.i.c > n then o.i.c else n) n = if x.k = 0 ∧ x.i.c > (insL (l.take i)).foldl (fun n o => if o.i.c > n then o.i.c else n) n then x.i.c else (insL (l.take i)).foldl (fun n o => if o.i.c > n then o.i.c else n) n := by
  rw [take_snoc h]
  by_cases hk : x.k = 0
  · rw [insL_snoc0 hk, List.foldl_append]
    by_cases h2 : x.i.c > (insL (l.take i)).foldl (fun n o => if o.i.c > n then o.i.c else n) n
    · rw [if_pos ⟨hk, h2⟩]; exact if_pos h2
    · rw [if_neg (fun h => h2 h.2)]; exact if_neg h2
  · rw [insL_snoc1 hk, if_neg (fun h => hk h.1)]
def cntR (l R : List OP) (i : Nat) : Int := (insL (l.take i)).foldl (fun n o => if o.i.c > n then o.i.c else n) (topR R)
theorem RCounter_c {l R : List OP} (h : Dn l) (hR : R.length ≤ 1000000) (hok : ∀ o, o ∈ R → checkO o = 0) : Cv 112 [rvv l R] (iv (cntV l R)) := by
  have hl := h.len2
  have ht := top_le (ok_insL h)
  have htr := top_le hok
  have h0 := top_nn (insL l)
  have h00 := top_nn R
  have htop := RTop_c R hR
  have hall : cntV l R = IntKind.i64.wrap (cntR l R l.length + 1) := by
    unfold cntR cntV
    rw [List.take_length, top_max _ _ h00, wrap_id _ (by split <;> omega) (by split <;> omega)]
    split <;> split <;> omega
  have hz : cntR l R 0 = topR R := rfl
  rw [hall]
  refine Ct.of_vc Tryz.f112 Tryz.func112 rfl rfl fun w H B g0 => ?_
  refine OpJ.callV htop (fun _ _ => rfl) rfl rfl rfl ?_
  refine WJ.loopK (V := Nat) (fun i => [(4, iv i), (3, iv (cntR l R i))]) (fun _ => []) [] (fun i => l.length - i) (fun i => i ≤ l.length) 0 (by omega) (by repeat' (first | exact trivial | exact rfl | refine And.intro ?_ ?_)) (by repeat' (first | exact trivial | exact rfl | refine And.intro ?_ ?_)) ?_
  intro i hi
  refine Spl.of (fun h1 => ?_) (fun h1 => ?_)
  · have hlt : i < l.length := by have := of_decide_eq_true h1; simp at this; omega
    have hx : l[i]? = some l[i] := by simp
    have hsn : cntR l R (i + 1) = if l[i].k = 0 ∧ l[i].i.c > cntR l R i then l[i].i.c else cntR l R i := cnt_take hx (topR R)
    generalize l[i] = x at hx hsn
    (repeat (first | refine Spl.t rfl ?_ | refine Spl.f rfl ?_))
    refine IdxP.of (opD x) (by omega) (by simp [hx]) ?_
    refine Spl.of (fun h2 => ?_) (fun h2 => ?_)
    · have h2 : x.k = 0 := of_decide_eq_true h2
      (repeat (first | refine Spl.t rfl ?_ | refine Spl.f rfl ?_))
      refine IdxP.of (opD x) (by omega) (by simp [hx]) ?_
      (repeat (first | refine Spl.t rfl ?_ | refine Spl.f rfl ?_))
      refine Spl.of (fun h3 => ?_) (fun h3 => ?_)
      · have h3 := of_decide_eq_true h3
        rw [if_pos ⟨h2, h3⟩] at hsn
        (repeat (first | refine Spl.t rfl ?_ | refine Spl.f rfl ?_))
        refine IdxP.of (opD x) (by omega) (by simp [hx]) ?_
        (repeat (first | refine Spl.t rfl ?_ | refine Spl.f rfl ?_))
        exact ⟨i + 1, by omega, by omega, ⟨some_iv (wrap_id _ (by omega) (by omega)), some_iv hsn.symm, trivial⟩, (by repeat' (first | exact trivial | exact rfl | refine And.intro ?_ ?_)), (by repeat' (first | exact trivial | exact rfl | refine And.intro ?_ ?_)), (by repeat' (first | exact trivial | exact rfl | refine And.intro ?_ ?_))⟩
      · have h3 := of_decide_eq_false h3
        rw [if_neg (fun h => h3 h.2)] at hsn
        (repeat (first | refine Spl.t rfl ?_ | refine Spl.f rfl ?_))
        exact ⟨i + 1, by omega, by omega, ⟨some_iv (wrap_id _ (by omega) (by omega)), some_iv hsn.symm, trivial⟩, (by repeat' (first | exact trivial | exact rfl | refine And.intro ?_ ?_)), (by repeat' (first | exact trivial | exact rfl | refine And.intro ?_ ?_)), (by repeat' (first | exact trivial | exact rfl | refine And.intro ?_ ?_))⟩
    · have h2 := of_decide_eq_false h2
      rw [if_neg (fun h => h2 h.1)] at hsn
      (repeat (first | refine Spl.t rfl ?_ | refine Spl.f rfl ?_))
      exact ⟨i + 1, by omega, by omega, ⟨some_iv (wrap_id _ (by omega) (by omega)), some_iv hsn.symm, trivial⟩, (by repeat' (first | exact trivial | exact rfl | refine And.intro ?_ ?_)), (by repeat' (first | exact trivial | exact rfl | refine And.intro ?_ ?_)), (by repeat' (first | exact trivial | exact rfl | refine And.intro ?_ ?_))⟩
  · have h1 := of_decide_eq_false h1
    simp at h1
    have : i = l.length := by omega
    subst this
    (repeat (first | refine Spl.t rfl ?_ | refine Spl.f rfl ?_))
    exact FinP.open rfl rfl
/-! ### An operation taken in -/
structure CH where
  seq : Int
  at_ : Int
  id : ID
  ch : Int
  del : Bool
  deriving DecidableEq
abbrev chD (c : CH) : List D := [.v (.int .i64 c.seq), .v (.int .i64 c.at_), .v (.int .i64 c.id.c), .v (.int .i64 c.id.s), .v (.int .i32 c.ch), .v (.bool c.del)]
abbrev chv (c : CH) : AV := .agg [iv c.seq, iv c.at_, iv c.id.c, iv c.id.s, cv' c.ch, bv c.del]
def chO (l : List OP) (o : OP) : CH := ⟨((l ++ [o]).length : Nat), rankL (rowE (l ++ [o])) (atO l o), o.i, ((rowE (l ++ [o]))[(atO l o).toNat]?.getD EL0).ch, decide (o.k = 1)⟩
theorem at_get {l : List OP} (h : Dn l) {o : OP} (hw : wrongO l o = 0) : ∃ (n : Nat) (e : EL), atO l o = n ∧ placeL o.i (rowE (l ++ [o])) = n ∧ (rowE (l ++ [o]))[n]? = some e ∧ e.id = o.i := by
  have hd : Dn (l ++ [o]) := .snoc h hw
  have hp : 0 ≤ placeL o.i (rowE (l ++ [o])) := by
    have := place_has hd o.i
    have h2 : (findO 0 o.i (l ++ [o])).isSome = true := by
      obtain ⟨_, h1⟩ := wrong_0 hw
      rw [findO_app]
      rcases h1 with ⟨hk, h3, _⟩ | ⟨hk, _⟩
      · obtain ⟨x, hx⟩ := Option.isSome_iff_exists.1 h3
        rw [hx]; rfl
      · cases hf : findO 0 o.i l with
        | some x => rfl
        | none => simp [findO, hk]
    rw [h2] at this
    exact of_decide_eq_true this
  obtain ⟨e, h1, h2, _⟩ := placeL_get hp
  have ha : atO l o = placeL o.i (rowE (l ++ [o])) := by unfold atO; rw [if_pos hw]
  exact ⟨_, e, by rw [ha, Int.toNat_of_nonneg hp], by rw [Int.toNat_of_nonneg hp], h1, h2⟩
theorem sumV_snoc0 {l : List OP} {o : OP} (h : o.k = 0) : sumV (l ++ [o]) = (sumV l).add (TL.one o.i) := by unfold sumV; rw [insL_snoc0 h, List.map_append]; exact TL.sum_snoc _ _
theorem sumV_snoc1 {l : List OP} {o : OP} (h : o.k ≠ 0) : sumV (l ++ [o]) = sumV l := by unfold sumV; rw [insL_snoc1 h]
theorem sumV_n (l : List OP) : (sumV l).n = (insL l).length := by unfold sumV; rw [TL.sum_n, List.length_map]
end Go.Proofs.E
end
section
namespace Go.Gv
open Go.RowKit
/-- What is private, some of the variables stored into anew. -/
def sAt (F : Nat → Option (Nat × Ent × Ent)) (S : Nat → Bool) (σ : Sg) : Nat → Sg
  | 0 => σ
  | k + 1 => match F k with
    | some (i, e, f) => (i, match S k with | true => f | false => e) :: sAt F S σ k
    | none => sAt F S σ k
theorem sAt_congr {F : Nat → Option (Nat × Ent × Ent)} {S S' : Nat → Bool} {σ : Sg} : ∀ k, (∀ j, j < k → F j ≠ none → S j = S' j) → sAt F S σ k = sAt F S' σ k
  | 0, _ => rfl
  | k + 1, h => by
    simp only [sAt]
    rw [sAt_congr k fun j hj => h j (by omega)]
    cases hE : F k with
    | none => rfl
    | some p => simp only [h k (by omega) (by rw [hE]; exact fun h => by cases h)]
theorem sAt_old {F : Nat → Option (Nat × Ent × Ent)} {S : Nat → Bool} {σ : Sg} {x : Nat} {a : Ent} {m : Nat} (hx : look x σ = some a) (hn : ∀ i y e f, i < m → F i = some (y, e, f) → y ≠ x) : ∀ k, k ≤ m → look x (sAt F S σ k) = some a
  | 0, _ => hx
  | k + 1, hk => by
    have ih := sAt_old (S := S) hx hn k (by omega)
    simp only [sAt]
    cases hF : F k with
    | none => exact ih
    | some q =>
      obtain ⟨y, e, f⟩ := q
      simp only
      rw [look_cons, if_neg (fun h => hn k y e f (by omega) hF h.symm)]
      exact ih
theorem sAt_is {F : Nat → Option (Nat × Ent × Ent)} {S : Nat → Bool} {σ : Sg} {m : Nat} (hd : ∀ i j x e f e' f', i < m → j < m → F i = some (x, e, f) → F j = some (x, e', f') → i = j) {i x : Nat} {e f : Ent} (him : i < m) (hE : F i = some (x, e, f)) :
    ∀ k, k ≤ m → i < k → look x (sAt F S σ k) = some (match S i with | true => f | false => e)
  | 0, _, h => by omega
  | k + 1, hk, h => by
    by_cases hik : i = k
    · subst hik
      simp only [sAt, hE, look_cons, if_true]
    · have ih := sAt_is (S := S) (σ := σ) hd him hE k (by omega) (by omega)
      simp only [sAt]
      cases hF : F k with
      | none => exact ih
      | some q =>
        obtain ⟨y, e', f'⟩ := q
        simp only
        rw [look_cons, if_neg (fun h => hik (by subst h; exact hd i k _ _ _ _ _ him (by omega) hE hF))]
        exact ih
theorem sAt_step {F : Nat → Option (Nat × Ent × Ent)} {S : Nat → Bool} {σ : Sg} {m : Nat} (hd : ∀ i j x e f e' f', i < m → j < m → F i = some (x, e, f) → F j = some (x, e', f') → i = j) {i x : Nat} {e f : Ent} (him : i < m) (hE : F i = some (x, e, f)) {y : Nat} :
    ∀ k, k ≤ m → i < k → look y (sAt F (fun j => if j = i then true else S j) σ k) = if y = x then some f else look y (sAt F S σ k) := by
  have same : ∀ k, k ≤ i → sAt F (fun j => if j = i then true else S j) σ k = sAt F S σ k := fun k hk => sAt_congr k fun j hj _ => if_neg (by omega)
  intro k
  induction k with
  | zero => intro _ h; omega
  | succ k ih =>
    intro hk h
    by_cases hik : i = k
    · subst hik
      simp only [sAt, hE, if_true, look_cons]
      split
      · rfl
      · rw [same i (Nat.le_refl _)]
    · have ih := ih (by omega) (by omega)
      simp only [sAt]
      cases hF : F k with
      | none => exact ih
      | some q =>
        obtain ⟨z, e', f'⟩ := q
        have hz : z ≠ x := fun h => hik (by subst h; exact hd i k _ _ _ _ _ him (by omega) hE hF)
        have hki : (if k = i then true else S k) = S k := if_neg (fun h => hik h.symm)
        simp only [hki]
        rw [look_cons, look_cons]
        by_cases hy : y = z
        · rw [if_pos hy, if_pos hy, if_neg (fun h => hz (hy.symm.trans h))]
        · rw [if_neg hy, if_neg hy]; exact ih
theorem listT (f : Nat → Option AV) : ∀ n, ∃ t : T, ∀ x, look x t = if x < n then f x else none
  | 0 => ⟨[], fun x => by rw [if_neg (by omega)]; rfl⟩
  | n + 1 => by
    obtain ⟨t, ht⟩ := listT f n
    cases hf : f n with
    | none =>
      refine ⟨t, fun x => ?_⟩
      rw [ht]
      by_cases e : x = n
      · subst e; rw [if_neg (by omega), if_pos (by omega), hf]
      · by_cases h : x < n
        · rw [if_pos h, if_pos (by omega)]
        · rw [if_neg h, if_neg (by omega)]
    | some v =>
      refine ⟨(n, v) :: t, fun x => ?_⟩
      rw [look_cons]
      by_cases e : x = n
      · subst e; rw [if_pos rfl, if_pos (by omega), hf]
      · rw [if_neg e, ht]
        by_cases h : x < n
        · rw [if_pos h, if_pos (by omega)]
        · rw [if_neg h, if_neg (by omega)]
/-- A store into a private variable, whenever it is done. -/
def StoreJ (X : Cx) (o : Oper) (t : T) (id : Nat) (e f : Ent) : Prop :=
  o.guard = none ∧ o.dst = none ∧ ∀ (t' : T) (σ' : Sg), (∀ x, x ∈ o.op.operands → ∀ v, ge t x = some v → ge t' x = some v) → look id σ' = some e → OpJ X o t' σ' (fun t2 σ2 => t2 = t' ∧ σ2 = (id, f) :: σ')
def SStep (X : Cx) (all : Array Oper) (o : Oper) (t : T) (σ : Sg) (V : AV) (F : Option (Nat × Ent × Ent)) : Prop :=
  (F = none ∧ OStep X all o t σ V) ∨ (∃ id e f, F = some (id, e, f) ∧ StoreJ X o t id e f)
theorem calm_anyS {X : Cx} {all : Array Oper} {m : Nat} {t0 : T} {σ : Sg} {V : Nat → AV} {F : Nat → Option (Nat × Ent × Ent)} {Q' : Exit → Act → World → Prop} (hc : CalmR all m) (hm : m ≤ all.size)
    (hstep : ∀ i o, i < m → all[i]? = some o → SStep X all o (states all V t0 i) σ (V i) (F i) ∧ dOk o.dst X.N = true)
    (hds : ∀ i j x e f e' f', i < m → j < m → F i = some (x, e, f) → F j = some (x, e', f') → i = j) (hout : ∀ i x e f, i < m → F i = some (x, e, f) → look x σ = none)
    (hend : ∀ γ H a w listed, St X γ H (states all V t0 m) (sAt F (fun _ => true) σ m) a w → listed.size = all.size → (∀ j, j < all.size → listed.getD j false = decide (j < m)) → wpAnyIn (Fr X.ro) 0 X.P .any all Q' (all.size - m) listed a w) :
    ∀ (fuel : Nat) (listed : Array Bool) (γ : Ids) (H : HF) (a : Act) (w : World), listed.size = all.size →
      (∀ j, m ≤ j → listed.getD j false = false) → (∀ i o, listed.getD i false = true → all[i]? = some o → ∀ e, e ∈ o.after → Region.binds .any e = true → listed.getD e.on false = true) →
      ((List.range m).filter fun j => !listed.getD j false).length + (all.size - m) = fuel →
      TabOk γ H (tabAt all V t0 (fun j => listed.getD j false) m) a.tmps → St X γ H [] (sAt F (fun j => listed.getD j false) σ m) a w →
      wpAnyIn (Fr X.ro) 0 X.P .any all Q' fuel listed a w := by
  intro fuel
  induction fuel with
  | zero =>
    intro listed γ H a w hs htail hclosed hcount htab sst
    have hall : ∀ j, j < m → listed.getD j false = true := fun j hj => by
      have h0 : ((List.range m).filter fun j => !listed.getD j false) = [] := List.length_eq_zero_iff.1 (by omega)
      have := List.filter_eq_nil_iff.1 h0 j (List.mem_range.2 hj)
      simpa using this
    have hmn : m = all.size := by omega
    have hst : St X γ H (states all V t0 m) (sAt F (fun _ => true) σ m) a w := St.withT (by have h9 := sst; rw [sAt_congr (S' := fun _ => true) m (fun j hj _ => hall j hj)] at h9; exact h9) (fun i b hi => htab i b (by
      rw [look_states] at hi
      rw [← hi]
      simp only [tabAt]
      rw [lastW_congr m (fun j hj _ => hall j hj)]))
    have := hend γ H a w listed hst hs (fun j hj => by rw [hall j (by omega)]; simp; omega)
    rw [show all.size - m = 0 from by omega] at this; exact this
  | succ fuel ih =>
    intro listed γ H a w hs htail hclosed hcount htab sst
    by_cases hall : ∀ j, j < m → listed.getD j false = true
    · -- the calm part is over
      have hst : St X γ H (states all V t0 m) (sAt F (fun _ => true) σ m) a w := St.withT (by have h9 := sst; rw [sAt_congr (S' := fun _ => true) m (fun j hj _ => hall j hj)] at h9; exact h9) (fun i b hi => htab i b (by
        rw [look_states] at hi
        rw [← hi]
        simp only [tabAt]
        rw [lastW_congr m (fun j hj _ => hall j hj)]))
      have h0 : ((List.range m).filter fun j => !listed.getD j false) = [] := List.filter_eq_nil_iff.2 fun j hj => by simp only [hall j (List.mem_range.1 hj)]; simp
      rw [h0] at hcount
      simp only [List.length_nil, Nat.zero_add] at hcount
      have := hend γ H a w listed hst hs (fun j hj => by
        by_cases hj' : j < m
        · rw [hall j hj']; simp [hj']
        · rw [htail j (by omega)]; simp; omega)
      rw [hcount] at this
      exact this
    · refine ⟨fun hn => ?_, fun i hi => ?_⟩
      · -- the least that is not listed is ready
        exfalso
        have hex : ∃ j, j < m ∧ listed.getD j false = false := by
          refine Classical.byContradiction fun hno => hall fun j hj => ?_
          cases hx : listed.getD j false with
          | true => rfl
          | false => exact absurd ⟨j, hj, hx⟩ hno
        have hmin : ∃ j, j < m ∧ listed.getD j false = false ∧ ∀ i, i < j → listed.getD i false = true := by
          obtain ⟨j, hj⟩ := hex
          induction j using Nat.strongRecOn with
          | _ j ihj =>
            by_cases hlow : ∀ i, i < j → listed.getD i false = true
            · exact ⟨j, hj.1, hj.2, hlow⟩
            · have : ∃ i, i < j ∧ listed.getD i false = false := by
                refine Classical.byContradiction fun hno => hlow fun i hi => ?_
                cases hx : listed.getD i false with
                | true => rfl
                | false => exact absurd ⟨i, hi, hx⟩ hno
              obtain ⟨i, hi, hx⟩ := this
              exact ihj i hi ⟨by omega, hx⟩
        obtain ⟨j, hj, hjl, hlow⟩ := hmin
        have hjn : j < all.size := by omega
        have hmem' : j ∈ Region.ready .any all listed := by
          rw [mem_ready]
          refine ⟨?_, all[j], by simp [hjn], fun e he hb => hlow _ (hc.back j all[j] (by simp [hjn]) e he hb)⟩
          rw [Array.getD_eq_getD_getElem?] at hjl ⊢
          rw [Array.getElem?_eq_getElem (by omega)] at hjl ⊢
          simpa using hjl
        rw [hn] at hmem'; cases hmem'
      · obtain ⟨h1, o, ho, h2⟩ := ready_sound hi
        obtain ⟨hil, hif⟩ := getD_of h1
        have hin : i < all.size := (Array.getElem?_eq_some_iff.1 ho).1
        have him : i < m := by
          refine Classical.byContradiction fun hge => hall fun j hj => ?_
          exact anc_listed hclosed (hc.tail i o ho (by omega) j hj) ho h2
        -- who writes what i names: listed just if it stands ahead
        have hwr : ∀ x, namesT all o x = true → ∀ j, j < m → dstAt all j = some x → listed.getD j false = decide (j < i) := by
          intro x hx j hj hd'
          cases hp : all[j]? with
          | none => simp [dstAt, hp] at hd'
          | some p =>
            simp only [dstAt, hp, Option.bind_some] at hd'
            by_cases hji : j < i
            · rcases hc.names i o (by omega) ho j p hji hp with h3 | ⟨h3, _⟩
              · rw [edge_listed h3 h2]; simp [hji]
              · rw [h3 x hd'] at hx; cases hx
            · by_cases e : j = i
              · subst e; rw [hif]; simp
              · rcases hc.names j p (by omega) hp i o (by omega) ho with h3 | ⟨_, h3⟩
                · cases hlj : listed.getD j false with
                  | false => simp; omega
                  | true =>
                    have := edge_listed h3 (hclosed j p hlj hp)
                    rw [hif] at this; cases this
                · rw [h3 x hd'] at hx; cases hx
        have htab_i : ∀ x, namesT all o x = true → tabAt all V t0 (fun j => listed.getD j false) m x = look x (states all V t0 i) := by
          intro x hx
          rw [look_states]
          simp only [tabAt]
          rw [lastW_congr m (fun j hj hd' => hwr x hx j hj hd'), lastW_top m (by omega)]
        have hopnd : ∀ x, x ∈ o.op.operands → ∀ v, ge (states all V t0 i) x = some v → Rep γ H v (a.eval x) := by
          intro x hx v hv
          cases x with
          | tmp y =>
            have hy : namesT all o y = true := by
              simp only [namesT, Bool.or_eq_true]
              exact .inl (.inr (List.any_eq_true.2 ⟨_, Array.mem_toList_iff.2 hx, by simp [hasT]⟩))
            obtain ⟨u, hu, hr⟩ := htab y v (by rw [htab_i y hy]; exact hv)
            simp only [Act.eval, Array.getD_eq_getD_getElem?, hu, Option.getD_some]
            exact hr
          | const c => simp only [ge, Option.some.injEq] at hv; subst hv; exact rep_const γ H c
          | func f => simp only [ge, Option.some.injEq] at hv; subst hv; exact .d _ _ (.fn f [] [] rfl (fun j a u h1 => by simp at h1))
          | global g => simp [ge] at hv
        obtain ⟨hos, hdok⟩ := hstep i o him ho
        -- how many are left
        have hleft : ((List.range m).filter fun j => !(listed.setIfInBounds i true).getD j false).length + (all.size - m) = fuel := by
          have hf : ((List.range m).filter fun j => !listed.getD j false).length = ((List.range m).filter fun j => !(listed.setIfInBounds i true).getD j false).length + 1 := by
            have h5 : ∀ (l : List Nat), l.Nodup → i ∈ l → (l.filter fun j => !listed.getD j false).length = (l.filter fun j => !(listed.setIfInBounds i true).getD j false).length + 1 := by
              intro l
              induction l with
              | nil => intro _ h; cases h
              | cons b l ihl =>
                intro hnd hmem'
                rw [List.nodup_cons] at hnd
                by_cases e : i = b
                · subst e
                  have h6 : (listed.setIfInBounds i true).getD i false = true := by
                    rw [Array.getD_eq_getD_getElem?]; simp [hil]
                  have h7 : (l.filter fun j => !listed.getD j false) = (l.filter fun j => !(listed.setIfInBounds i true).getD j false) := by
                    refine List.filter_congr fun j hj => ?_
                    have hne : i ≠ j := fun e => hnd.1 (e ▸ hj)
                    rw [getD_set_ne false hne]
                  simp only [List.filter_cons, hif, h6, Bool.not_false, Bool.not_true, if_true, h7, List.length_cons, Bool.false_eq_true, if_false]
                · have h6 := getD_set_ne (listed := listed) false e
                  have h7 := ihl hnd.2 (by rcases List.mem_cons.1 hmem' with h | h; exact absurd h e; exact h)
                  simp only [List.filter_cons, h6]
                  split <;> simp only [List.length_cons, h7]
            exact h5 _ List.nodup_range (List.mem_range.2 him)
          omega
        have hclosed' : ∀ j p, (listed.setIfInBounds i true).getD j false = true → all[j]? = some p → ∀ e, e ∈ p.after → Region.binds .any e = true → (listed.setIfInBounds i true).getD e.on false = true := fun j p hj hp e he hb => by
          by_cases e' : i = j
          · subst e'
            rw [ho] at hp; simp only [Option.some.injEq] at hp; subst hp
            exact getD_set_true (h2 e he hb)
          · rw [getD_set_ne false e'] at hj
            exact getD_set_true (hclosed j p hj hp e he hb)
        have htail' : ∀ j, m ≤ j → (listed.setIfInBounds i true).getD j false = false := fun j hj => by
          rw [getD_set_ne false (by omega)]; exact htail j hj
        have hset : (fun j => (listed.setIfInBounds i true).getD j false) = fun j => if j = i then true else listed.getD j false := funext fun j => by
          by_cases e : j = i
          · subst e; rw [if_pos rfl, Array.getD_eq_getD_getElem?]; simp [hil]
          · rw [if_neg e, getD_set_ne false (fun h => e h.symm)]
        -- behind a quiet one
        have hnext : F i = none → ∀ v γ' σ' H' w', Mem w H (fun _ => False) γ' H' σ' w' → Rep γ H' (V i) v → wpAnyIn (Fr X.ro) 0 X.P .any all Q' fuel (listed.setIfInBounds i true) (a.put o.dst v) w' := by
          intro hE v γ' σ' H' w' hm' hr
          have sst' : St X γ H' [] (sAt F (fun j => (listed.setIfInBounds i true).getD j false) σ m) (a.put o.dst v) w' := by
            have h9 := sst.calm (d := o.dst) hm' hdok hr
            rw [sAt_congr (S' := fun j => listed.getD j false) m (fun j hj hne => by
              have e' : i ≠ j := fun e => by subst e; exact hne hE
              exact getD_set_ne false e')]
            exact h9.wk (Wk.nil _) (Wk.refl _)
          refine ih _ γ H' _ w' (by simpa using hs) htail' hclosed' hleft ?_ sst'
          · -- the table
            intro x b hx
            by_cases hxd : o.dst = some x
            · have hlw : tabAt all V t0 (fun j => (listed.setIfInBounds i true).getD j false) m x = some (V i) := by
                have hnx : namesT all o x = true := by simp [namesT, hxd]
                simp only [tabAt]
                have : lastW all (fun j => (listed.setIfInBounds i true).getD j false) x m = lastW all (fun j => decide (j < i + 1)) x m := by
                  refine lastW_congr m fun j hj hd' => ?_
                  by_cases e : i = j
                  · subst e; rw [Array.getD_eq_getD_getElem?]; simp [hil]
                  · show (listed.setIfInBounds i true).getD j false = _
                    rw [getD_set_ne false e, hwr x hnx j hj hd']
                    simp; omega
                rw [this, lastW_top m (by omega)]
                have hda : dstAt all i = some x := by simp [dstAt, ho, hxd]
                simp [lastW, hda]
              rw [hlw] at hx
              simp only [Option.some.injEq] at hx
              subst hx
              have hlt : x < a.tmps.size := by have := sst.size; rw [hxd] at hdok; simp only [dOk, Nat.blt_eq] at hdok; omega
              exact ⟨v, by rw [hxd]; simp [Act.put, hlt], hr⟩
            · have hlw : tabAt all V t0 (fun j => (listed.setIfInBounds i true).getD j false) m x = tabAt all V t0 (fun j => listed.getD j false) m x := by
                simp only [tabAt]
                rw [lastW_congr m fun j hj hd' => ?_]
                have e : i ≠ j := fun e => by subst e; simp [dstAt, ho] at hd'; exact hxd hd'
                exact getD_set_ne false e
              rw [hlw] at hx
              obtain ⟨u, hu, hr'⟩ := htab x b hx
              refine ⟨u, ?_, hr'.mono hm'.hle⟩
              cases hod : o.dst with
              | none => simpa [Act.put, hod] using hu
              | some d =>
                have hne : d ≠ x := fun e => hxd (by rw [hod, e])
                simp only [Act.put]
                rw [Array.getElem?_setIfInBounds, if_neg hne]; exact hu
        have hmemσ : Mem X.w0 X.H0 X.B γ H σ w := sst.mem.wk (fun x e hx => sAt_old hx (fun j y e' f' hj hF hyx => by
          subst hyx
          rw [hout j _ _ _ hj hF] at hx; cases hx) m (Nat.le_refl _))
        -- its guard
        have hguard : ∀ j b' d b, o.guard = some (j, b') → ((all[j]?).bind (·.dst)) = some d → look d (states all V t0 i) = some (.d (.v (.bool b))) → yielded all a.tmps j = some b := by
          intro j b' d b hg hd' hl
          have hnd : namesT all o d = true := by simp [namesT, hg, hd']
          obtain ⟨u, hu, hr⟩ := htab d _ (by rw [htab_i d hnd]; exact hl)
          have := rep_v hr
          subst this
          simp [yielded, hd', hu]
        have hguardU : ∀ j b' d, o.guard = some (j, b') → ((all[j]?).bind (·.dst)) = some d → look d (states all V t0 i) = some (.tup []) → yielded all a.tmps j = none := by
          intro j b' d hg hd' hl
          have hnd : namesT all o d = true := by simp [namesT, hg, hd']
          obtain ⟨u, hu, hr⟩ := htab d _ (by rw [htab_i d hnd]; exact hl)
          have := rep_undef_eq hr
          subst this
          simp [yielded, hd', hu, undef]
        unfold wpOpIn
        simp only [ho]
        rcases hos with ⟨hE, ⟨hg, hq⟩ | ⟨j, b, d, hg, hd', hl, hq⟩ | ⟨j, b, b', d, hg, hd', hl, hne, hV⟩ | ⟨j, b, d, hg, hd', hl, hV⟩⟩ | ⟨id, en, en', hE, hst⟩
        · have hw : Region.wanted o (yielded all a.tmps) = true := by simp [Region.wanted, hg]
          rw [if_pos hw]
          exact ⟨fun _ _ => trivial, hq γ H a w sst.lam hopnd hmemσ _ _ (hnext hE)⟩
        · have hw : Region.wanted o (yielded all a.tmps) = true := by simp [Region.wanted, hg, hguard j b d b hg hd' hl]
          rw [if_pos hw]
          exact ⟨fun _ _ => trivial, hq γ H a w sst.lam hopnd hmemσ _ _ (hnext hE)⟩
        · have hw : Region.wanted o (yielded all a.tmps) = false := by simp [Region.wanted, hg, hguard j b d b' hg hd' hl, hne]
          simp only [hw, Bool.false_eq_true, if_false]
          exact ⟨fun _ _ => trivial, hnext hE undef γ [] H w (sst.mem.refl γ) (by rw [hV]; exact rep_undef)⟩
        · have hw : Region.wanted o (yielded all a.tmps) = false := by simp [Region.wanted, hg, hguardU j b d hg hd' hl]
          simp only [hw, Bool.false_eq_true, if_false]
          exact ⟨fun _ _ => trivial, hnext hE undef γ [] H w (sst.mem.refl γ) (by rw [hV]; exact rep_undef)⟩
        · obtain ⟨hg, hd0, hj⟩ := hst
          have hw : Region.wanted o (yielded all a.tmps) = true := by simp [Region.wanted, hg]
          rw [if_pos hw]
          refine ⟨fun _ _ => trivial, ?_⟩
          -- all temporaries, told as a list
          obtain ⟨tc, htc⟩ : ∃ tc : T, ∀ x, look x tc = tabAt all V t0 (fun j => listed.getD j false) m x := by
            obtain ⟨tc, h5⟩ := listT (fun x => tabAt all V t0 (fun j => listed.getD j false) m x) a.tmps.size
            refine ⟨tc, fun x => ?_⟩
            rw [h5]
            split
            · rfl
            · next hx =>
              cases hv : tabAt all V t0 (fun j => listed.getD j false) m x with
              | none => rfl
              | some b =>
                obtain ⟨u, hu, _⟩ := htab x b hv
                exact absurd (Array.getElem?_eq_some_iff.1 hu).1 hx
          have hsc : St X γ H tc (sAt F (fun j => listed.getD j false) σ m) a w := St.withT sst (fun x b hx => htab x b (by rw [← htc]; exact hx))
          have hlk : look id (sAt F (fun j => listed.getD j false) σ m) = some en := by
            rw [sAt_is (fun i j x e f e' f' hi hj h1 h2 => hds i j x e f e' f' hi hj h1 h2) him hE m (Nat.le_refl _) him]
            simp only [hif]
          have key := hj tc (sAt F (fun j => listed.getD j false) σ m) (fun x hx v hv => by
            cases x with
            | tmp y =>
              have hy : namesT all o y = true := by
                simp only [namesT, Bool.or_eq_true]
                exact .inl (.inr (List.any_eq_true.2 ⟨_, Array.mem_toList_iff.2 hx, by simp [hasT]⟩))
              show look y tc = some v
              rw [htc, htab_i y hy]; exact hv
            | const c => exact hv
            | func f => exact hv
            | global g => exact hv) hlk
          refine key γ H a w hsc _ _ ?_
          rintro γ' H' t' σ' a' w' s' ⟨rfl, rfl⟩
          refine ih _ γ' H' a' w' (by simpa using hs) htail' hclosed' hleft (fun x b hx => ?_) ?_
          · refine s'.tmp x b ?_
            rw [htc, ← hx]
            simp only [tabAt]
            rw [lastW_congr m fun j hj hd' => ?_]
            have e : i ≠ j := fun e => by subst e; simp [dstAt, ho, hd0] at hd'
            exact (getD_set_ne false e).symm
          · rw [hset]
            refine s'.wk (Wk.nil _) fun x e hx => ?_
            rw [sAt_step (fun i j x e f e' f' hi hj h1 h2 => hds i j x e f e' f' hi hj h1 h2) him hE m (Nat.le_refl _) him] at hx
            rw [look_cons]; exact hx

def CS (X : Cx) (all : Array Oper) (σ0 σ : Sg) (Q : T → Sg → Prop) : List Oper → T → Sg → Prop
  | [], t, ss => ∃ t', Wk t' t ∧ Q t' ss
  | o :: rest, t, ss =>
    (∃ V, OStep X all o t σ V ∧ dOk o.dst X.N = true ∧ CS X all σ0 σ Q rest (putT o.dst V t) ss) ∨
    (∃ id e f, StoreJ X o t id e f ∧ look id σ0 = some e ∧ look id σ = none ∧ look id ss = none ∧ CS X all σ0 σ Q rest t ((id, f) :: ss))
def consF : Option (Nat × Ent × Ent) → Sg → Sg
  | some (i, _, f), ss => (i, f) :: ss
  | none, ss => ss
def sFrom (F : Nat → Option (Nat × Ent × Ent)) (k : Nat) (ss : Sg) : Nat → Sg
  | 0 => ss
  | j + 1 => consF (F (k + j)) (sFrom F k ss j)
theorem sFrom_congr {F F' : Nat → Option (Nat × Ent × Ent)} {k : Nat} {ss : Sg} : ∀ j, (∀ i, k ≤ i → i < k + j → F i = F' i) → sFrom F k ss j = sFrom F' k ss j
  | 0, _ => rfl
  | j + 1, h => by
    simp only [sFrom]
    rw [h (k + j) (by omega) (by omega), sFrom_congr j (fun i h1 h2 => h i h1 (by omega))]
theorem sFrom_succ {F : Nat → Option (Nat × Ent × Ent)} {k : Nat} {ss : Sg} : ∀ j, sFrom F k ss (j + 1) = sFrom F (k + 1) (consF (F k) ss) j
  | 0 => rfl
  | j + 1 => by
    rw [sFrom, sFrom_succ j, sFrom]
    rw [show k + (j + 1) = k + 1 + j from by omega]
theorem sAt_all {F : Nat → Option (Nat × Ent × Ent)} {σ : Sg} : ∀ j, sAt F (fun _ => true) σ j = sFrom F 0 [] j ++ σ
  | 0 => rfl
  | j + 1 => by
    simp only [sAt, sFrom, Nat.zero_add]
    rw [sAt_all j]
    cases F j <;> rfl
def STab (X : Cx) (all : Array Oper) (σ0 σ : Sg) (Q : T → Sg → Prop) (rest : List Oper) (k : Nat) (t : T) (ss : Sg) : Prop :=
    ∃ (V : Nat → AV) (F : Nat → Option (Nat × Ent × Ent)), (∀ j o, j < rest.length → all[k + j]? = some o → SStep X all o (statesFrom all V t k j) σ (V (k + j)) (F (k + j)) ∧ dOk o.dst X.N = true) ∧
      (∃ t', Wk t' (statesFrom all V t k rest.length) ∧ Q t' (sFrom F k ss rest.length)) ∧
      (∀ j x e f, j < rest.length → F (k + j) = some (x, e, f) → look x σ0 = some e ∧ look x σ = none ∧ look x ss = none) ∧
      (∀ i j x e f e' f', i < rest.length → j < rest.length → F (k + i) = some (x, e, f) → F (k + j) = some (x, e', f') → i = j)
theorem CS.table {X : Cx} {all : Array Oper} {σ0 σ : Sg} {Q : T → Sg → Prop} : ∀ (rest : List Oper) (k : Nat) (t : T) (ss : Sg), (∀ j, j < rest.length → all[k + j]? = rest[j]?) → CS X all σ0 σ Q rest t ss → STab X all σ0 σ Q rest k t ss
  | [], k, t, ss, _, h => ⟨fun _ => .junk, fun _ => none, fun j o hj => by simp at hj, h, fun j x e f hj => by simp at hj, fun i j x e f e' f' hi => by simp at hi⟩
  | p :: rest, k, t, ss, ha, h => by
    have hk : all[k]? = some p := by simpa using ha 0 (by simp)
    have hdk : dstAt all k = p.dst := by simp [dstAt, hk]
    have ha' : ∀ j, j < rest.length → all[k + 1 + j]? = rest[j]? := fun j hj => by have := ha (j + 1) (by simp; omega); rw [show k + 1 + j = k + (j + 1) from by omega]; simpa using this
    have hne : ∀ j, k + (j + 1) ≠ k := fun j => by omega
    have hadd : ∀ j, k + (j + 1) = k + 1 + j := fun j => by omega
    have key : ∀ (V0 : AV) (F0 : Option (Nat × Ent × Ent)), SStep X all p t σ V0 F0 → dOk p.dst X.N = true → CS X all σ0 σ Q rest (putT p.dst V0 t) (consF F0 ss) →
        (∀ x e f, F0 = some (x, e, f) → look x σ0 = some e ∧ look x σ = none ∧ look x ss = none) → STab X all σ0 σ Q (p :: rest) k t ss := by
      intro V0 F0 hB hdok h4 hF0
      obtain ⟨V', F', i1, ⟨t', i2, i3⟩, ia, ib⟩ := CS.table rest (k + 1) _ _ ha' h4
      have hV : ∀ j, statesFrom all (fun i => if i = k then V0 else V' i) t k (j + 1) = statesFrom all V' (putT p.dst V0 t) (k + 1) j := fun j => by
        rw [statesFrom_succ, hdk]
        simp only [if_true]
        exact statesFrom_congr j fun i h7 h8 => if_neg (by omega)
      have hFF : ∀ j, sFrom (fun i => if i = k then F0 else F' i) k ss (j + 1) = sFrom F' (k + 1) (consF F0 ss) j := fun j => by
        rw [sFrom_succ]
        simp only [if_true]
        exact sFrom_congr (F := fun i => if i = k then F0 else F' i) (F' := F') j fun i h7 h8 => if_neg (by omega)
      refine ⟨fun i => if i = k then V0 else V' i, fun i => if i = k then F0 else F' i, ?_, ⟨t', by rw [List.length_cons, hV]; exact i2, by rw [List.length_cons, hFF]; exact i3⟩, ?_, ?_⟩
      · intro j o hj ho
        cases j with
        | zero =>
          rw [Nat.add_zero, hk] at ho
          simp only [Option.some.injEq] at ho
          subst ho
          simp only [Nat.add_zero, if_true, statesFrom]
          exact ⟨hB, hdok⟩
        | succ j =>
          rw [hV]
          simp only [if_neg (hne j)]
          have := i1 j o (by simpa using hj) (by rw [← hadd j]; exact ho)
          rw [hadd j]; exact this
      · intro j x e f hj hF
        cases j with
        | zero =>
          simp only [Nat.add_zero, if_true] at hF
          exact hF0 x e f hF
        | succ j =>
          simp only [if_neg (hne j)] at hF; rw [hadd j] at hF
          obtain ⟨g1, g2, g3⟩ := ia j x e f (by simpa using hj) hF
          refine ⟨g1, g2, ?_⟩
          cases F0 with
          | none => exact g3
          | some q =>
            obtain ⟨y, e0, f0⟩ := q
            simp only [consF] at g3
            rw [look_cons] at g3
            split at g3
            · cases g3
            · exact g3
      · have cross : ∀ j x e f e' f', j < rest.length → F0 = some (x, e, f) → F' (k + 1 + j) = some (x, e', f') → False := fun j x e f e' f' hj h1 h2 => by
          obtain ⟨_, _, g3⟩ := ia j x e' f' hj h2
          rw [h1] at g3
          simp only [consF] at g3
          rw [look_cons, if_pos rfl] at g3; cases g3
        intro i j x e f e' f' hi hj h1 h2
        cases i with
        | zero =>
          simp only [Nat.add_zero, if_true] at h1
          cases j with
          | zero => rfl
          | succ j =>
            simp only [if_neg (hne j)] at h2; rw [hadd j] at h2
            exact (cross j x e f e' f' (by simpa using hj) h1 h2).elim
        | succ i =>
          simp only [if_neg (hne i)] at h1; rw [hadd i] at h1
          cases j with
          | zero =>
            simp only [Nat.add_zero, if_true] at h2
            exact (cross i x e' f' e f (by simpa using hi) h2 h1).elim
          | succ j =>
            simp only [if_neg (hne j)] at h2; rw [hadd j] at h2
            rw [ib i j x e f e' f' (by simpa using hi) (by simpa using hj) h1 h2]
    rcases h with ⟨V0, h1, h2, h4⟩ | ⟨id0, e0, f0, hs, g1, g2, g3, h4⟩
    · exact key V0 none (.inl ⟨rfl, h1⟩) h2 h4 (fun x e f h => by cases h)
    · have hd0 := hs.2.1
      exact key .junk (some (id0, e0, f0)) (.inr ⟨id0, e0, f0, rfl, hs⟩) (by rw [hd0]; rfl) (by rw [hd0]; exact h4) (fun x e f h => by cases h; exact ⟨g1, g2, g3⟩)
theorem WJ.calmS {X : Cx} {id : Nat} {ops : Array Oper} {t : T} {σ0 σ : Sg} {R : T → Sg → Prop} {Q' : Exit → Act → World → Prop} (m : Nat) (hm : X.P.follows .mixedOrders = true) (hc : CalmR ops m) (hle : m ≤ ops.size) (hσ : Wk σ σ0)
    (hend : ∀ t ss, R t ss → ∀ γ H a w listed, St X γ H t (ss ++ σ) a w → listed.size = ops.size → (∀ j, j < ops.size → listed.getD j false = decide (j < m)) → wpAnyIn (Fr X.ro) 0 X.P .any ops Q' (ops.size - m) listed a w)
    (h : CS X ops σ0 σ R (ops.toList.take m) t []) : ∀ γ H a w, St X γ H t σ0 a w → (Code.region id ops true).wpIn (Fr X.ro) 0 X.P Q' a w := by
  intro γ H a w s
  refine wpIn_region_any hm ?_
  have hlen : (ops.toList.take m).length = m := by simp; omega
  obtain ⟨V, F, h1, ⟨t', h2, h3⟩, ha, hb⟩ := CS.table (ops.toList.take m) 0 t [] (fun j hj => by rw [hlen] at hj; rw [Nat.zero_add, List.getElem?_take, if_pos hj]; simp) h
  simp only [hlen, Nat.zero_add] at h1 h2 h3 ha hb
  have s' : St X γ H t σ0 a { w with drawn := w.drawn + 1 } := ⟨s.lam, s.round, s.defers, s.size, s.pinned, s.tmp, s.mem.drew⟩
  have hall : ∀ j, (Array.replicate ops.size false).getD j false = false := fun j => by
    rw [Array.getD_eq_getD_getElem?, Array.getElem?_replicate]; split <;> rfl
  refine calm_anyS hc hle (V := V) (F := F) (σ := σ) (fun i o hi ho => by
    have := h1 i o hi ho
    rw [statesFrom_zero] at this
    exact this) (fun i j x e f e' f' hi hj h1 h2 => hb i j x e f e' f' hi hj h1 h2) (fun i x e f hi hF => (ha i x e f hi hF).2.1) (fun γ H a w lst st hls hlst => ?_) ops.size _ γ H a _ (by simp) (fun j _ => hall j) (fun i o hi => by rw [hall i] at hi; cases hi) ?_ ?_ ?_
  · rw [sAt_all] at st
    exact hend _ _ h3 γ H a w lst (st.wk (by rw [statesFrom_zero] at h2; exact h2) (Wk.refl _)) hls hlst
  · have : ((List.range m).filter fun j => !(Array.replicate ops.size false).getD j false) = List.range m := List.filter_eq_self.2 fun j _ => by rw [hall j]; rfl
    rw [this, List.length_range]; omega
  · intro x b hx
    have : lastW ops (fun j => (Array.replicate ops.size false).getD j false) x m = none := by
      have h0 : ∀ k, lastW ops (fun _ => false) x k = none := fun k => by
        induction k with
        | zero => rfl
        | succ k ih => simp [lastW, ih]
      rw [lastW_congr (S' := fun _ => false) m (fun j _ _ => hall j)]; exact h0 m
    simp only [tabAt, this] at hx
    exact s.tmp x b hx
  · have e0 : sAt F (fun j => (Array.replicate ops.size false).getD j false) σ m = sAt F (fun _ => false) σ m := sAt_congr m fun j _ _ => hall j
    rw [e0]
    refine s'.wk (Wk.nil _) fun x e hx => ?_
    have up : ∀ k, k ≤ m → look x (sAt F (fun _ => false) σ k) = some e → look x σ0 = some e := fun k => by
      induction k with
      | zero => exact fun _ h => hσ x e h
      | succ k ih =>
        intro hk h
        simp only [sAt] at h
        cases hF : F k with
        | none => rw [hF] at h; exact ih (by omega) h
        | some q =>
          obtain ⟨y, e1, f1⟩ := q
          rw [hF] at h
          simp only at h
          rw [look_cons] at h
          split at h
          · next hy =>
            subst hy
            cases h
            exact (ha k _ _ _ (by omega) hF).1
          · exact ih (by omega) h
    exact up m (Nat.le_refl _) hx
/-! ### The reckoning -/
def inN (i : Nat) : List Nat → Bool
  | [] => false
  | j :: r => match Nat.beq i j with | true => true | false => inN i r
def hideS (ks : List Nat) : Sg → Sg
  | [] => []
  | (i, e) :: σ => match inN i ks with | true => hideS ks σ | false => (i, e) :: hideS ks σ
theorem hideS_wk (ks : List Nat) : ∀ σ : Sg, Wk (hideS ks σ) σ ∧ ∀ i, inN i ks = true → look i (hideS ks σ) = none
  | [] => ⟨Wk.nil _, fun _ _ => rfl⟩
  | (j, e) :: σ => by
    obtain ⟨h1, h2⟩ := hideS_wk ks σ
    have go : ∀ i a, inN i ks = false → look i (hideS ks σ) = some a → look i σ = some a := fun i a _ h => h1 i a h
    refine ⟨fun i a hi => ?_, fun i hi => ?_⟩
    · have hn : inN i ks = false := by
        cases h : inN i ks with
        | false => rfl
        | true =>
          have : look i (hideS ks ((j, e) :: σ)) = none := by
            simp only [hideS]
            split
            · exact h2 i h
            · next hj =>
              rw [look_cons, if_neg (fun e => by subst e; rw [h] at hj; cases hj)]
              exact h2 i h
          rw [this] at hi; cases hi
      simp only [hideS] at hi
      split at hi
      · next hj =>
        rw [look_cons, if_neg (fun e => by subst e; rw [hn] at hj; cases hj)]
        exact h1 i a hi
      · rw [look_cons] at hi ⊢
        split
        · next e => rw [if_pos e] at hi; exact hi
        · next e => rw [if_neg e] at hi; exact h1 i a hi
    · simp only [hideS]
      split
      · exact h2 i hi
      · next hj =>
        rw [look_cons, if_neg (fun e => by subst e; rw [hi] at hj; cases hj)]
        exact h2 i hi
/-- A store of the head. -/
def stS (X : Cx) (e : TypeId) (x y : Operand) (t : T) (σ0 σ ss : Sg) (K : Nat → Ent → Prop) : Prop := match szOf X.P e, ge t x, ge t y with
  | some n, some (.box i off), some v => (match look i σ0, look i σ, look i ss with
    | some (.cells cs), none, none => (match oneAV v && oneAll (avCells v) && Nat.beq (avCells v).length n && Nat.ble (off + n) cs.length with
      | true => frcN (off + n) (setF cs off (avCells v)) fun cs' => K i (.cells cs')
      | false => False)
    | _, _, _ => False)
  | _, _, _ => False
def stepS (X : Cx) (o : Oper) (t : T) (σ : Sg) (K : T → Prop) : Prop :=
  qw X o t σ (fun V => match dOk o.dst X.N with | true => K (putT o.dst V t) | false => False) (QuietP X o t σ (fun V => match dOk o.dst X.N with | true => K (putT o.dst V t) | false => False) fun _ _ _ => False)
def vS (X : Cx) (all : Array Oper) (σ0 σ : Sg) (Q : T → Sg → Prop) : List Oper → T → Sg → Prop
  | [], t, ss => Q t ss
  | o :: rest, t, ss => match o.op, o.dst, o.guard with
    | .store e x y, none, none => stS X e x y t σ0 σ ss fun i f => vS X all σ0 σ Q rest t ((i, f) :: ss)
    | _, _, none => stepS X o t σ fun t => vS X all σ0 σ Q rest t ss
    | _, _, some (j, b0) => match dstOf all j, dOk o.dst X.N with
      | some d, true => (match look d t with
        | some (.d (.v (.bool b))) => grd b0 b d t (fun t => stepS X o t σ fun t => vS X all σ0 σ Q rest t ss) (fun t => vS X all σ0 σ Q rest (putT o.dst (.tup []) t) ss)
        | some (.tup []) => vS X all σ0 σ Q rest (putT o.dst (.tup []) t) ss
        | _ => False)
      | _, _ => False
theorem StoreJ.wk {X : Cx} {o : Oper} {t t' : T} {id : Nat} {e f : Ent} (hw : Wk t' t) (h : StoreJ X o t' id e f) : StoreJ X o t id e f :=
  ⟨h.1, h.2.1, fun t2 σ2 hx hl => h.2.2 t2 σ2 (fun x hx2 v hv => hx x hx2 v (by
    cases x with
    | tmp i => exact hw i v hv
    | const c => exact hv
    | func f => exact hv
    | global g => exact hv)) hl⟩
theorem CS.wk {X : Cx} {all : Array Oper} {σ0 σ : Sg} {Q : T → Sg → Prop} : ∀ (rest : List Oper) (t t' : T) (ss : Sg), Wk t' t → CS X all σ0 σ Q rest t' ss → CS X all σ0 σ Q rest t ss
  | [], t, t', ss, hw, ⟨t'', h1, h2⟩ => ⟨t'', h1.trans hw, h2⟩
  | o :: rest, t, t', ss, hw, h => by
    rcases h with ⟨V, h1, h2, h4⟩ | ⟨id, e, f, hs, g1, g2, g3, h4⟩
    · exact .inl ⟨V, h1.wk hw, h2, CS.wk rest _ _ ss hw.put h4⟩
    · exact .inr ⟨id, e, f, hs.wk hw, g1, g2, g3, CS.wk rest _ _ _ hw h4⟩
theorem stepS_sound {X : Cx} {all : Array Oper} {o : Oper} {t : T} {σ0 σ ss : Sg} {rest : List Oper} {Q : T → Sg → Prop} {K : T → Prop} (hK : ∀ t, K t → CS X all σ0 σ Q rest t ss)
    (hg : o.guard = none ∨ ∃ j b d, o.guard = some (j, b) ∧ ((all[j]?).bind (·.dst)) = some d ∧ look d t = some (.d (.v (.bool b)))) (h : stepS X o t σ K) : CS X all σ0 σ Q (o :: rest) t ss := by
  have fin : ∀ V, QJ X o t σ V → (match dOk o.dst X.N with | true => K (putT o.dst V t) | false => False) → CS X all σ0 σ Q (o :: rest) t ss := fun V hq hk => by
    split at hk
    · next hb =>
      rcases hg with hg | ⟨j, b, d, h1, h2, h3⟩
      · exact .inl ⟨V, .inl ⟨hg, hq⟩, hb, hK _ hk⟩
      · exact .inl ⟨V, .inr (.inl ⟨j, b, d, h1, h2, h3, hq⟩), hb, hK _ hk⟩
    · exact hk.elim
  unfold stepS at h
  rcases qw_sound h with ⟨V, hq, hk⟩ | h
  · exact fin V hq hk
  · cases h with
    | of hq hk => exact fin _ hq hk
    | born hb hk => exact hk.elim
theorem stS_sound {X : Cx} {o : Oper} {e : TypeId} {x y : Operand} {t : T} {σ0 σ ss : Sg} {K : Nat → Ent → Prop} (ho : o.op = .store e x y) (hd : o.dst = none) (hg : o.guard = none) (h : stS X e x y t σ0 σ ss K) :
    ∃ id en f, StoreJ X o t id en f ∧ look id σ0 = some en ∧ look id σ = none ∧ look id ss = none ∧ K id f := by
  unfold stS at h
  split at h
  · next n i off v hs hx hy =>
    split at h
    · next cs h1 h2 h3 =>
      split at h
      · next hb =>
        simp only [Bool.and_eq_true, Nat.ble_eq, Nat.beq_eq] at hb
        rw [frcN_eq, setF_eq] at h
        obtain ⟨d, op, ty, pos, aft, g⟩ := o
        simp only at ho hd hg
        subst ho; subst hd; subst hg
        refine ⟨i, _, _, ⟨rfl, rfl, fun t' σ' hop hl => ?_⟩, h1, h2, h3, h⟩
        exact O.store (hop x (by simp [Op.operands]) _ hx) rfl (hop y (by simp [Op.operands]) _ hy) hl hb.1.1.1 hb.1.1.2 (szOf_run hs) hb.1.2 hb.2 rfl ⟨rfl, rfl⟩
      · exact h.elim
    · exact h.elim
  · exact h.elim
theorem vS_sound {X : Cx} {all : Array Oper} {σ0 σ : Sg} {Q : T → Sg → Prop} : ∀ (rest : List Oper) (t : T) (ss : Sg), vS X all σ0 σ Q rest t ss → CS X all σ0 σ Q rest t ss
  | [], t, ss, h => ⟨t, Wk.refl t, h⟩
  | o :: rest, t, ss, h => by
    unfold vS at h
    split at h
    · next e x y ho hd hg =>
      obtain ⟨id, en, f, h1, h2, h3, h4, h5⟩ := stS_sound ho hd hg h
      exact .inr ⟨id, en, f, h1, h2, h3, h4, vS_sound rest t _ h5⟩
    · next hg _ => exact stepS_sound (fun t h => vS_sound rest t ss h) (.inl hg) h
    · next j b0 hg =>
      split at h
      · next d hd hN =>
        have hd' : ((all[j]?).bind (·.dst)) = some d := by rw [dstOf_eq]; exact hd
        split at h
        · next b hb =>
          have yes : ∀ c, b = c → stepS X o ((d, .d (.v (.bool c))) :: t) σ (fun t => vS X all σ0 σ Q rest t ss) → c = b0 → CS X all σ0 σ Q (o :: rest) t ss := fun c hc he hcb => by
            subst hc; subst hcb
            exact CS.wk _ _ _ _ (Wk.cons hb (Wk.refl t)) (stepS_sound (fun t h => vS_sound rest t ss h) (.inr ⟨j, b, d, hg, hd', by rw [look_cons, if_pos rfl]⟩) he)
          have no : ∀ c, b = c → vS X all σ0 σ Q rest (putT o.dst (.tup []) ((d, .d (.v (.bool c))) :: t)) ss → c ≠ b0 → CS X all σ0 σ Q (o :: rest) t ss := fun c hc he hcb => by
            subst hc
            exact CS.wk _ _ _ _ (Wk.cons hb (Wk.refl t)) (.inl ⟨.tup [], .inr (.inr (.inl ⟨j, b0, b, d, hg, hd', by rw [look_cons, if_pos rfl], hcb, rfl⟩)), hN, vS_sound rest _ ss he⟩)
          cases b0 with
          | true => cases b with
            | true => exact yes true rfl (h.1 rfl) rfl
            | false => exact no false rfl (h.2 rfl) (by simp)
          | false => cases b with
            | true => exact no true rfl (h.1 rfl) (by simp)
            | false => exact yes false rfl (h.2 rfl) rfl
        · next hb => exact .inl ⟨.tup [], .inr (.inr (.inr ⟨j, b0, d, hg, hd', hb, rfl⟩)), hN, vS_sound rest _ ss h⟩
        · exact h.elim
      · exact h.elim
/-- **A region that draws its order: quiet operations ahead, and stores into the variables ks, in any order, the rest by all orders.** -/
theorem RegP.mixS {X : Cx} {id : Nat} {ops : Array Oper} {t : T} {σ : Sg} {Q : T → Sg → Prop} (m : Nat) (ks : List Nat) (hm : X.P.follows .mixedOrders = true) (hc : (calmB2 ops m && Nat.ble m ops.size) = true)
    (h : vS X ops σ (hideS ks σ) (fun t ss => vO X ops Q (ops.size - m) (trues m (falses (ops.size - m))) t (ss ++ hideS ks σ)) (ops.toList.take m) t []) : RegP X id ops t σ Q := by
  intro Q' hQ
  simp only [Bool.and_eq_true, Nat.ble_eq] at hc
  refine WJ.calmS m hm (calmB2_R hc.1) hc.2 (hideS_wk ks σ).1 (fun t σ h3 γ H a w lst hst hls hlst => ?_) (vS_sound _ _ _ h)
  have e : lst = (trues m (falses (ops.size - m))).toArray := by
    rw [trues_eq, falses_eq]
    apply Array.ext
    · simp [hls]; omega
    · intro j h1 h2
      have hj := hlst j (by omega)
      rw [Array.getD_eq_getD_getElem?, Array.getElem?_eq_getElem h1, Option.getD_some] at hj
      rw [hj, List.getElem_toArray, List.getElem_append]
      split
      · next h3 => simp at h3; simp [h3]
      · next h3 => simp at h3; simp; omega
  rw [e]
  exact vO_sound (Q := Q) (Q' := Post X Q') (fun γ H t σ a w s q => ⟨γ, H, t, σ, s, hQ t σ q⟩) (ops.size - m) _ t _ h3 γ H a w hst
end Go.Gv
end
section
open Go Go.Gv
attribute [local irreducible] Go.Gv.WJ Go.Gv.OpJ Go.Gv.QJ Go.Gv.Spl Go.Gv.Req Go.Gv.IdxP Go.Gv.RegP Go.Gv.FinP Go.Gv.CellP Go.Gv.CellsP Go.Gv.ArrP Go.Gv.ArrsP Go.Gv.DropP Go.Gv.ByteP Go.Gv.StoreP
set_option maxRecDepth 100000
namespace Go.Proofs.E
attribute [local irreducible] elems
theorem Take_c {s : SS} {l : List OP} (h : isS s l) (R : List OP) {o : OP} (hw : wrongO l o = 0) : Cv 58 [vv s l R, opv o, stv (appS s l o), iv (atO l o)] (.tup [vv (appS s l o) (l ++ [o]) R, chv (chO l o)]) := by
  have hd : Dn (l ++ [o]) := .snoc h.dn hw
  have hs := appS_is h o
  rw [show appL l o = l ++ [o] from if_pos hw] at hs
  have hsm := hs.small
  obtain ⟨n, e, hat, _, hget, hid⟩ := at_get h.dn hw
  have hlen := h.dn.len2
  have hoc := (wrong_0 hw).1
  have hch : chO l o = ⟨((l ++ [o]).length : Nat), rankL (rowE (l ++ [o])) (n : Nat), e.id, e.ch, decide (o.k = 1)⟩ := by
    unfold chO
    rw [hat, Int.toNat_natCast, hget, hid]; rfl
  have hatc := At_c (appS s l o).t (n : Nat) (by omega)
  rw [atT_row hs, hget] at hatc
  have hrk := Rank_c (appS s l o).t (n : Nat) (by omega) (by omega) (by have := (List.getElem?_eq_some_iff.1 hget).1; have := row_le hd; omega)
  rw [hs.els] at hrk
  rw [hat, hch]
  have hwr : IntKind.i64.wrap ((l.length : Nat) + 1) = ((l ++ [o]).length : Nat) := by rw [wrap_id _ (by omega) (by omega)]; simp
  have hput : o.k = 0 → Cv 90 [tlv (sumV l), idv o.i] (.tup [tlv (sumV (l ++ [o])), iv 0]) := fun hk => by
    rw [sumV_snoc0 hk]
    refine PutOk_c (sumV l) o.i (sum_ok h.dn) (checkO_may hoc) ?_
    have h1 := hd.is.len
    rw [insL_snoc0 hk, List.length_append] at h1
    rw [sumV_n]; simp at h1; omega
  have hsame : o.k ≠ 0 → sumV (l ++ [o]) = sumV l := sumV_snoc1
  generalize appS s l o = s' at *
  generalize rankL (rowE (l ++ [o])) (n : Nat) = rk at *
  refine Ct.of_vc Tryz.f58 Tryz.func58 rfl rfl fun w H B g0 => ?_
  refine OpJ.callV hatc (fun _ _ => rfl) rfl rfl rfl ?_
  (repeat (first | refine Spl.t rfl ?_ | refine Spl.f rfl ?_))
  refine Spl.of (fun h1 => ?_) (fun h1 => ?_)
  · have h1 : o.k = 0 := of_decide_eq_true h1
    have hput := hput h1
    rw [show vv s' (l ++ [o]) R = .agg [.d s'.t.d, .d s'.p.d, iv s'.n, .d (.sl 6 (R.map opD)), iv (IntKind.i64.wrap ((l.length : Nat) + 1)), iv (sumV (l ++ [o])).n, cx (sumV (l ++ [o])).a (sumV (l ++ [o])).b, cx (sumV (l ++ [o])).c (sumV (l ++ [o])).d] by rw [hwr], ← hwr]
    generalize sumV (l ++ [o]) = T at hput
    (repeat (first | refine Spl.t rfl ?_ | refine Spl.f rfl ?_))
    refine OpJ.callV hput (fun _ _ => rfl) rfl rfl rfl ?_
    (repeat (first | refine Spl.t rfl ?_ | refine Spl.f rfl ?_))
    refine RegP.mixS 17 [8, 9] rfl (by decide +kernel) ?_
    refine QuietP.of (QJ.call hrk (fun _ _ => rfl) rfl rfl) ?_
    exact FinP.open rfl rfl
  · have h1 := hsame (of_decide_eq_false h1)
    rw [show vv s' (l ++ [o]) R = .agg [.d s'.t.d, .d s'.p.d, iv s'.n, .d (.sl 6 (R.map opD)), iv (IntKind.i64.wrap ((l.length : Nat) + 1)), iv (sumV l).n, cx (sumV l).a (sumV l).b, cx (sumV l).c (sumV l).d] by rw [hwr, ← h1], ← hwr]
    (repeat (first | refine Spl.t rfl ?_ | refine Spl.f rfl ?_))
    refine RegP.mixS 17 [8, 9] rfl (by decide +kernel) ?_
    refine QuietP.of (QJ.call hrk (fun _ _ => rfl) rfl rfl) ?_
    exact FinP.open rfl rfl
theorem RTake_c {l : List OP} (h : Dn l) (R : List OP) {o : OP} (hw : wrongO l o = 0) : Cv 109 [rvv l R, opv o] (.tup [rvv (l ++ [o]) R, chv (chO l o)]) := by
  have hd : Dn (l ++ [o]) := .snoc h hw
  obtain ⟨n, e, hat, hpl, hget, hid⟩ := at_get h hw
  have hlen := h.len2
  have hll : (l ++ [o]).length = l.length + 1 := by simp
  have hli := RList8_c hd R
  have hle := row_le hd
  have hch : chO l o = ⟨((l ++ [o]).length : Nat), rankL (rowE (l ++ [o])) (n : Nat), o.i, e.ch, decide (o.k = 1)⟩ := by
    unfold chO
    rw [hat, Int.toNat_natCast, hget]; rfl
  rw [hch]
  have hplc := RPlace_c (rowE (l ++ [o])) o.i (by omega)
  have hrk := RRank_c (rowE (l ++ [o])) (n : Nat) (by omega)
  rw [hpl] at hplc
  generalize rowE (l ++ [o]) = L at *
  generalize rankL L (n : Nat) = rk at *
  refine Ct.of_wv Tryz.f109 Tryz.func109 rfl rfl fun w H B g0 => ?_
  try refine WJ.cut ?_
  (first | refine Sq.go ?_ | refine vL_nil (Sq.go ?_) | skip)
  try refine WJ.cut ?_
  refine RegP.mix 6 rfl (by decide +kernel) ?_
  refine QuietP.born (Go.Gv.B.appF (i := 11) rfl (.full _ _) (FlatQ.data rfl rfl) rfl (by show 0 + _ ≤ _; rw [List.length_map]; omega) (.inr rfl)) ?_
  (repeat' (first | exact trivial | refine And.intro ?_ ?_))
  refine Req.of ⟨by rw [List.length_append], by rw [List.length_map]; show 0 + _ + 1 ≤ _; omega⟩ ?_
  (repeat' (first | exact trivial | refine And.intro ?_ ?_))
  (first | refine Sq.go ?_ | refine vL_nil (Sq.go ?_) | skip)
  have hrow : (([] ++ l.map opD ++ [opD o] : List (List D))).length = 0 + (l.map opD).length + 1 := by simp
  refine WJ.shift (SJ.pubCell 11 2 0 (cs := [.arr 11 6 (0 + (l.map opD).length + 1), .d (.sl 6 (R.map opD))]) (k := 6) (n := 0 + (l.map opD).length + 1) (xs := [] ++ l.map opD ++ [opD o]) rfl rfl rfl (Nat.le_of_eq hrow.symm) (by rw [List.length_map]; omega)) ?_
  rw [← hrow, List.take_length, show [] ++ l.map opD ++ [opD o] = (l ++ [o]).map opD by simp]
  try refine WJ.cut ?_
  refine OpJ.callV hli (fun _ _ => rfl) rfl rfl rfl ?_
  (first | refine Sq.go ?_ | refine vL_nil (Sq.go ?_) | skip)
  try refine WJ.cut ?_
  refine OpJ.callV hplc (fun _ _ => rfl) rfl rfl rfl ?_
  (first | refine Sq.go ?_ | refine vL_nil (Sq.go ?_) | skip)
  try refine vc_sound _ _ _ _ ?_
  refine RegP.mixS 20 [4, 5] rfl (by decide +kernel) ?_
  refine QuietP.of (QJ.call hrk (fun _ _ => rfl) rfl rfl) ?_
  refine IdxP.of (elD e) (by omega) (by simp [hget]) ?_
  refine FinP.open rfl ?_
  have hlm : (l ++ [o]).length = ((l ++ [o]).map opD).length := (List.length_map _).symm
  rw [hlm]; rfl
end Go.Proofs.E
end
section
open Go Go.Gv
attribute [local irreducible] Go.Gv.WJ Go.Gv.OpJ Go.Gv.QJ Go.Gv.Spl Go.Gv.Req Go.Gv.IdxP Go.Gv.RegP Go.Gv.FinP Go.Gv.CellP Go.Gv.CellsP Go.Gv.ArrP Go.Gv.ArrsP Go.Gv.DropP Go.Gv.ByteP Go.Gv.StoreP
set_option maxRecDepth 100000
namespace Go.Proofs.E
attribute [local irreducible] elems
def outV (out : List CH) (l : List OP) (o : OP) : List CH := if wrongO l o = 0 then out ++ [chO l o] else out
theorem out_row (out : List CH) (c : CH) : out.map chD ++ [chD c] = (out ++ [c]).map chD := by simp
theorem In_c {s : SS} {l : List OP} (h : isS s l) (R : List OP) (o : OP) (out : List CH) (hn : out.length ≤ 900000) :
    Ct tab Tryz.prog 56 [opv o, .box 2 0, .box 8 0] [(2, .cells (vcs s l R)), (8, .cells [.arr 1000 6 out.length]), (1000, .arr 6 (out.map chD))]
      (fun q σ' => q = iv (wrongO l o) ∧ σ' = [(2, .cells (vcs (appS s l o) (appL l o) R)), (8, .cells [.arr 1000 6 (outV out l o).length]), (1000, .arr 6 ((outV out l o).map chD))]) := by
  have hap := Apply_c h o
  refine Ct.of_wv Tryz.f56 Tryz.func56 rfl rfl fun w H B g0 => ?_
  try refine WJ.cut ?_
  (first | refine Sq.go ?_ | refine vL_nil (Sq.go ?_) | skip)
  try refine WJ.cut ?_
  refine OpJ.callV hap (fun _ _ => rfl) rfl rfl rfl ?_
  (first | refine Sq.go ?_ | refine vL_nil (Sq.go ?_) | skip)
  try refine WJ.cut ?_
  refine Spl.of (fun h1 => ?_) (fun h1 => ?_)
  · have h1 : wrongO l o = 0 := of_decide_eq_true h1
    have htk := Take_c h R h1
    have e1 : appL l o = l ++ [o] := if_pos h1
    have e2 : outV out l o = out ++ [chO l o] := if_pos h1
    rw [e1, e2]
    generalize appS s l o = s' at htk ⊢
    generalize chO l o = c at htk ⊢
    generalize l ++ [o] = l' at htk ⊢
    have hrow := out_row out c
    have hlc : (out ++ [c]).length = out.length + 1 := by simp
    rw [hlc, ← hrow]
    (repeat (first | refine Spl.t rfl ?_ | refine Spl.f rfl ?_))
    refine OpJ.callV htk (fun _ _ => rfl) rfl rfl rfl ?_
    refine O.allocN 1008 rfl rfl rfl rfl rfl ?_
    (first | refine Sq.go ?_ | refine vL_nil (Sq.go ?_) | skip)
    try refine WJ.cut ?_
    refine RegP.orders rfl ?_; (repeat' (refine And.intro ?_ ?_))
    all_goals refine Req.of ⟨by rw [List.length_map], by show _ + 1 ≤ _; omega⟩ ?_
    all_goals (repeat' (first | exact trivial | refine And.intro ?_ ?_))
    all_goals ((first | refine Sq.go ?_ | refine vL_nil (Sq.go ?_) | skip))
    all_goals (try refine vc_sound _ _ _ _ ?_)
    all_goals exact FinP.priv [(2, .cells (vcs s' l' R)), (8, .cells [.arr 1000 6 (out.length + 1)]), (1000, .arr 6 (out.map chD ++ [chD c]))] (Wk.cons rfl (Wk.cons rfl (Wk.cons rfl (Wk.nil _)))) rfl ⟨rfl, rfl⟩
  · have h1 : ¬ wrongO l o = 0 := of_decide_eq_false h1
    have e1 : appL l o = l := if_neg h1
    have e2 : outV out l o = out := if_neg h1
    have e3 : appS s l o = s := if_neg h1
    rw [e1, e2, e3]
    (repeat (first | refine Spl.t rfl ?_ | refine Spl.f rfl ?_))
    (first | refine Sq.go ?_ | refine vL_nil (Sq.go ?_) | skip)
    try refine vc_sound _ _ _ _ ?_
    exact FinP.priv [(2, .cells (vcs s l R)), (8, .cells [.arr 1000 6 out.length]), (1000, .arr 6 (out.map chD))] (Wk.cons rfl (Wk.cons rfl (Wk.cons rfl (Wk.nil _)))) rfl ⟨rfl, rfl⟩
end Go.Proofs.E
end
section
open Go Go.Gv
attribute [local irreducible] Go.Gv.WJ Go.Gv.OpJ Go.Gv.QJ Go.Gv.Spl Go.Gv.Req Go.Gv.IdxP Go.Gv.RegP Go.Gv.FinP Go.Gv.CellP Go.Gv.CellsP Go.Gv.ArrP Go.Gv.ArrsP Go.Gv.DropP Go.Gv.ByteP Go.Gv.StoreP
set_option maxRecDepth 100000
namespace Go.Proofs.E
attribute [local irreducible] elems
structure VS where
  s : SS
  l : List OP
  R : List OP
  out : List CH
/-- An operation taken in, if it can be applied. -/
def VS.take (v : VS) (o : OP) : VS := ⟨appS v.s v.l o, appL v.l o, v.R, outV v.out v.l o⟩
def VS.next (v : VS) : VS := VS.take ⟨v.s, v.l, nextR v.l v.R, v.out⟩ (nextO v.l v.R)
def drn : Nat → VS → VS
  | 0, v => v
  | n + 1, v => if nextIx v.l v.R < 0 then v else drn n v.next
def remV (v : VS) (o : OP) : VS := if wrongO v.l o = 0 then drn v.R.length (VS.take ⟨v.s, v.l, v.R, []⟩ o) else if wrongO v.l o = 6 then ⟨v.s, v.l, addR v.R o, []⟩ else ⟨v.s, v.l, v.R, []⟩
def remE (v : VS) (o : OP) : Int := if wrongO v.l o = 6 then addE v.R o else wrongO v.l o
theorem out_len (out : List CH) (l : List OP) (o : OP) : (outV out l o).length ≤ out.length + 1 := by unfold outV; split <;> simp
theorem nextR_lt {l R : List OP} (h : ¬ nextIx l R < 0) : (nextR l R).length + 1 = R.length := by
  have := nextIx_lt l R
  unfold nextR
  rw [if_neg h]; simp; omega
abbrev chs (out : List CH) : D := .sl 6 (out.map chD)
abbrev cellsV (v : VS) : List AV := vcs v.s v.l v.R
theorem Remote_c {s : SS} {l : List OP} (h : isS s l) (R : List OP) (out0 : List CH) (o : OP) (hR : R.length ≤ 100000) :
    Cv 11 [vv s l R, opv o] (.tup [vv (remV ⟨s, l, R, out0⟩ o).s (remV ⟨s, l, R, out0⟩ o).l (remV ⟨s, l, R, out0⟩ o).R, .d (chs (remV ⟨s, l, R, out0⟩ o).out), iv (remE ⟨s, l, R, out0⟩ o)]) := by
  have hin := In_c h R o [] (by simp)
  have hadd := Add_c R o (by omega)
  refine Ct.of_wv Tryz.f11 Tryz.func11 rfl rfl fun w H B g0 => ?_
  try refine WJ.cut ?_
  (first | refine Sq.go ?_ | refine vL_nil (Sq.go ?_) | skip)
  try refine WJ.cut ?_
  (first | refine Sq.go ?_ | refine vL_nil (Sq.go ?_) | skip)
  try refine WJ.cut ?_
  (first | refine Sq.go ?_ | refine vL_nil (Sq.go ?_) | skip)
  refine WJ.shift (SJ.nilCell 1000 8 0 6 rfl rfl rfl) ?_
  try refine WJ.cut ?_
  (first | refine Sq.go ?_ | refine vL_nil (Sq.go ?_) | skip)
  try refine WJ.cut ?_
  refine OpJ.callT rfl (FnIs.fnp _ _) hin (fun _ _ => rfl) rfl rfl (Wk.cons rfl (Wk.cons rfl (Wk.cons rfl (Wk.nil _)))) ?_
  rintro q σ' ⟨rfl, rfl⟩
  refine ⟨rfl, ?_⟩
  (first | refine Sq.go ?_ | refine vL_nil (Sq.go ?_) | skip)
  try refine WJ.cut ?_
  refine Spl.of (fun h1 => ?_) (fun h1 => ?_)
  · have h1 : wrongO l o = 0 := of_decide_eq_true h1
    have eR : remV ⟨s, l, R, out0⟩ o = drn R.length (VS.take ⟨s, l, R, []⟩ o) := if_pos h1
    have eE : remE ⟨s, l, R, out0⟩ o = 0 := by unfold remE; rw [h1]; rfl
    have hs := appS_is h o
    have ho := out_len [] l o
    rw [eR, eE]
    (repeat (first | refine Spl.t rfl ?_ | refine Spl.f rfl ?_))
    (first | refine Sq.go ?_ | refine vL_nil (Sq.go ?_) | skip)
    try refine vc_sound _ _ _ _ ?_
    refine WJ.loopK (V := VS) (fun v => []) (fun v => [(2, .cells (cellsV v)), (8, .cells [.arr 1000 6 v.out.length]), (1000, .arr 6 (v.out.map chD))]) [2, 8, 1000] (fun v => v.R.length) (fun v => isS v.s v.l ∧ v.out.length + v.R.length ≤ 100001 ∧ drn v.R.length v = drn R.length (VS.take ⟨s, l, R, []⟩ o)) (VS.take ⟨s, l, R, []⟩ o) ⟨hs, by simp only [VS.take]; simp at ho; omega, rfl⟩ (by repeat' (first | exact trivial | exact rfl | refine And.intro ?_ ?_)) (by repeat' (first | exact trivial | exact rfl | refine And.intro ?_ ?_)) ?_
    rintro ⟨s1, l1, R1, out1⟩ ⟨h2, h3, h4⟩
    simp only at h2 h3 h4
    have hnx := Next_c h2 R1 (by omega)
    have hin1 := In_c h2 (nextR l1 R1) (nextO l1 R1) out1 (by omega)
    (repeat (first | refine Spl.t rfl ?_ | refine Spl.f rfl ?_))
    refine OpJ.callV hnx (fun _ _ => rfl) rfl rfl rfl ?_
    (repeat (first | refine Spl.t rfl ?_ | refine Spl.f rfl ?_))
    refine Spl.of (fun h5 => ?_) (fun h5 => ?_)
    · have h5 : nextIx l1 R1 < 0 := by simpa using h5
      have e5 : drn R1.length ⟨s1, l1, R1, out1⟩ = ⟨s1, l1, R1, out1⟩ := by
        cases R1.length with
        | zero => rfl
        | succ n => rw [drn, if_pos h5]
      rw [← h4, e5]
      have hpl : out1.length ≤ (out1.map chD).length := by rw [List.length_map]; exact Nat.le_refl _
      (repeat (first | refine Spl.t rfl ?_ | refine Spl.f rfl ?_))
      refine RegP.mixS 5 [4] rfl (by decide +kernel) ?_
      refine FinP.pubTup 1000 1 rfl rfl hpl (by show out1.length ≤ _; omega) (FinP.open rfl ?_)
      exact congrArg (fun r => AV.tup [vv s1 l1 R1, .d (.sl 6 r), iv 0]) (List.take_of_length_le (Nat.le_of_eq (List.length_map ..)))
    · have h5 : ¬ nextIx l1 R1 < 0 := by simpa using h5
      have hlt := nextR_lt h5
      have ho1 := out_len out1 l1 (nextO l1 R1)
      have e5 : drn (nextR l1 R1).length (VS.next ⟨s1, l1, R1, out1⟩) = drn R.length (VS.take ⟨s, l, R, []⟩ o) := by
        rw [← h4, ← hlt, drn, if_neg h5]
      have hs1 := appS_is h2 (nextO l1 R1)
      (repeat (first | refine Spl.t rfl ?_ | refine Spl.f rfl ?_))
      refine OpJ.callT rfl (FnIs.fnp _ _) hin1 (fun _ _ => rfl) rfl rfl (Wk.cons rfl (Wk.cons rfl (Wk.cons rfl (Wk.nil _)))) ?_
      rintro q σ' ⟨rfl, rfl⟩
      refine ⟨rfl, ?_⟩
      (repeat (first | refine Spl.t rfl ?_ | refine Spl.f rfl ?_))
      exact ⟨VS.next ⟨s1, l1, R1, out1⟩, ⟨hs1, by simp only [VS.next, VS.take]; omega, e5⟩, by simp only [VS.next, VS.take]; omega, (by repeat' (first | exact trivial | exact rfl | refine And.intro ?_ ?_)), (by repeat' (first | exact trivial | exact rfl | refine And.intro ?_ ?_)), (by repeat' (first | exact trivial | exact rfl | refine And.intro ?_ ?_)), (by repeat' (first | exact trivial | exact rfl | refine And.intro ?_ ?_))⟩
  · have h1 : ¬ wrongO l o = 0 := of_decide_eq_false h1
    have e1 : appL l o = l := if_neg h1
    have e2 : outV [] l o = [] := if_neg h1
    have e3 : appS s l o = s := if_neg h1
    rw [e1, e2, e3]
    (repeat (first | refine Spl.t rfl ?_ | refine Spl.f rfl ?_))
    refine Spl.of (fun h2 => ?_) (fun h2 => ?_)
    · have h2 : wrongO l o = 6 := of_decide_eq_true h2
      have eR : remV ⟨s, l, R, out0⟩ o = ⟨s, l, addR R o, []⟩ := (if_neg h1).trans (if_pos h2)
      have eE : remE ⟨s, l, R, out0⟩ o = addE R o := if_pos h2
      rw [eR, eE]
      (repeat (first | refine Spl.t rfl ?_ | refine Spl.f rfl ?_))
      refine OpJ.callV hadd (fun _ _ => rfl) rfl rfl rfl ?_
      (repeat (first | refine Spl.t rfl ?_ | refine Spl.f rfl ?_))
      refine Spl.of (fun h3 => ?_) (fun h3 => ?_)
      · have h3 : ¬ addE R o = 0 := by simpa using h3
        have e4 : addR R o = R := if_neg h3
        rw [e4]
        (repeat (first | refine Spl.t rfl ?_ | refine Spl.f rfl ?_))
        refine .out (by simp) ?_
        refine FinP.viewTup 1 rfl (fun _ _ _ h => nil_sl 6 h) ?_
        exact FinP.open rfl rfl
      · have h3 : addE R o = 0 := by simpa using h3
        rw [h3]
        (repeat (first | refine Spl.t rfl ?_ | refine Spl.f rfl ?_))
        refine .out (by simp) ?_
        refine FinP.viewTup 1 rfl (fun _ _ _ h => nil_sl 6 h) ?_
        exact FinP.open rfl rfl
    · have h2 : ¬ wrongO l o = 6 := of_decide_eq_false h2
      have eR : remV ⟨s, l, R, out0⟩ o = ⟨s, l, R, []⟩ := (if_neg h1).trans (if_neg h2)
      have eE : remE ⟨s, l, R, out0⟩ o = wrongO l o := if_neg h2
      rw [eR, eE]
      (repeat (first | refine Spl.t rfl ?_ | refine Spl.f rfl ?_))
      refine .out (by simp) ?_
      refine FinP.viewTup 1 rfl (fun _ _ _ h => nil_sl 6 h) ?_
      exact FinP.open rfl rfl
end Go.Proofs.E
end
