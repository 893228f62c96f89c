/- Laws that the claim's text stands on: A region that draws its order, in which some stores into private variables do not wait for what stands ahead of them; A version: an operation that can be applied is taken in; A version: an operation of another replica, by the closure that takes it in; A version: an operation of another replica; A version, as the document has it: an operation of another replica; A version: Insert and Delete of this replica; A version, as the document has it: Insert and Delete of this replica; A version: the law's comparisons; A version: an act, by the program and by the document; A room of operations that wait: the law's example; A version: the law's example; A version: the law VersionPlays. -/
import Derived.Test.YtcpmcadgknfpjaaGreatDoorM1
import Derived.Test.YtcpmcadgknfpjaaGreatDoorM2
import Derived.Test.YtcpmcadgknfpjaaGreatDoorM3
import Derived.Test.YtcpmcadgknfpjaaGreatDoorDShelf
import Derived.Test.YtcpmcadgknfpjaaGreatDoorM4
import Derived.Test.YtcpmcadgknfpjaaGreatDoorM5
import Derived.Test.YtcpmcadgknfpjaaGreatDoorM6
import Derived.Test.YtcpmcadgknfpjaaGreatDoorM7
set_option linter.unusedVariables false
set_option linter.unusedSimpArgs false
section
namespace Go.Gv
open Go.RowKit
/-- What is private, some of the variables stored into anew. -/
def sAt (F : Nat → Option (Nat × Ent × Ent)) (S : Nat → Bool) (σ : Sg) : Nat → Sg
  | 0 => σ
  | k + 1 => match F k with
    | some (i, e, f) => (i, match S k with | true => f | false => e) :: sAt F S σ k
    | none => sAt F S σ k
theorem sAt_congr {F : Nat → Option (Nat × Ent × Ent)} {S S' : Nat → Bool} {σ : Sg} : ∀ k, (∀ j, j < k → F j ≠ none → S j = S' j) → sAt F S σ k = sAt F S' σ k
  | 0, _ => rfl
  | k + 1, h => by
    simp only [sAt]
    rw [sAt_congr k fun j hj => h j (by omega)]
    cases hE : F k with
    | none => rfl
    | some p => simp only [h k (by omega) (by rw [hE]; exact fun h => by cases h)]
theorem sAt_old {F : Nat → Option (Nat × Ent × Ent)} {S : Nat → Bool} {σ : Sg} {x : Nat} {a : Ent} {m : Nat} (hx : look x σ = some a) (hn : ∀ i y e f, i < m → F i = some (y, e, f) → y ≠ x) : ∀ k, k ≤ m → look x (sAt F S σ k) = some a
  | 0, _ => hx
  | k + 1, hk => by
    have ih := sAt_old (S := S) hx hn k (by omega)
    simp only [sAt]
    cases hF : F k with
    | none => exact ih
    | some q =>
      obtain ⟨y, e, f⟩ := q
      simp only
      rw [look_cons, if_neg (fun h => hn k y e f (by omega) hF h.symm)]
      exact ih
theorem sAt_is {F : Nat → Option (Nat × Ent × Ent)} {S : Nat → Bool} {σ : Sg} {m : Nat} (hd : ∀ i j x e f e' f', i < m → j < m → F i = some (x, e, f) → F j = some (x, e', f') → i = j) {i x : Nat} {e f : Ent} (him : i < m) (hE : F i = some (x, e, f)) :
    ∀ k, k ≤ m → i < k → look x (sAt F S σ k) = some (match S i with | true => f | false => e)
  | 0, _, h => by omega
  | k + 1, hk, h => by
    by_cases hik : i = k
    · subst hik
      simp only [sAt, hE, look_cons, if_true]
    · have ih := sAt_is (S := S) (σ := σ) hd him hE k (by omega) (by omega)
      simp only [sAt]
      cases hF : F k with
      | none => exact ih
      | some q =>
        obtain ⟨y, e', f'⟩ := q
        simp only
        rw [look_cons, if_neg (fun h => hik (by subst h; exact hd i k _ _ _ _ _ him (by omega) hE hF))]
        exact ih
theorem sAt_step {F : Nat → Option (Nat × Ent × Ent)} {S : Nat → Bool} {σ : Sg} {m : Nat} (hd : ∀ i j x e f e' f', i < m → j < m → F i = some (x, e, f) → F j = some (x, e', f') → i = j) {i x : Nat} {e f : Ent} (him : i < m) (hE : F i = some (x, e, f)) {y : Nat} :
    ∀ k, k ≤ m → i < k → look y (sAt F (fun j => if j = i then true else S j) σ k) = if y = x then some f else look y (sAt F S σ k) := by
  have same : ∀ k, k ≤ i → sAt F (fun j => if j = i then true else S j) σ k = sAt F S σ k := fun k hk => sAt_congr k fun j hj _ => if_neg (by omega)
  intro k
  induction k with
  | zero => intro _ h; omega
  | succ k ih =>
    intro hk h
    by_cases hik : i = k
    · subst hik
      simp only [sAt, hE, if_true, look_cons]
      split
      · rfl
      · rw [same i (Nat.le_refl _)]
    · have ih := ih (by omega) (by omega)
      simp only [sAt]
      cases hF : F k with
      | none => exact ih
      | some q =>
        obtain ⟨z, e', f'⟩ := q
        have hz : z ≠ x := fun h => hik (by subst h; exact hd i k _ _ _ _ _ him (by omega) hE hF)
        have hki : (if k = i then true else S k) = S k := if_neg (fun h => hik h.symm)
        simp only [hki]
        rw [look_cons, look_cons]
        by_cases hy : y = z
        · rw [if_pos hy, if_pos hy, if_neg (fun h => hz (hy.symm.trans h))]
        · rw [if_neg hy, if_neg hy]; exact ih
theorem listT (f : Nat → Option AV) : ∀ n, ∃ t : T, ∀ x, look x t = if x < n then f x else none
  | 0 => ⟨[], fun x => by rw [if_neg (by omega)]; rfl⟩
  | n + 1 => by
    obtain ⟨t, ht⟩ := listT f n
    cases hf : f n with
    | none =>
      refine ⟨t, fun x => ?_⟩
      rw [ht]
      by_cases e : x = n
      · subst e; rw [if_neg (by omega), if_pos (by omega), hf]
      · by_cases h : x < n
        · rw [if_pos h, if_pos (by omega)]
        · rw [if_neg h, if_neg (by omega)]
    | some v =>
      refine ⟨(n, v) :: t, fun x => ?_⟩
      rw [look_cons]
      by_cases e : x = n
      · subst e; rw [if_pos rfl, if_pos (by omega), hf]
      · rw [if_neg e, ht]
        by_cases h : x < n
        · rw [if_pos h, if_pos (by omega)]
        · rw [if_neg h, if_neg (by omega)]
/-- A store into a private variable, whenever it is done. -/
def StoreJ (X : Cx) (o : Oper) (t : T) (id : Nat) (e f : Ent) : Prop :=
  o.guard = none ∧ o.dst = none ∧ ∀ (t' : T) (σ' : Sg), (∀ x, x ∈ o.op.operands → ∀ v, ge t x = some v → ge t' x = some v) → look id σ' = some e → OpJ X o t' σ' (fun t2 σ2 => t2 = t' ∧ σ2 = (id, f) :: σ')
def SStep (X : Cx) (all : Array Oper) (o : Oper) (t : T) (σ : Sg) (V : AV) (F : Option (Nat × Ent × Ent)) : Prop :=
  (F = none ∧ OStep X all o t σ V) ∨ (∃ id e f, F = some (id, e, f) ∧ StoreJ X o t id e f)
theorem calm_anyS {X : Cx} {all : Array Oper} {m : Nat} {t0 : T} {σ : Sg} {V : Nat → AV} {F : Nat → Option (Nat × Ent × Ent)} {Q' : Exit → Act → World → Prop} (hc : CalmR all m) (hm : m ≤ all.size)
    (hstep : ∀ i o, i < m → all[i]? = some o → SStep X all o (states all V t0 i) σ (V i) (F i) ∧ dOk o.dst X.N = true)
    (hds : ∀ i j x e f e' f', i < m → j < m → F i = some (x, e, f) → F j = some (x, e', f') → i = j) (hout : ∀ i x e f, i < m → F i = some (x, e, f) → look x σ = none)
    (hend : ∀ γ H a w listed, St X γ H (states all V t0 m) (sAt F (fun _ => true) σ m) a w → listed.size = all.size → (∀ j, j < all.size → listed.getD j false = decide (j < m)) → wpAnyIn (Fr X.ro) 0 X.P .any all Q' (all.size - m) listed a w) :
    ∀ (fuel : Nat) (listed : Array Bool) (γ : Ids) (H : HF) (a : Act) (w : World), listed.size = all.size →
      (∀ j, m ≤ j → listed.getD j false = false) → (∀ i o, listed.getD i false = true → all[i]? = some o → ∀ e, e ∈ o.after → Region.binds .any e = true → listed.getD e.on false = true) →
      ((List.range m).filter fun j => !listed.getD j false).length + (all.size - m) = fuel →
      TabOk γ H (tabAt all V t0 (fun j => listed.getD j false) m) a.tmps → St X γ H [] (sAt F (fun j => listed.getD j false) σ m) a w →
      wpAnyIn (Fr X.ro) 0 X.P .any all Q' fuel listed a w := by
  intro fuel
  induction fuel with
  | zero =>
    intro listed γ H a w hs htail hclosed hcount htab sst
    have hall : ∀ j, j < m → listed.getD j false = true := fun j hj => by
      have h0 : ((List.range m).filter fun j => !listed.getD j false) = [] := List.length_eq_zero_iff.1 (by omega)
      have := List.filter_eq_nil_iff.1 h0 j (List.mem_range.2 hj)
      simpa using this
    have hmn : m = all.size := by omega
    have hst : St X γ H (states all V t0 m) (sAt F (fun _ => true) σ m) a w := St.withT (by have h9 := sst; rw [sAt_congr (S' := fun _ => true) m (fun j hj _ => hall j hj)] at h9; exact h9) (fun i b hi => htab i b (by
      rw [look_states] at hi
      rw [← hi]
      simp only [tabAt]
      rw [lastW_congr m (fun j hj _ => hall j hj)]))
    have := hend γ H a w listed hst hs (fun j hj => by rw [hall j (by omega)]; simp; omega)
    rw [show all.size - m = 0 from by omega] at this; exact this
  | succ fuel ih =>
    intro listed γ H a w hs htail hclosed hcount htab sst
    by_cases hall : ∀ j, j < m → listed.getD j false = true
    · -- the calm part is over
      have hst : St X γ H (states all V t0 m) (sAt F (fun _ => true) σ m) a w := St.withT (by have h9 := sst; rw [sAt_congr (S' := fun _ => true) m (fun j hj _ => hall j hj)] at h9; exact h9) (fun i b hi => htab i b (by
        rw [look_states] at hi
        rw [← hi]
        simp only [tabAt]
        rw [lastW_congr m (fun j hj _ => hall j hj)]))
      have h0 : ((List.range m).filter fun j => !listed.getD j false) = [] := List.filter_eq_nil_iff.2 fun j hj => by simp only [hall j (List.mem_range.1 hj)]; simp
      rw [h0] at hcount
      simp only [List.length_nil, Nat.zero_add] at hcount
      have := hend γ H a w listed hst hs (fun j hj => by
        by_cases hj' : j < m
        · rw [hall j hj']; simp [hj']
        · rw [htail j (by omega)]; simp; omega)
      rw [hcount] at this
      exact this
    · refine ⟨fun hn => ?_, fun i hi => ?_⟩
      · -- the least that is not listed is ready
        exfalso
        have hex : ∃ j, j < m ∧ listed.getD j false = false := by
          refine Classical.byContradiction fun hno => hall fun j hj => ?_
          cases hx : listed.getD j false with
          | true => rfl
          | false => exact absurd ⟨j, hj, hx⟩ hno
        have hmin : ∃ j, j < m ∧ listed.getD j false = false ∧ ∀ i, i < j → listed.getD i false = true := by
          obtain ⟨j, hj⟩ := hex
          induction j using Nat.strongRecOn with
          | _ j ihj =>
            by_cases hlow : ∀ i, i < j → listed.getD i false = true
            · exact ⟨j, hj.1, hj.2, hlow⟩
            · have : ∃ i, i < j ∧ listed.getD i false = false := by
                refine Classical.byContradiction fun hno => hlow fun i hi => ?_
                cases hx : listed.getD i false with
                | true => rfl
                | false => exact absurd ⟨i, hi, hx⟩ hno
              obtain ⟨i, hi, hx⟩ := this
              exact ihj i hi ⟨by omega, hx⟩
        obtain ⟨j, hj, hjl, hlow⟩ := hmin
        have hjn : j < all.size := by omega
        have hmem' : j ∈ Region.ready .any all listed := by
          rw [mem_ready]
          refine ⟨?_, all[j], by simp [hjn], fun e he hb => hlow _ (hc.back j all[j] (by simp [hjn]) e he hb)⟩
          rw [Array.getD_eq_getD_getElem?] at hjl ⊢
          rw [Array.getElem?_eq_getElem (by omega)] at hjl ⊢
          simpa using hjl
        rw [hn] at hmem'; cases hmem'
      · obtain ⟨h1, o, ho, h2⟩ := ready_sound hi
        obtain ⟨hil, hif⟩ := getD_of h1
        have hin : i < all.size := (Array.getElem?_eq_some_iff.1 ho).1
        have him : i < m := by
          refine Classical.byContradiction fun hge => hall fun j hj => ?_
          exact anc_listed hclosed (hc.tail i o ho (by omega) j hj) ho h2
        -- who writes what i names: listed just if it stands ahead
        have hwr : ∀ x, namesT all o x = true → ∀ j, j < m → dstAt all j = some x → listed.getD j false = decide (j < i) := by
          intro x hx j hj hd'
          cases hp : all[j]? with
          | none => simp [dstAt, hp] at hd'
          | some p =>
            simp only [dstAt, hp, Option.bind_some] at hd'
            by_cases hji : j < i
            · rcases hc.names i o (by omega) ho j p hji hp with h3 | ⟨h3, _⟩
              · rw [edge_listed h3 h2]; simp [hji]
              · rw [h3 x hd'] at hx; cases hx
            · by_cases e : j = i
              · subst e; rw [hif]; simp
              · rcases hc.names j p (by omega) hp i o (by omega) ho with h3 | ⟨_, h3⟩
                · cases hlj : listed.getD j false with
                  | false => simp; omega
                  | true =>
                    have := edge_listed h3 (hclosed j p hlj hp)
                    rw [hif] at this; cases this
                · rw [h3 x hd'] at hx; cases hx
        have htab_i : ∀ x, namesT all o x = true → tabAt all V t0 (fun j => listed.getD j false) m x = look x (states all V t0 i) := by
          intro x hx
          rw [look_states]
          simp only [tabAt]
          rw [lastW_congr m (fun j hj hd' => hwr x hx j hj hd'), lastW_top m (by omega)]
        have hopnd : ∀ x, x ∈ o.op.operands → ∀ v, ge (states all V t0 i) x = some v → Rep γ H v (a.eval x) := by
          intro x hx v hv
          cases x with
          | tmp y =>
            have hy : namesT all o y = true := by
              simp only [namesT, Bool.or_eq_true]
              exact .inl (.inr (List.any_eq_true.2 ⟨_, Array.mem_toList_iff.2 hx, by simp [hasT]⟩))
            obtain ⟨u, hu, hr⟩ := htab y v (by rw [htab_i y hy]; exact hv)
            simp only [Act.eval, Array.getD_eq_getD_getElem?, hu, Option.getD_some]
            exact hr
          | const c => simp only [ge, Option.some.injEq] at hv; subst hv; exact rep_const γ H c
          | func f => simp only [ge, Option.some.injEq] at hv; subst hv; exact .d _ _ (.fn f [] [] rfl (fun j a u h1 => by simp at h1))
          | global g => simp [ge] at hv
        obtain ⟨hos, hdok⟩ := hstep i o him ho
        -- how many are left
        have hleft : ((List.range m).filter fun j => !(listed.setIfInBounds i true).getD j false).length + (all.size - m) = fuel := by
          have hf : ((List.range m).filter fun j => !listed.getD j false).length = ((List.range m).filter fun j => !(listed.setIfInBounds i true).getD j false).length + 1 := by
            have h5 : ∀ (l : List Nat), l.Nodup → i ∈ l → (l.filter fun j => !listed.getD j false).length = (l.filter fun j => !(listed.setIfInBounds i true).getD j false).length + 1 := by
              intro l
              induction l with
              | nil => intro _ h; cases h
              | cons b l ihl =>
                intro hnd hmem'
                rw [List.nodup_cons] at hnd
                by_cases e : i = b
                · subst e
                  have h6 : (listed.setIfInBounds i true).getD i false = true := by
                    rw [Array.getD_eq_getD_getElem?]; simp [hil]
                  have h7 : (l.filter fun j => !listed.getD j false) = (l.filter fun j => !(listed.setIfInBounds i true).getD j false) := by
                    refine List.filter_congr fun j hj => ?_
                    have hne : i ≠ j := fun e => hnd.1 (e ▸ hj)
                    rw [getD_set_ne false hne]
                  simp only [List.filter_cons, hif, h6, Bool.not_false, Bool.not_true, if_true, h7, List.length_cons, Bool.false_eq_true, if_false]
                · have h6 := getD_set_ne (listed := listed) false e
                  have h7 := ihl hnd.2 (by rcases List.mem_cons.1 hmem' with h | h; exact absurd h e; exact h)
                  simp only [List.filter_cons, h6]
                  split <;> simp only [List.length_cons, h7]
            exact h5 _ List.nodup_range (List.mem_range.2 him)
          omega
        have hclosed' : ∀ j p, (listed.setIfInBounds i true).getD j false = true → all[j]? = some p → ∀ e, e ∈ p.after → Region.binds .any e = true → (listed.setIfInBounds i true).getD e.on false = true := fun j p hj hp e he hb => by
          by_cases e' : i = j
          · subst e'
            rw [ho] at hp; simp only [Option.some.injEq] at hp; subst hp
            exact getD_set_true (h2 e he hb)
          · rw [getD_set_ne false e'] at hj
            exact getD_set_true (hclosed j p hj hp e he hb)
        have htail' : ∀ j, m ≤ j → (listed.setIfInBounds i true).getD j false = false := fun j hj => by
          rw [getD_set_ne false (by omega)]; exact htail j hj
        have hset : (fun j => (listed.setIfInBounds i true).getD j false) = fun j => if j = i then true else listed.getD j false := funext fun j => by
          by_cases e : j = i
          · subst e; rw [if_pos rfl, Array.getD_eq_getD_getElem?]; simp [hil]
          · rw [if_neg e, getD_set_ne false (fun h => e h.symm)]
        -- behind a quiet one
        have hnext : F i = none → ∀ v γ' σ' H' w', Mem w H (fun _ => False) γ' H' σ' w' → Rep γ H' (V i) v → wpAnyIn (Fr X.ro) 0 X.P .any all Q' fuel (listed.setIfInBounds i true) (a.put o.dst v) w' := by
          intro hE v γ' σ' H' w' hm' hr
          have sst' : St X γ H' [] (sAt F (fun j => (listed.setIfInBounds i true).getD j false) σ m) (a.put o.dst v) w' := by
            have h9 := sst.calm (d := o.dst) hm' hdok hr
            rw [sAt_congr (S' := fun j => listed.getD j false) m (fun j hj hne => by
              have e' : i ≠ j := fun e => by subst e; exact hne hE
              exact getD_set_ne false e')]
            exact h9.wk (Wk.nil _) (Wk.refl _)
          refine ih _ γ H' _ w' (by simpa using hs) htail' hclosed' hleft ?_ sst'
          · -- the table
            intro x b hx
            by_cases hxd : o.dst = some x
            · have hlw : tabAt all V t0 (fun j => (listed.setIfInBounds i true).getD j false) m x = some (V i) := by
                have hnx : namesT all o x = true := by simp [namesT, hxd]
                simp only [tabAt]
                have : lastW all (fun j => (listed.setIfInBounds i true).getD j false) x m = lastW all (fun j => decide (j < i + 1)) x m := by
                  refine lastW_congr m fun j hj hd' => ?_
                  by_cases e : i = j
                  · subst e; rw [Array.getD_eq_getD_getElem?]; simp [hil]
                  · show (listed.setIfInBounds i true).getD j false = _
                    rw [getD_set_ne false e, hwr x hnx j hj hd']
                    simp; omega
                rw [this, lastW_top m (by omega)]
                have hda : dstAt all i = some x := by simp [dstAt, ho, hxd]
                simp [lastW, hda]
              rw [hlw] at hx
              simp only [Option.some.injEq] at hx
              subst hx
              have hlt : x < a.tmps.size := by have := sst.size; rw [hxd] at hdok; simp only [dOk, Nat.blt_eq] at hdok; omega
              exact ⟨v, by rw [hxd]; simp [Act.put, hlt], hr⟩
            · have hlw : tabAt all V t0 (fun j => (listed.setIfInBounds i true).getD j false) m x = tabAt all V t0 (fun j => listed.getD j false) m x := by
                simp only [tabAt]
                rw [lastW_congr m fun j hj hd' => ?_]
                have e : i ≠ j := fun e => by subst e; simp [dstAt, ho] at hd'; exact hxd hd'
                exact getD_set_ne false e
              rw [hlw] at hx
              obtain ⟨u, hu, hr'⟩ := htab x b hx
              refine ⟨u, ?_, hr'.mono hm'.hle⟩
              cases hod : o.dst with
              | none => simpa [Act.put, hod] using hu
              | some d =>
                have hne : d ≠ x := fun e => hxd (by rw [hod, e])
                simp only [Act.put]
                rw [Array.getElem?_setIfInBounds, if_neg hne]; exact hu
        have hmemσ : Mem X.w0 X.H0 X.B γ H σ w := sst.mem.wk (fun x e hx => sAt_old hx (fun j y e' f' hj hF hyx => by
          subst hyx
          rw [hout j _ _ _ hj hF] at hx; cases hx) m (Nat.le_refl _))
        -- its guard
        have hguard : ∀ j b' d b, o.guard = some (j, b') → ((all[j]?).bind (·.dst)) = some d → look d (states all V t0 i) = some (.d (.v (.bool b))) → yielded all a.tmps j = some b := by
          intro j b' d b hg hd' hl
          have hnd : namesT all o d = true := by simp [namesT, hg, hd']
          obtain ⟨u, hu, hr⟩ := htab d _ (by rw [htab_i d hnd]; exact hl)
          have := rep_v hr
          subst this
          simp [yielded, hd', hu]
        have hguardU : ∀ j b' d, o.guard = some (j, b') → ((all[j]?).bind (·.dst)) = some d → look d (states all V t0 i) = some (.tup []) → yielded all a.tmps j = none := by
          intro j b' d hg hd' hl
          have hnd : namesT all o d = true := by simp [namesT, hg, hd']
          obtain ⟨u, hu, hr⟩ := htab d _ (by rw [htab_i d hnd]; exact hl)
          have := rep_undef_eq hr
          subst this
          simp [yielded, hd', hu, undef]
        unfold wpOpIn
        simp only [ho]
        rcases hos with ⟨hE, ⟨hg, hq⟩ | ⟨j, b, d, hg, hd', hl, hq⟩ | ⟨j, b, b', d, hg, hd', hl, hne, hV⟩ | ⟨j, b, d, hg, hd', hl, hV⟩⟩ | ⟨id, en, en', hE, hst⟩
        · have hw : Region.wanted o (yielded all a.tmps) = true := by simp [Region.wanted, hg]
          rw [if_pos hw]
          exact ⟨fun _ _ => trivial, hq γ H a w sst.lam hopnd hmemσ _ _ (hnext hE)⟩
        · have hw : Region.wanted o (yielded all a.tmps) = true := by simp [Region.wanted, hg, hguard j b d b hg hd' hl]
          rw [if_pos hw]
          exact ⟨fun _ _ => trivial, hq γ H a w sst.lam hopnd hmemσ _ _ (hnext hE)⟩
        · have hw : Region.wanted o (yielded all a.tmps) = false := by simp [Region.wanted, hg, hguard j b d b' hg hd' hl, hne]
          simp only [hw, Bool.false_eq_true, if_false]
          exact ⟨fun _ _ => trivial, hnext hE undef γ [] H w (sst.mem.refl γ) (by rw [hV]; exact rep_undef)⟩
        · have hw : Region.wanted o (yielded all a.tmps) = false := by simp [Region.wanted, hg, hguardU j b d hg hd' hl]
          simp only [hw, Bool.false_eq_true, if_false]
          exact ⟨fun _ _ => trivial, hnext hE undef γ [] H w (sst.mem.refl γ) (by rw [hV]; exact rep_undef)⟩
        · obtain ⟨hg, hd0, hj⟩ := hst
          have hw : Region.wanted o (yielded all a.tmps) = true := by simp [Region.wanted, hg]
          rw [if_pos hw]
          refine ⟨fun _ _ => trivial, ?_⟩
          -- all temporaries, told as a list
          obtain ⟨tc, htc⟩ : ∃ tc : T, ∀ x, look x tc = tabAt all V t0 (fun j => listed.getD j false) m x := by
            obtain ⟨tc, h5⟩ := listT (fun x => tabAt all V t0 (fun j => listed.getD j false) m x) a.tmps.size
            refine ⟨tc, fun x => ?_⟩
            rw [h5]
            split
            · rfl
            · next hx =>
              cases hv : tabAt all V t0 (fun j => listed.getD j false) m x with
              | none => rfl
              | some b =>
                obtain ⟨u, hu, _⟩ := htab x b hv
                exact absurd (Array.getElem?_eq_some_iff.1 hu).1 hx
          have hsc : St X γ H tc (sAt F (fun j => listed.getD j false) σ m) a w := St.withT sst (fun x b hx => htab x b (by rw [← htc]; exact hx))
          have hlk : look id (sAt F (fun j => listed.getD j false) σ m) = some en := by
            rw [sAt_is (fun i j x e f e' f' hi hj h1 h2 => hds i j x e f e' f' hi hj h1 h2) him hE m (Nat.le_refl _) him]
            simp only [hif]
          have key := hj tc (sAt F (fun j => listed.getD j false) σ m) (fun x hx v hv => by
            cases x with
            | tmp y =>
              have hy : namesT all o y = true := by
                simp only [namesT, Bool.or_eq_true]
                exact .inl (.inr (List.any_eq_true.2 ⟨_, Array.mem_toList_iff.2 hx, by simp [hasT]⟩))
              show look y tc = some v
              rw [htc, htab_i y hy]; exact hv
            | const c => exact hv
            | func f => exact hv
            | global g => exact hv) hlk
          refine key γ H a w hsc _ _ ?_
          rintro γ' H' t' σ' a' w' s' ⟨rfl, rfl⟩
          refine ih _ γ' H' a' w' (by simpa using hs) htail' hclosed' hleft (fun x b hx => ?_) ?_
          · refine s'.tmp x b ?_
            rw [htc, ← hx]
            simp only [tabAt]
            rw [lastW_congr m fun j hj hd' => ?_]
            have e : i ≠ j := fun e => by subst e; simp [dstAt, ho, hd0] at hd'
            exact (getD_set_ne false e).symm
          · rw [hset]
            refine s'.wk (Wk.nil _) fun x e hx => ?_
            rw [sAt_step (fun i j x e f e' f' hi hj h1 h2 => hds i j x e f e' f' hi hj h1 h2) him hE m (Nat.le_refl _) him] at hx
            rw [look_cons]; exact hx

def CS (X : Cx) (all : Array Oper) (σ0 σ : Sg) (Q : T → Sg → Prop) : List Oper → T → Sg → Prop
  | [], t, ss => ∃ t', Wk t' t ∧ Q t' ss
  | o :: rest, t, ss =>
    (∃ V, OStep X all o t σ V ∧ dOk o.dst X.N = true ∧ CS X all σ0 σ Q rest (putT o.dst V t) ss) ∨
    (∃ id e f, StoreJ X o t id e f ∧ look id σ0 = some e ∧ look id σ = none ∧ look id ss = none ∧ CS X all σ0 σ Q rest t ((id, f) :: ss))
def consF : Option (Nat × Ent × Ent) → Sg → Sg
  | some (i, _, f), ss => (i, f) :: ss
  | none, ss => ss
def sFrom (F : Nat → Option (Nat × Ent × Ent)) (k : Nat) (ss : Sg) : Nat → Sg
  | 0 => ss
  | j + 1 => consF (F (k + j)) (sFrom F k ss j)
theorem sFrom_congr {F F' : Nat → Option (Nat × Ent × Ent)} {k : Nat} {ss : Sg} : ∀ j, (∀ i, k ≤ i → i < k + j → F i = F' i) → sFrom F k ss j = sFrom F' k ss j
  | 0, _ => rfl
  | j + 1, h => by
    simp only [sFrom]
    rw [h (k + j) (by omega) (by omega), sFrom_congr j (fun i h1 h2 => h i h1 (by omega))]
theorem sFrom_succ {F : Nat → Option (Nat × Ent × Ent)} {k : Nat} {ss : Sg} : ∀ j, sFrom F k ss (j + 1) = sFrom F (k + 1) (consF (F k) ss) j
  | 0 => rfl
  | j + 1 => by
    rw [sFrom, sFrom_succ j, sFrom]
    rw [show k + (j + 1) = k + 1 + j from by omega]
theorem sAt_all {F : Nat → Option (Nat × Ent × Ent)} {σ : Sg} : ∀ j, sAt F (fun _ => true) σ j = sFrom F 0 [] j ++ σ
  | 0 => rfl
  | j + 1 => by
    simp only [sAt, sFrom, Nat.zero_add]
    rw [sAt_all j]
    cases F j <;> rfl
def STab (X : Cx) (all : Array Oper) (σ0 σ : Sg) (Q : T → Sg → Prop) (rest : List Oper) (k : Nat) (t : T) (ss : Sg) : Prop :=
    ∃ (V : Nat → AV) (F : Nat → Option (Nat × Ent × Ent)), (∀ j o, j < rest.length → all[k + j]? = some o → SStep X all o (statesFrom all V t k j) σ (V (k + j)) (F (k + j)) ∧ dOk o.dst X.N = true) ∧
      (∃ t', Wk t' (statesFrom all V t k rest.length) ∧ Q t' (sFrom F k ss rest.length)) ∧
      (∀ j x e f, j < rest.length → F (k + j) = some (x, e, f) → look x σ0 = some e ∧ look x σ = none ∧ look x ss = none) ∧
      (∀ i j x e f e' f', i < rest.length → j < rest.length → F (k + i) = some (x, e, f) → F (k + j) = some (x, e', f') → i = j)
theorem CS.table {X : Cx} {all : Array Oper} {σ0 σ : Sg} {Q : T → Sg → Prop} : ∀ (rest : List Oper) (k : Nat) (t : T) (ss : Sg), (∀ j, j < rest.length → all[k + j]? = rest[j]?) → CS X all σ0 σ Q rest t ss → STab X all σ0 σ Q rest k t ss
  | [], k, t, ss, _, h => ⟨fun _ => .junk, fun _ => none, fun j o hj => by simp at hj, h, fun j x e f hj => by simp at hj, fun i j x e f e' f' hi => by simp at hi⟩
  | p :: rest, k, t, ss, ha, h => by
    have hk : all[k]? = some p := by simpa using ha 0 (by simp)
    have hdk : dstAt all k = p.dst := by simp [dstAt, hk]
    have ha' : ∀ j, j < rest.length → all[k + 1 + j]? = rest[j]? := fun j hj => by have := ha (j + 1) (by simp; omega); rw [show k + 1 + j = k + (j + 1) from by omega]; simpa using this
    have hne : ∀ j, k + (j + 1) ≠ k := fun j => by omega
    have hadd : ∀ j, k + (j + 1) = k + 1 + j := fun j => by omega
    have key : ∀ (V0 : AV) (F0 : Option (Nat × Ent × Ent)), SStep X all p t σ V0 F0 → dOk p.dst X.N = true → CS X all σ0 σ Q rest (putT p.dst V0 t) (consF F0 ss) →
        (∀ x e f, F0 = some (x, e, f) → look x σ0 = some e ∧ look x σ = none ∧ look x ss = none) → STab X all σ0 σ Q (p :: rest) k t ss := by
      intro V0 F0 hB hdok h4 hF0
      obtain ⟨V', F', i1, ⟨t', i2, i3⟩, ia, ib⟩ := CS.table rest (k + 1) _ _ ha' h4
      have hV : ∀ j, statesFrom all (fun i => if i = k then V0 else V' i) t k (j + 1) = statesFrom all V' (putT p.dst V0 t) (k + 1) j := fun j => by
        rw [statesFrom_succ, hdk]
        simp only [if_true]
        exact statesFrom_congr j fun i h7 h8 => if_neg (by omega)
      have hFF : ∀ j, sFrom (fun i => if i = k then F0 else F' i) k ss (j + 1) = sFrom F' (k + 1) (consF F0 ss) j := fun j => by
        rw [sFrom_succ]
        simp only [if_true]
        exact sFrom_congr (F := fun i => if i = k then F0 else F' i) (F' := F') j fun i h7 h8 => if_neg (by omega)
      refine ⟨fun i => if i = k then V0 else V' i, fun i => if i = k then F0 else F' i, ?_, ⟨t', by rw [List.length_cons, hV]; exact i2, by rw [List.length_cons, hFF]; exact i3⟩, ?_, ?_⟩
      · intro j o hj ho
        cases j with
        | zero =>
          rw [Nat.add_zero, hk] at ho
          simp only [Option.some.injEq] at ho
          subst ho
          simp only [Nat.add_zero, if_true, statesFrom]
          exact ⟨hB, hdok⟩
        | succ j =>
          rw [hV]
          simp only [if_neg (hne j)]
          have := i1 j o (by simpa using hj) (by rw [← hadd j]; exact ho)
          rw [hadd j]; exact this
      · intro j x e f hj hF
        cases j with
        | zero =>
          simp only [Nat.add_zero, if_true] at hF
          exact hF0 x e f hF
        | succ j =>
          simp only [if_neg (hne j)] at hF; rw [hadd j] at hF
          obtain ⟨g1, g2, g3⟩ := ia j x e f (by simpa using hj) hF
          refine ⟨g1, g2, ?_⟩
          cases F0 with
          | none => exact g3
          | some q =>
            obtain ⟨y, e0, f0⟩ := q
            simp only [consF] at g3
            rw [look_cons] at g3
            split at g3
            · cases g3
            · exact g3
      · have cross : ∀ j x e f e' f', j < rest.length → F0 = some (x, e, f) → F' (k + 1 + j) = some (x, e', f') → False := fun j x e f e' f' hj h1 h2 => by
          obtain ⟨_, _, g3⟩ := ia j x e' f' hj h2
          rw [h1] at g3
          simp only [consF] at g3
          rw [look_cons, if_pos rfl] at g3; cases g3
        intro i j x e f e' f' hi hj h1 h2
        cases i with
        | zero =>
          simp only [Nat.add_zero, if_true] at h1
          cases j with
          | zero => rfl
          | succ j =>
            simp only [if_neg (hne j)] at h2; rw [hadd j] at h2
            exact (cross j x e f e' f' (by simpa using hj) h1 h2).elim
        | succ i =>
          simp only [if_neg (hne i)] at h1; rw [hadd i] at h1
          cases j with
          | zero =>
            simp only [Nat.add_zero, if_true] at h2
            exact (cross i x e' f' e f (by simpa using hi) h2 h1).elim
          | succ j =>
            simp only [if_neg (hne j)] at h2; rw [hadd j] at h2
            rw [ib i j x e f e' f' (by simpa using hi) (by simpa using hj) h1 h2]
    rcases h with ⟨V0, h1, h2, h4⟩ | ⟨id0, e0, f0, hs, g1, g2, g3, h4⟩
    · exact key V0 none (.inl ⟨rfl, h1⟩) h2 h4 (fun x e f h => by cases h)
    · have hd0 := hs.2.1
      exact key .junk (some (id0, e0, f0)) (.inr ⟨id0, e0, f0, rfl, hs⟩) (by rw [hd0]; rfl) (by rw [hd0]; exact h4) (fun x e f h => by cases h; exact ⟨g1, g2, g3⟩)
theorem WJ.calmS {X : Cx} {id : Nat} {ops : Array Oper} {t : T} {σ0 σ : Sg} {R : T → Sg → Prop} {Q' : Exit → Act → World → Prop} (m : Nat) (hm : X.P.follows .mixedOrders = true) (hc : CalmR ops m) (hle : m ≤ ops.size) (hσ : Wk σ σ0)
    (hend : ∀ t ss, R t ss → ∀ γ H a w listed, St X γ H t (ss ++ σ) a w → listed.size = ops.size → (∀ j, j < ops.size → listed.getD j false = decide (j < m)) → wpAnyIn (Fr X.ro) 0 X.P .any ops Q' (ops.size - m) listed a w)
    (h : CS X ops σ0 σ R (ops.toList.take m) t []) : ∀ γ H a w, St X γ H t σ0 a w → (Code.region id ops true).wpIn (Fr X.ro) 0 X.P Q' a w := by
  intro γ H a w s
  refine wpIn_region_any hm ?_
  have hlen : (ops.toList.take m).length = m := by simp; omega
  obtain ⟨V, F, h1, ⟨t', h2, h3⟩, ha, hb⟩ := CS.table (ops.toList.take m) 0 t [] (fun j hj => by rw [hlen] at hj; rw [Nat.zero_add, List.getElem?_take, if_pos hj]; simp) h
  simp only [hlen, Nat.zero_add] at h1 h2 h3 ha hb
  have s' : St X γ H t σ0 a { w with drawn := w.drawn + 1 } := ⟨s.lam, s.round, s.defers, s.size, s.pinned, s.tmp, s.mem.drew⟩
  have hall : ∀ j, (Array.replicate ops.size false).getD j false = false := fun j => by
    rw [Array.getD_eq_getD_getElem?, Array.getElem?_replicate]; split <;> rfl
  refine calm_anyS hc hle (V := V) (F := F) (σ := σ) (fun i o hi ho => by
    have := h1 i o hi ho
    rw [statesFrom_zero] at this
    exact this) (fun i j x e f e' f' hi hj h1 h2 => hb i j x e f e' f' hi hj h1 h2) (fun i x e f hi hF => (ha i x e f hi hF).2.1) (fun γ H a w lst st hls hlst => ?_) ops.size _ γ H a _ (by simp) (fun j _ => hall j) (fun i o hi => by rw [hall i] at hi; cases hi) ?_ ?_ ?_
  · rw [sAt_all] at st
    exact hend _ _ h3 γ H a w lst (st.wk (by rw [statesFrom_zero] at h2; exact h2) (Wk.refl _)) hls hlst
  · have : ((List.range m).filter fun j => !(Array.replicate ops.size false).getD j false) = List.range m := List.filter_eq_self.2 fun j _ => by rw [hall j]; rfl
    rw [this, List.length_range]; omega
  · intro x b hx
    have : lastW ops (fun j => (Array.replicate ops.size false).getD j false) x m = none := by
      have h0 : ∀ k, lastW ops (fun _ => false) x k = none := fun k => by
        induction k with
        | zero => rfl
        | succ k ih => simp [lastW, ih]
      rw [lastW_congr (S' := fun _ => false) m (fun j _ _ => hall j)]; exact h0 m
    simp only [tabAt, this] at hx
    exact s.tmp x b hx
  · have e0 : sAt F (fun j => (Array.replicate ops.size false).getD j false) σ m = sAt F (fun _ => false) σ m := sAt_congr m fun j _ _ => hall j
    rw [e0]
    refine s'.wk (Wk.nil _) fun x e hx => ?_
    have up : ∀ k, k ≤ m → look x (sAt F (fun _ => false) σ k) = some e → look x σ0 = some e := fun k => by
      induction k with
      | zero => exact fun _ h => hσ x e h
      | succ k ih =>
        intro hk h
        simp only [sAt] at h
        cases hF : F k with
        | none => rw [hF] at h; exact ih (by omega) h
        | some q =>
          obtain ⟨y, e1, f1⟩ := q
          rw [hF] at h
          simp only at h
          rw [look_cons] at h
          split at h
          · next hy =>
            subst hy
            cases h
            exact (ha k _ _ _ (by omega) hF).1
          · exact ih (by omega) h
    exact up m (Nat.le_refl _) hx
/-! ### The reckoning -/
def inN (i : Nat) : List Nat → Bool
  | [] => false
  | j :: r => match Nat.beq i j with | true => true | false => inN i r
def hideS (ks : List Nat) : Sg → Sg
  | [] => []
  | (i, e) :: σ => match inN i ks with | true => hideS ks σ | false => (i, e) :: hideS ks σ
theorem hideS_wk (ks : List Nat) : ∀ σ : Sg, Wk (hideS ks σ) σ ∧ ∀ i, inN i ks = true → look i (hideS ks σ) = none
  | [] => ⟨Wk.nil _, fun _ _ => rfl⟩
  | (j, e) :: σ => by
    obtain ⟨h1, h2⟩ := hideS_wk ks σ
    have go : ∀ i a, inN i ks = false → look i (hideS ks σ) = some a → look i σ = some a := fun i a _ h => h1 i a h
    refine ⟨fun i a hi => ?_, fun i hi => ?_⟩
    · have hn : inN i ks = false := by
        cases h : inN i ks with
        | false => rfl
        | true =>
          have : look i (hideS ks ((j, e) :: σ)) = none := by
            simp only [hideS]
            split
            · exact h2 i h
            · next hj =>
              rw [look_cons, if_neg (fun e => by subst e; rw [h] at hj; cases hj)]
              exact h2 i h
          rw [this] at hi; cases hi
      simp only [hideS] at hi
      split at hi
      · next hj =>
        rw [look_cons, if_neg (fun e => by subst e; rw [hn] at hj; cases hj)]
        exact h1 i a hi
      · rw [look_cons] at hi ⊢
        split
        · next e => rw [if_pos e] at hi; exact hi
        · next e => rw [if_neg e] at hi; exact h1 i a hi
    · simp only [hideS]
      split
      · exact h2 i hi
      · next hj =>
        rw [look_cons, if_neg (fun e => by subst e; rw [hi] at hj; cases hj)]
        exact h2 i hi
/-- A store of the head. -/
def stS (X : Cx) (e : TypeId) (x y : Operand) (t : T) (σ0 σ ss : Sg) (K : Nat → Ent → Prop) : Prop := match szOf X.P e, ge t x, ge t y with
  | some n, some (.box i off), some v => (match look i σ0, look i σ, look i ss with
    | some (.cells cs), none, none => (match oneAV v && oneAll (avCells v) && Nat.beq (avCells v).length n && Nat.ble (off + n) cs.length with
      | true => frcN (off + n) (setF cs off (avCells v)) fun cs' => K i (.cells cs')
      | false => False)
    | _, _, _ => False)
  | _, _, _ => False
def stepS (X : Cx) (o : Oper) (t : T) (σ : Sg) (K : T → Prop) : Prop :=
  qw X o t σ (fun V => match dOk o.dst X.N with | true => K (putT o.dst V t) | false => False) (QuietP X o t σ (fun V => match dOk o.dst X.N with | true => K (putT o.dst V t) | false => False) fun _ _ _ => False)
def vS (X : Cx) (all : Array Oper) (σ0 σ : Sg) (Q : T → Sg → Prop) : List Oper → T → Sg → Prop
  | [], t, ss => Q t ss
  | o :: rest, t, ss => match o.op, o.dst, o.guard with
    | .store e x y, none, none => stS X e x y t σ0 σ ss fun i f => vS X all σ0 σ Q rest t ((i, f) :: ss)
    | _, _, none => stepS X o t σ fun t => vS X all σ0 σ Q rest t ss
    | _, _, some (j, b0) => match dstOf all j, dOk o.dst X.N with
      | some d, true => (match look d t with
        | some (.d (.v (.bool b))) => grd b0 b d t (fun t => stepS X o t σ fun t => vS X all σ0 σ Q rest t ss) (fun t => vS X all σ0 σ Q rest (putT o.dst (.tup []) t) ss)
        | some (.tup []) => vS X all σ0 σ Q rest (putT o.dst (.tup []) t) ss
        | _ => False)
      | _, _ => False
theorem StoreJ.wk {X : Cx} {o : Oper} {t t' : T} {id : Nat} {e f : Ent} (hw : Wk t' t) (h : StoreJ X o t' id e f) : StoreJ X o t id e f :=
  ⟨h.1, h.2.1, fun t2 σ2 hx hl => h.2.2 t2 σ2 (fun x hx2 v hv => hx x hx2 v (by
    cases x with
    | tmp i => exact hw i v hv
    | const c => exact hv
    | func f => exact hv
    | global g => exact hv)) hl⟩
theorem CS.wk {X : Cx} {all : Array Oper} {σ0 σ : Sg} {Q : T → Sg → Prop} : ∀ (rest : List Oper) (t t' : T) (ss : Sg), Wk t' t → CS X all σ0 σ Q rest t' ss → CS X all σ0 σ Q rest t ss
  | [], t, t', ss, hw, ⟨t'', h1, h2⟩ => ⟨t'', h1.trans hw, h2⟩
  | o :: rest, t, t', ss, hw, h => by
    rcases h with ⟨V, h1, h2, h4⟩ | ⟨id, e, f, hs, g1, g2, g3, h4⟩
    · exact .inl ⟨V, h1.wk hw, h2, CS.wk rest _ _ ss hw.put h4⟩
    · exact .inr ⟨id, e, f, hs.wk hw, g1, g2, g3, CS.wk rest _ _ _ hw h4⟩
theorem stepS_sound {X : Cx} {all : Array Oper} {o : Oper} {t : T} {σ0 σ ss : Sg} {rest : List Oper} {Q : T → Sg → Prop} {K : T → Prop} (hK : ∀ t, K t → CS X all σ0 σ Q rest t ss)
    (hg : o.guard = none ∨ ∃ j b d, o.guard = some (j, b) ∧ ((all[j]?).bind (·.dst)) = some d ∧ look d t = some (.d (.v (.bool b)))) (h : stepS X o t σ K) : CS X all σ0 σ Q (o :: rest) t ss := by
  have fin : ∀ V, QJ X o t σ V → (match dOk o.dst X.N with | true => K (putT o.dst V t) | false => False) → CS X all σ0 σ Q (o :: rest) t ss := fun V hq hk => by
    split at hk
    · next hb =>
      rcases hg with hg | ⟨j, b, d, h1, h2, h3⟩
      · exact .inl ⟨V, .inl ⟨hg, hq⟩, hb, hK _ hk⟩
      · exact .inl ⟨V, .inr (.inl ⟨j, b, d, h1, h2, h3, hq⟩), hb, hK _ hk⟩
    · exact hk.elim
  unfold stepS at h
  rcases qw_sound h with ⟨V, hq, hk⟩ | h
  · exact fin V hq hk
  · cases h with
    | of hq hk => exact fin _ hq hk
    | born hb hk => exact hk.elim
theorem stS_sound {X : Cx} {o : Oper} {e : TypeId} {x y : Operand} {t : T} {σ0 σ ss : Sg} {K : Nat → Ent → Prop} (ho : o.op = .store e x y) (hd : o.dst = none) (hg : o.guard = none) (h : stS X e x y t σ0 σ ss K) :
    ∃ id en f, StoreJ X o t id en f ∧ look id σ0 = some en ∧ look id σ = none ∧ look id ss = none ∧ K id f := by
  unfold stS at h
  split at h
  · next n i off v hs hx hy =>
    split at h
    · next cs h1 h2 h3 =>
      split at h
      · next hb =>
        simp only [Bool.and_eq_true, Nat.ble_eq, Nat.beq_eq] at hb
        rw [frcN_eq, setF_eq] at h
        obtain ⟨d, op, ty, pos, aft, g⟩ := o
        simp only at ho hd hg
        subst ho; subst hd; subst hg
        refine ⟨i, _, _, ⟨rfl, rfl, fun t' σ' hop hl => ?_⟩, h1, h2, h3, h⟩
        exact O.store (hop x (by simp [Op.operands]) _ hx) rfl (hop y (by simp [Op.operands]) _ hy) hl hb.1.1.1 hb.1.1.2 (szOf_run hs) hb.1.2 hb.2 rfl ⟨rfl, rfl⟩
      · exact h.elim
    · exact h.elim
  · exact h.elim
theorem vS_sound {X : Cx} {all : Array Oper} {σ0 σ : Sg} {Q : T → Sg → Prop} : ∀ (rest : List Oper) (t : T) (ss : Sg), vS X all σ0 σ Q rest t ss → CS X all σ0 σ Q rest t ss
  | [], t, ss, h => ⟨t, Wk.refl t, h⟩
  | o :: rest, t, ss, h => by
    unfold vS at h
    split at h
    · next e x y ho hd hg =>
      obtain ⟨id, en, f, h1, h2, h3, h4, h5⟩ := stS_sound ho hd hg h
      exact .inr ⟨id, en, f, h1, h2, h3, h4, vS_sound rest t _ h5⟩
    · next hg _ => exact stepS_sound (fun t h => vS_sound rest t ss h) (.inl hg) h
    · next j b0 hg =>
      split at h
      · next d hd hN =>
        have hd' : ((all[j]?).bind (·.dst)) = some d := by rw [dstOf_eq]; exact hd
        split at h
        · next b hb =>
          have yes : ∀ c, b = c → stepS X o ((d, .d (.v (.bool c))) :: t) σ (fun t => vS X all σ0 σ Q rest t ss) → c = b0 → CS X all σ0 σ Q (o :: rest) t ss := fun c hc he hcb => by
            subst hc; subst hcb
            exact CS.wk _ _ _ _ (Wk.cons hb (Wk.refl t)) (stepS_sound (fun t h => vS_sound rest t ss h) (.inr ⟨j, b, d, hg, hd', by rw [look_cons, if_pos rfl]⟩) he)
          have no : ∀ c, b = c → vS X all σ0 σ Q rest (putT o.dst (.tup []) ((d, .d (.v (.bool c))) :: t)) ss → c ≠ b0 → CS X all σ0 σ Q (o :: rest) t ss := fun c hc he hcb => by
            subst hc
            exact CS.wk _ _ _ _ (Wk.cons hb (Wk.refl t)) (.inl ⟨.tup [], .inr (.inr (.inl ⟨j, b0, b, d, hg, hd', by rw [look_cons, if_pos rfl], hcb, rfl⟩)), hN, vS_sound rest _ ss he⟩)
          cases b0 with
          | true => cases b with
            | true => exact yes true rfl (h.1 rfl) rfl
            | false => exact no false rfl (h.2 rfl) (by simp)
          | false => cases b with
            | true => exact no true rfl (h.1 rfl) (by simp)
            | false => exact yes false rfl (h.2 rfl) rfl
        · next hb => exact .inl ⟨.tup [], .inr (.inr (.inr ⟨j, b0, d, hg, hd', hb, rfl⟩)), hN, vS_sound rest _ ss h⟩
        · exact h.elim
      · exact h.elim
/-- **A region that draws its order: quiet operations ahead, and stores into the variables ks, in any order, the rest by all orders.** -/
theorem RegP.mixS {X : Cx} {id : Nat} {ops : Array Oper} {t : T} {σ : Sg} {Q : T → Sg → Prop} (m : Nat) (ks : List Nat) (hm : X.P.follows .mixedOrders = true) (hc : (calmB2 ops m && Nat.ble m ops.size) = true)
    (h : vS X ops σ (hideS ks σ) (fun t ss => vO X ops Q (ops.size - m) (trues m (falses (ops.size - m))) t (ss ++ hideS ks σ)) (ops.toList.take m) t []) : RegP X id ops t σ Q := by
  intro Q' hQ
  simp only [Bool.and_eq_true, Nat.ble_eq] at hc
  refine WJ.calmS m hm (calmB2_R hc.1) hc.2 (hideS_wk ks σ).1 (fun t σ h3 γ H a w lst hst hls hlst => ?_) (vS_sound _ _ _ h)
  have e : lst = (trues m (falses (ops.size - m))).toArray := by
    rw [trues_eq, falses_eq]
    apply Array.ext
    · simp [hls]; omega
    · intro j h1 h2
      have hj := hlst j (by omega)
      rw [Array.getD_eq_getD_getElem?, Array.getElem?_eq_getElem h1, Option.getD_some] at hj
      rw [hj, List.getElem_toArray, List.getElem_append]
      split
      · next h3 => simp at h3; simp [h3]
      · next h3 => simp at h3; simp; omega
  rw [e]
  exact vO_sound (Q := Q) (Q' := Post X Q') (fun γ H t σ a w s q => ⟨γ, H, t, σ, s, hQ t σ q⟩) (ops.size - m) _ t _ h3 γ H a w hst
end Go.Gv
end
section
open Go Go.Gv
attribute [local irreducible] Go.Gv.WJ Go.Gv.OpJ Go.Gv.QJ Go.Gv.Spl Go.Gv.Req Go.Gv.IdxP Go.Gv.RegP Go.Gv.FinP Go.Gv.CellP Go.Gv.CellsP Go.Gv.ArrP Go.Gv.ArrsP Go.Gv.DropP Go.Gv.ByteP Go.Gv.StoreP
set_option maxRecDepth 100000
namespace Go.Proofs.E
attribute [local irreducible] elems
theorem Take_c {s : SS} {l : List OP} (h : isS s l) (R : List OP) {o : OP} (hw : wrongO l o = 0) : Cv 58 [vv s l R, opv o, stv (appS s l o), iv (atO l o)] (.tup [vv (appS s l o) (l ++ [o]) R, chv (chO l o)]) := by
  have hd : Dn (l ++ [o]) := .snoc h.dn hw
  have hs := appS_is h o
  rw [show appL l o = l ++ [o] from if_pos hw] at hs
  have hsm := hs.small
  obtain ⟨n, e, hat, _, hget, hid⟩ := at_get h.dn hw
  have hlen := h.dn.len2
  have hoc := (wrong_0 hw).1
  have hch : chO l o = ⟨((l ++ [o]).length : Nat), rankL (rowE (l ++ [o])) (n : Nat), e.id, e.ch, decide (o.k = 1)⟩ := by
    unfold chO
    rw [hat, Int.toNat_natCast, hget, hid]; rfl
  have hatc := At_c (appS s l o).t (n : Nat) (by omega)
  rw [atT_row hs, hget] at hatc
  have hrk := Rank_c (appS s l o).t (n : Nat) (by omega) (by omega) (by have := (List.getElem?_eq_some_iff.1 hget).1; have := row_le hd; omega)
  rw [hs.els] at hrk
  rw [hat, hch]
  have hwr : IntKind.i64.wrap ((l.length : Nat) + 1) = ((l ++ [o]).length : Nat) := by rw [wrap_id _ (by omega) (by omega)]; simp
  have hput : o.k = 0 → Cv 90 [tlv (sumV l), idv o.i] (.tup [tlv (sumV (l ++ [o])), iv 0]) := fun hk => by
    rw [sumV_snoc0 hk]
    refine PutOk_c (sumV l) o.i (sum_ok h.dn) (checkO_may hoc) ?_
    have h1 := hd.is.len
    rw [insL_snoc0 hk, List.length_append] at h1
    rw [sumV_n]; simp at h1; omega
  have hsame : o.k ≠ 0 → sumV (l ++ [o]) = sumV l := sumV_snoc1
  generalize appS s l o = s' at *
  generalize rankL (rowE (l ++ [o])) (n : Nat) = rk at *
  refine Ct.of_vc Tryz.f58 Tryz.func58 rfl rfl fun w H B g0 => ?_
  refine OpJ.callV hatc (fun _ _ => rfl) rfl rfl rfl ?_
  (repeat (first | refine Spl.t rfl ?_ | refine Spl.f rfl ?_))
  refine Spl.of (fun h1 => ?_) (fun h1 => ?_)
  · have h1 : o.k = 0 := of_decide_eq_true h1
    have hput := hput h1
    rw [show vv s' (l ++ [o]) R = .agg [.d s'.t.d, .d s'.p.d, iv s'.n, .d (.sl 6 (R.map opD)), iv (IntKind.i64.wrap ((l.length : Nat) + 1)), iv (sumV (l ++ [o])).n, cx (sumV (l ++ [o])).a (sumV (l ++ [o])).b, cx (sumV (l ++ [o])).c (sumV (l ++ [o])).d] by rw [hwr], ← hwr]
    generalize sumV (l ++ [o]) = T at hput
    (repeat (first | refine Spl.t rfl ?_ | refine Spl.f rfl ?_))
    refine OpJ.callV hput (fun _ _ => rfl) rfl rfl rfl ?_
    (repeat (first | refine Spl.t rfl ?_ | refine Spl.f rfl ?_))
    refine RegP.mixS 17 [8, 9] rfl (by decide +kernel) ?_
    refine QuietP.of (QJ.call hrk (fun _ _ => rfl) rfl rfl) ?_
    exact FinP.open rfl rfl
  · have h1 := hsame (of_decide_eq_false h1)
    rw [show vv s' (l ++ [o]) R = .agg [.d s'.t.d, .d s'.p.d, iv s'.n, .d (.sl 6 (R.map opD)), iv (IntKind.i64.wrap ((l.length : Nat) + 1)), iv (sumV l).n, cx (sumV l).a (sumV l).b, cx (sumV l).c (sumV l).d] by rw [hwr, ← h1], ← hwr]
    (repeat (first | refine Spl.t rfl ?_ | refine Spl.f rfl ?_))
    refine RegP.mixS 17 [8, 9] rfl (by decide +kernel) ?_
    refine QuietP.of (QJ.call hrk (fun _ _ => rfl) rfl rfl) ?_
    exact FinP.open rfl rfl
theorem RTake_c {l : List OP} (h : Dn l) (R : List OP) {o : OP} (hw : wrongO l o = 0) : Cv 109 [rvv l R, opv o] (.tup [rvv (l ++ [o]) R, chv (chO l o)]) := by
  have hd : Dn (l ++ [o]) := .snoc h hw
  obtain ⟨n, e, hat, hpl, hget, hid⟩ := at_get h hw
  have hlen := h.len2
  have hll : (l ++ [o]).length = l.length + 1 := by simp
  have hli := RList8_c hd R
  have hle := row_le hd
  have hch : chO l o = ⟨((l ++ [o]).length : Nat), rankL (rowE (l ++ [o])) (n : Nat), o.i, e.ch, decide (o.k = 1)⟩ := by
    unfold chO
    rw [hat, Int.toNat_natCast, hget]; rfl
  rw [hch]
  have hplc := RPlace_c (rowE (l ++ [o])) o.i (by omega)
  have hrk := RRank_c (rowE (l ++ [o])) (n : Nat) (by omega)
  rw [hpl] at hplc
  generalize rowE (l ++ [o]) = L at *
  generalize rankL L (n : Nat) = rk at *
  refine Ct.of_wv Tryz.f109 Tryz.func109 rfl rfl fun w H B g0 => ?_
  try refine WJ.cut ?_
  (first | refine Sq.go ?_ | refine vL_nil (Sq.go ?_) | skip)
  try refine WJ.cut ?_
  refine RegP.mix 6 rfl (by decide +kernel) ?_
  refine QuietP.born (Go.Gv.B.appF (i := 11) rfl (.full _ _) (FlatQ.data rfl rfl) rfl (by show 0 + _ ≤ _; rw [List.length_map]; omega) (.inr rfl)) ?_
  (repeat' (first | exact trivial | refine And.intro ?_ ?_))
  refine Req.of ⟨by rw [List.length_append], by rw [List.length_map]; show 0 + _ + 1 ≤ _; omega⟩ ?_
  (repeat' (first | exact trivial | refine And.intro ?_ ?_))
  (first | refine Sq.go ?_ | refine vL_nil (Sq.go ?_) | skip)
  have hrow : (([] ++ l.map opD ++ [opD o] : List (List D))).length = 0 + (l.map opD).length + 1 := by simp
  refine WJ.shift (SJ.pubCell 11 2 0 (cs := [.arr 11 6 (0 + (l.map opD).length + 1), .d (.sl 6 (R.map opD))]) (k := 6) (n := 0 + (l.map opD).length + 1) (xs := [] ++ l.map opD ++ [opD o]) rfl rfl rfl (Nat.le_of_eq hrow.symm) (by rw [List.length_map]; omega)) ?_
  rw [← hrow, List.take_length, show [] ++ l.map opD ++ [opD o] = (l ++ [o]).map opD by simp]
  try refine WJ.cut ?_
  refine OpJ.callV hli (fun _ _ => rfl) rfl rfl rfl ?_
  (first | refine Sq.go ?_ | refine vL_nil (Sq.go ?_) | skip)
  try refine WJ.cut ?_
  refine OpJ.callV hplc (fun _ _ => rfl) rfl rfl rfl ?_
  (first | refine Sq.go ?_ | refine vL_nil (Sq.go ?_) | skip)
  try refine vc_sound _ _ _ _ ?_
  refine RegP.mixS 20 [4, 5] rfl (by decide +kernel) ?_
  refine QuietP.of (QJ.call hrk (fun _ _ => rfl) rfl rfl) ?_
  refine IdxP.of (elD e) (by omega) (by simp [hget]) ?_
  refine FinP.open rfl ?_
  have hlm : (l ++ [o]).length = ((l ++ [o]).map opD).length := (List.length_map _).symm
  rw [hlm]; rfl
end Go.Proofs.E
end
section
open Go Go.Gv
attribute [local irreducible] Go.Gv.WJ Go.Gv.OpJ Go.Gv.QJ Go.Gv.Spl Go.Gv.Req Go.Gv.IdxP Go.Gv.RegP Go.Gv.FinP Go.Gv.CellP Go.Gv.CellsP Go.Gv.ArrP Go.Gv.ArrsP Go.Gv.DropP Go.Gv.ByteP Go.Gv.StoreP
set_option maxRecDepth 100000
namespace Go.Proofs.E
attribute [local irreducible] elems
def outV (out : List CH) (l : List OP) (o : OP) : List CH := if wrongO l o = 0 then out ++ [chO l o] else out
theorem out_row (out : List CH) (c : CH) : out.map chD ++ [chD c] = (out ++ [c]).map chD := by simp
theorem In_c {s : SS} {l : List OP} (h : isS s l) (R : List OP) (o : OP) (out : List CH) (hn : out.length ≤ 900000) :
    Ct tab Tryz.prog 56 [opv o, .box 2 0, .box 8 0] [(2, .cells (vcs s l R)), (8, .cells [.arr 1000 6 out.length]), (1000, .arr 6 (out.map chD))]
      (fun q σ' => q = iv (wrongO l o) ∧ σ' = [(2, .cells (vcs (appS s l o) (appL l o) R)), (8, .cells [.arr 1000 6 (outV out l o).length]), (1000, .arr 6 ((outV out l o).map chD))]) := by
  have hap := Apply_c h o
  refine Ct.of_wv Tryz.f56 Tryz.func56 rfl rfl fun w H B g0 => ?_
  try refine WJ.cut ?_
  (first | refine Sq.go ?_ | refine vL_nil (Sq.go ?_) | skip)
  try refine WJ.cut ?_
  refine OpJ.callV hap (fun _ _ => rfl) rfl rfl rfl ?_
  (first | refine Sq.go ?_ | refine vL_nil (Sq.go ?_) | skip)
  try refine WJ.cut ?_
  refine Spl.of (fun h1 => ?_) (fun h1 => ?_)
  · have h1 : wrongO l o = 0 := of_decide_eq_true h1
    have htk := Take_c h R h1
    have e1 : appL l o = l ++ [o] := if_pos h1
    have e2 : outV out l o = out ++ [chO l o] := if_pos h1
    rw [e1, e2]
    generalize appS s l o = s' at htk ⊢
    generalize chO l o = c at htk ⊢
    generalize l ++ [o] = l' at htk ⊢
    have hrow := out_row out c
    have hlc : (out ++ [c]).length = out.length + 1 := by simp
    rw [hlc, ← hrow]
    (repeat (first | refine Spl.t rfl ?_ | refine Spl.f rfl ?_))
    refine OpJ.callV htk (fun _ _ => rfl) rfl rfl rfl ?_
    refine O.allocN 1008 rfl rfl rfl rfl rfl ?_
    (first | refine Sq.go ?_ | refine vL_nil (Sq.go ?_) | skip)
    try refine WJ.cut ?_
    refine RegP.orders rfl ?_; (repeat' (refine And.intro ?_ ?_))
    all_goals refine Req.of ⟨by rw [List.length_map], by show _ + 1 ≤ _; omega⟩ ?_
    all_goals (repeat' (first | exact trivial | refine And.intro ?_ ?_))
    all_goals ((first | refine Sq.go ?_ | refine vL_nil (Sq.go ?_) | skip))
    all_goals (try refine vc_sound _ _ _ _ ?_)
    all_goals exact FinP.priv [(2, .cells (vcs s' l' R)), (8, .cells [.arr 1000 6 (out.length + 1)]), (1000, .arr 6 (out.map chD ++ [chD c]))] (Wk.cons rfl (Wk.cons rfl (Wk.cons rfl (Wk.nil _)))) rfl ⟨rfl, rfl⟩
  · have h1 : ¬ wrongO l o = 0 := of_decide_eq_false h1
    have e1 : appL l o = l := if_neg h1
    have e2 : outV out l o = out := if_neg h1
    have e3 : appS s l o = s := if_neg h1
    rw [e1, e2, e3]
    (repeat (first | refine Spl.t rfl ?_ | refine Spl.f rfl ?_))
    (first | refine Sq.go ?_ | refine vL_nil (Sq.go ?_) | skip)
    try refine vc_sound _ _ _ _ ?_
    exact FinP.priv [(2, .cells (vcs s l R)), (8, .cells [.arr 1000 6 out.length]), (1000, .arr 6 (out.map chD))] (Wk.cons rfl (Wk.cons rfl (Wk.cons rfl (Wk.nil _)))) rfl ⟨rfl, rfl⟩
end Go.Proofs.E
end
section
open Go Go.Gv
attribute [local irreducible] Go.Gv.WJ Go.Gv.OpJ Go.Gv.QJ Go.Gv.Spl Go.Gv.Req Go.Gv.IdxP Go.Gv.RegP Go.Gv.FinP Go.Gv.CellP Go.Gv.CellsP Go.Gv.ArrP Go.Gv.ArrsP Go.Gv.DropP Go.Gv.ByteP Go.Gv.StoreP
set_option maxRecDepth 100000
namespace Go.Proofs.E
attribute [local irreducible] elems
structure VS where
  s : SS
  l : List OP
  R : List OP
  out : List CH
/-- An operation taken in, if it can be applied. -/
def VS.take (v : VS) (o : OP) : VS := ⟨appS v.s v.l o, appL v.l o, v.R, outV v.out v.l o⟩
def VS.next (v : VS) : VS := VS.take ⟨v.s, v.l, nextR v.l v.R, v.out⟩ (nextO v.l v.R)
def drn : Nat → VS → VS
  | 0, v => v
  | n + 1, v => if nextIx v.l v.R < 0 then v else drn n v.next
def remV (v : VS) (o : OP) : VS := if wrongO v.l o = 0 then drn v.R.length (VS.take ⟨v.s, v.l, v.R, []⟩ o) else if wrongO v.l o = 6 then ⟨v.s, v.l, addR v.R o, []⟩ else ⟨v.s, v.l, v.R, []⟩
def remE (v : VS) (o : OP) : Int := if wrongO v.l o = 6 then addE v.R o else wrongO v.l o
theorem out_len (out : List CH) (l : List OP) (o : OP) : (outV out l o).length ≤ out.length + 1 := by unfold outV; split <;> simp
theorem nextR_lt {l R : List OP} (h : ¬ nextIx l R < 0) : (nextR l R).length + 1 = R.length := by
  have := nextIx_lt l R
  unfold nextR
  rw [if_neg h]; simp; omega
abbrev chs (out : List CH) : D := .sl 6 (out.map chD)
abbrev cellsV (v : VS) : List AV := vcs v.s v.l v.R
theorem Remote_c {s : SS} {l : List OP} (h : isS s l) (R : List OP) (out0 : List CH) (o : OP) (hR : R.length ≤ 100000) :
    Cv 11 [vv s l R, opv o] (.tup [vv (remV ⟨s, l, R, out0⟩ o).s (remV ⟨s, l, R, out0⟩ o).l (remV ⟨s, l, R, out0⟩ o).R, .d (chs (remV ⟨s, l, R, out0⟩ o).out), iv (remE ⟨s, l, R, out0⟩ o)]) := by
  have hin := In_c h R o [] (by simp)
  have hadd := Add_c R o (by omega)
  refine Ct.of_wv Tryz.f11 Tryz.func11 rfl rfl fun w H B g0 => ?_
  try refine WJ.cut ?_
  (first | refine Sq.go ?_ | refine vL_nil (Sq.go ?_) | skip)
  try refine WJ.cut ?_
  (first | refine Sq.go ?_ | refine vL_nil (Sq.go ?_) | skip)
  try refine WJ.cut ?_
  (first | refine Sq.go ?_ | refine vL_nil (Sq.go ?_) | skip)
  refine WJ.shift (SJ.nilCell 1000 8 0 6 rfl rfl rfl) ?_
  try refine WJ.cut ?_
  (first | refine Sq.go ?_ | refine vL_nil (Sq.go ?_) | skip)
  try refine WJ.cut ?_
  refine OpJ.callT rfl (FnIs.fnp _ _) hin (fun _ _ => rfl) rfl rfl (Wk.cons rfl (Wk.cons rfl (Wk.cons rfl (Wk.nil _)))) ?_
  rintro q σ' ⟨rfl, rfl⟩
  refine ⟨rfl, ?_⟩
  (first | refine Sq.go ?_ | refine vL_nil (Sq.go ?_) | skip)
  try refine WJ.cut ?_
  refine Spl.of (fun h1 => ?_) (fun h1 => ?_)
  · have h1 : wrongO l o = 0 := of_decide_eq_true h1
    have eR : remV ⟨s, l, R, out0⟩ o = drn R.length (VS.take ⟨s, l, R, []⟩ o) := if_pos h1
    have eE : remE ⟨s, l, R, out0⟩ o = 0 := by unfold remE; rw [h1]; rfl
    have hs := appS_is h o
    have ho := out_len [] l o
    rw [eR, eE]
    (repeat (first | refine Spl.t rfl ?_ | refine Spl.f rfl ?_))
    (first | refine Sq.go ?_ | refine vL_nil (Sq.go ?_) | skip)
    try refine vc_sound _ _ _ _ ?_
    refine WJ.loopK (V := VS) (fun v => []) (fun v => [(2, .cells (cellsV v)), (8, .cells [.arr 1000 6 v.out.length]), (1000, .arr 6 (v.out.map chD))]) [2, 8, 1000] (fun v => v.R.length) (fun v => isS v.s v.l ∧ v.out.length + v.R.length ≤ 100001 ∧ drn v.R.length v = drn R.length (VS.take ⟨s, l, R, []⟩ o)) (VS.take ⟨s, l, R, []⟩ o) ⟨hs, by simp only [VS.take]; simp at ho; omega, rfl⟩ (by repeat' (first | exact trivial | exact rfl | refine And.intro ?_ ?_)) (by repeat' (first | exact trivial | exact rfl | refine And.intro ?_ ?_)) ?_
    rintro ⟨s1, l1, R1, out1⟩ ⟨h2, h3, h4⟩
    simp only at h2 h3 h4
    have hnx := Next_c h2 R1 (by omega)
    have hin1 := In_c h2 (nextR l1 R1) (nextO l1 R1) out1 (by omega)
    (repeat (first | refine Spl.t rfl ?_ | refine Spl.f rfl ?_))
    refine OpJ.callV hnx (fun _ _ => rfl) rfl rfl rfl ?_
    (repeat (first | refine Spl.t rfl ?_ | refine Spl.f rfl ?_))
    refine Spl.of (fun h5 => ?_) (fun h5 => ?_)
    · have h5 : nextIx l1 R1 < 0 := by simpa using h5
      have e5 : drn R1.length ⟨s1, l1, R1, out1⟩ = ⟨s1, l1, R1, out1⟩ := by
        cases R1.length with
        | zero => rfl
        | succ n => rw [drn, if_pos h5]
      rw [← h4, e5]
      have hpl : out1.length ≤ (out1.map chD).length := by rw [List.length_map]; exact Nat.le_refl _
      (repeat (first | refine Spl.t rfl ?_ | refine Spl.f rfl ?_))
      refine RegP.mixS 5 [4] rfl (by decide +kernel) ?_
      refine FinP.pubTup 1000 1 rfl rfl hpl (by show out1.length ≤ _; omega) (FinP.open rfl ?_)
      exact congrArg (fun r => AV.tup [vv s1 l1 R1, .d (.sl 6 r), iv 0]) (List.take_of_length_le (Nat.le_of_eq (List.length_map ..)))
    · have h5 : ¬ nextIx l1 R1 < 0 := by simpa using h5
      have hlt := nextR_lt h5
      have ho1 := out_len out1 l1 (nextO l1 R1)
      have e5 : drn (nextR l1 R1).length (VS.next ⟨s1, l1, R1, out1⟩) = drn R.length (VS.take ⟨s, l, R, []⟩ o) := by
        rw [← h4, ← hlt, drn, if_neg h5]
      have hs1 := appS_is h2 (nextO l1 R1)
      (repeat (first | refine Spl.t rfl ?_ | refine Spl.f rfl ?_))
      refine OpJ.callT rfl (FnIs.fnp _ _) hin1 (fun _ _ => rfl) rfl rfl (Wk.cons rfl (Wk.cons rfl (Wk.cons rfl (Wk.nil _)))) ?_
      rintro q σ' ⟨rfl, rfl⟩
      refine ⟨rfl, ?_⟩
      (repeat (first | refine Spl.t rfl ?_ | refine Spl.f rfl ?_))
      exact ⟨VS.next ⟨s1, l1, R1, out1⟩, ⟨hs1, by simp only [VS.next, VS.take]; omega, e5⟩, by simp only [VS.next, VS.take]; omega, (by repeat' (first | exact trivial | exact rfl | refine And.intro ?_ ?_)), (by repeat' (first | exact trivial | exact rfl | refine And.intro ?_ ?_)), (by repeat' (first | exact trivial | exact rfl | refine And.intro ?_ ?_)), (by repeat' (first | exact trivial | exact rfl | refine And.intro ?_ ?_))⟩
  · have h1 : ¬ wrongO l o = 0 := of_decide_eq_false h1
    have e1 : appL l o = l := if_neg h1
    have e2 : outV [] l o = [] := if_neg h1
    have e3 : appS s l o = s := if_neg h1
    rw [e1, e2, e3]
    (repeat (first | refine Spl.t rfl ?_ | refine Spl.f rfl ?_))
    refine Spl.of (fun h2 => ?_) (fun h2 => ?_)
    · have h2 : wrongO l o = 6 := of_decide_eq_true h2
      have eR : remV ⟨s, l, R, out0⟩ o = ⟨s, l, addR R o, []⟩ := (if_neg h1).trans (if_pos h2)
      have eE : remE ⟨s, l, R, out0⟩ o = addE R o := if_pos h2
      rw [eR, eE]
      (repeat (first | refine Spl.t rfl ?_ | refine Spl.f rfl ?_))
      refine OpJ.callV hadd (fun _ _ => rfl) rfl rfl rfl ?_
      (repeat (first | refine Spl.t rfl ?_ | refine Spl.f rfl ?_))
      refine Spl.of (fun h3 => ?_) (fun h3 => ?_)
      · have h3 : ¬ addE R o = 0 := by simpa using h3
        have e4 : addR R o = R := if_neg h3
        rw [e4]
        (repeat (first | refine Spl.t rfl ?_ | refine Spl.f rfl ?_))
        refine .out (by simp) ?_
        refine FinP.viewTup 1 rfl (fun _ _ _ h => nil_sl 6 h) ?_
        exact FinP.open rfl rfl
      · have h3 : addE R o = 0 := by simpa using h3
        rw [h3]
        (repeat (first | refine Spl.t rfl ?_ | refine Spl.f rfl ?_))
        refine .out (by simp) ?_
        refine FinP.viewTup 1 rfl (fun _ _ _ h => nil_sl 6 h) ?_
        exact FinP.open rfl rfl
    · have h2 : ¬ wrongO l o = 6 := of_decide_eq_false h2
      have eR : remV ⟨s, l, R, out0⟩ o = ⟨s, l, R, []⟩ := (if_neg h1).trans (if_neg h2)
      have eE : remE ⟨s, l, R, out0⟩ o = wrongO l o := if_neg h2
      rw [eR, eE]
      (repeat (first | refine Spl.t rfl ?_ | refine Spl.f rfl ?_))
      refine .out (by simp) ?_
      refine FinP.viewTup 1 rfl (fun _ _ _ h => nil_sl 6 h) ?_
      exact FinP.open rfl rfl
end Go.Proofs.E
end
section
open Go Go.Gv
attribute [local irreducible] Go.Gv.WJ Go.Gv.OpJ Go.Gv.QJ Go.Gv.Spl Go.Gv.Req Go.Gv.IdxP Go.Gv.RegP Go.Gv.FinP Go.Gv.CellP Go.Gv.CellsP Go.Gv.ArrP Go.Gv.ArrsP Go.Gv.DropP Go.Gv.ByteP Go.Gv.StoreP
set_option maxRecDepth 100000
namespace Go.Proofs.E
attribute [local irreducible] elems
def tO (c : CH) : List CH → AV
  | [] => .full 6 [chD c]
  | r :: rs => .arr 84 6 ((c :: r :: rs).length)
def sO (c : CH) : List CH → Sg
  | [] => []
  | r :: rs => [(84, .arr 6 ((c :: r :: rs).map chD))]
theorem full_sl {γ : Ids} {H : HF} {k : Nat} {xs : List (List D)} {u : Value} (r : Rep γ H (.full k xs) u) : Rep γ H (.d (.sl k xs)) u := by
  cases r with
  | full _ _ A h => exact .d _ _ h
set_option maxHeartbeats 2000000 in
theorem RRemote_c {s : SS} {l : List OP} (h : isS s l) (R : List OP) (out0 : List CH) (o : OP) (hR : R.length ≤ 100000) :
    Cv 66 [rvv l R, opv o] (.tup [rvv (remV ⟨s, l, R, out0⟩ o).l (remV ⟨s, l, R, out0⟩ o).R, .d (chs (remV ⟨s, l, R, out0⟩ o).out), iv (remE ⟨s, l, R, out0⟩ o)]) := by
  have hl := h.dn.len2
  have hadd := RAdd_c R o (by omega)
  have hwr := RWrong_c l o (by omega)
  refine Ct.of_vc Tryz.f66 Tryz.func66 rfl rfl fun w H B g0 => ?_
  refine OpJ.callV hwr (fun _ _ => rfl) rfl rfl rfl ?_
  (repeat (first | refine Spl.t rfl ?_ | refine Spl.f rfl ?_))
  refine Spl.of (fun h2 => ?_) (fun h2 => ?_)
  · have h2 : wrongO l o = 6 := of_decide_eq_true h2
    have h1 : ¬ wrongO l o = 0 := by omega
    have eR : remV ⟨s, l, R, out0⟩ o = ⟨s, l, addR R o, []⟩ := (if_neg h1).trans (if_pos h2)
    have eE : remE ⟨s, l, R, out0⟩ o = addE R o := if_pos h2
    rw [eR, eE]
    (repeat (first | refine Spl.t rfl ?_ | refine Spl.f rfl ?_))
    refine OpJ.callV hadd (fun _ _ => rfl) rfl rfl rfl ?_
    (repeat (first | refine Spl.t rfl ?_ | refine Spl.f rfl ?_))
    refine Spl.of (fun h3 => ?_) (fun h3 => ?_)
    · have h3 : ¬ addE R o = 0 := by simpa using h3
      have e4 : addR R o = R := if_neg h3
      rw [e4]
      (repeat (first | refine Spl.t rfl ?_ | refine Spl.f rfl ?_))
      refine FinP.viewTup 1 rfl (fun _ _ _ h => nil_sl 6 h) ?_
      exact FinP.open rfl rfl
    · have h3 : addE R o = 0 := by simpa using h3
      rw [h3]
      (repeat (first | refine Spl.t rfl ?_ | refine Spl.f rfl ?_))
      refine FinP.viewTup 1 rfl (fun _ _ _ h => nil_sl 6 h) ?_
      exact FinP.open rfl rfl
  · have h2 : ¬ wrongO l o = 6 := of_decide_eq_false h2
    have eE : remE ⟨s, l, R, out0⟩ o = wrongO l o := if_neg h2
    rw [eE]
    (repeat (first | refine Spl.t rfl ?_ | refine Spl.f rfl ?_))
    refine Spl.of (fun h1 => ?_) (fun h1 => ?_)
    · have h1 : ¬ wrongO l o = 0 := by simpa using h1
      have eR : remV ⟨s, l, R, out0⟩ o = ⟨s, l, R, []⟩ := (if_neg h1).trans (if_neg h2)
      rw [eR]
      (repeat (first | refine Spl.t rfl ?_ | refine Spl.f rfl ?_))
      refine FinP.viewTup 1 rfl (fun _ _ _ h => nil_sl 6 h) ?_
      exact FinP.open rfl rfl
    · have h1 : wrongO l o = 0 := by simpa using h1
      have eR : remV ⟨s, l, R, out0⟩ o = drn R.length (VS.take ⟨s, l, R, []⟩ o) := if_pos h1
      have htk := RTake_c h.dn R h1
      have hs := appS_is h o
      have e1 : appL l o = l ++ [o] := if_pos h1
      have e2 : outV [] l o = [chO l o] := if_pos h1
      have eT : VS.take ⟨s, l, R, []⟩ o = ⟨appS s l o, l ++ [o], R, chO l o :: []⟩ := by unfold VS.take; rw [e1, e2]
      rw [eR, h1, eT]
      rw [e1] at hs
      generalize chO l o = c at htk ⊢
      generalize l ++ [o] = l0 at htk hs ⊢
      generalize appS s l o = s0 at hs ⊢
      (repeat (first | refine Spl.t rfl ?_ | refine Spl.f rfl ?_))
      refine OpJ.callV htk (fun _ _ => rfl) rfl rfl rfl ?_
      (repeat (first | refine Spl.t rfl ?_ | refine Spl.f rfl ?_))
      refine WJ.loopK (V := VS × List CH) (fun v => [(12, tO c v.2)]) (fun v => (2, .cells [.d (.sl 6 (v.1.l.map opD)), .d (.sl 6 (v.1.R.map opD))]) :: sO c v.2) [2, 84] (fun v => v.1.R.length) (fun v => isS v.1.s v.1.l ∧ v.1.out = c :: v.2 ∧ v.1.out.length + v.1.R.length ≤ 100001 ∧ drn v.1.R.length v.1 = drn R.length ⟨s0, l0, R, [c]⟩) (⟨s0, l0, R, [c]⟩, []) ⟨hs, rfl, by simp; omega, rfl⟩ (by repeat' (first | exact trivial | exact rfl | refine And.intro ?_ ?_)) (by repeat' (first | exact trivial | exact rfl | refine And.intro ?_ ?_)) ?_
      rintro ⟨⟨s1, l1, R1, out1⟩, r1⟩ ⟨g1, g2, g3, g4⟩
      simp only at g1 g2 g3 g4
      subst g2
      have hl1 := g1.dn.len2
      have hnx := RNext_c l1 R1 (by omega) (by omega)
      have hlt' := nextIx_lt l1 R1
      (repeat (first | refine Spl.t rfl ?_ | refine Spl.f rfl ?_))
      refine OpJ.callV hnx (fun _ _ => rfl) rfl rfl rfl ?_
      (repeat (first | refine Spl.t rfl ?_ | refine Spl.f rfl ?_))
      refine Spl.of (fun h5 => ?_) (fun h5 => ?_)
      · have h5 : nextIx l1 R1 < 0 := of_decide_eq_true h5
        have e5 : drn R1.length ⟨s1, l1, R1, c :: r1⟩ = ⟨s1, l1, R1, c :: r1⟩ := by
          cases R1.length with
          | zero => rfl
          | succ n => rw [drn, if_pos h5]
        rw [← g4, e5]
        cases r1 with
        | nil =>
          (repeat (first | refine Spl.t rfl ?_ | refine Spl.f rfl ?_))
          refine FinP.viewTup 1 rfl (fun _ _ _ h => full_sl h) ?_
          exact FinP.open rfl rfl
        | cons r rs =>
          (repeat (first | refine Spl.t rfl ?_ | refine Spl.f rfl ?_))
          refine FinP.pubTup 84 1 (k := 6) (n := (c :: r :: rs).length) (xs := (c :: r :: rs).map chD) rfl rfl (Nat.le_of_eq (List.length_map ..).symm) (by omega) (FinP.open rfl ?_)
          exact congrArg (fun x => AV.tup [rvv l1 R1, .d (.sl 6 x), iv 0]) (List.take_of_length_le (Nat.le_of_eq (List.length_map ..)))
      · have h5 : ¬ nextIx l1 R1 < 0 := of_decide_eq_false h5
        obtain ⟨n, e6⟩ : ∃ n : Nat, nextIx l1 R1 = n := ⟨(nextIx l1 R1).toNat, by omega⟩
        have hnl : n < R1.length := by omega
        have hy : R1[n]? = some R1[n] := by simp
        have hwo := Without_c R1 n (by omega) hnl
        have hlt := nextR_lt h5
        have ho1 := out_len (c :: r1) l1 (nextO l1 R1)
        have e5 : drn (nextR l1 R1).length (VS.next ⟨s1, l1, R1, c :: r1⟩) = drn R.length ⟨s0, l0, R, [c]⟩ := by
          rw [← g4, ← hlt, drn, if_neg h5]
        have hs1 := appS_is g1 (nextO l1 R1)
        unfold VS.next VS.take at e5
        simp only at e5
        rw [nextR_at e6, nextO_at e6 hy] at e5
        rw [nextO_at e6 hy] at hs1 ho1
        rw [nextR_at e6] at hlt
        rw [e6]
        generalize R1[n] = y at hy e5 hs1 ho1
        generalize R1.take n ++ R1.drop (n + 1) = Rw at hwo hlt e5
        have hwr1 := RWrong_c l1 y (by omega)
        by_cases h7 : wrongO l1 y = 0
        · have htk1 := RTake_c g1.dn Rw h7
          have a1 : appL l1 y = l1 ++ [y] := if_pos h7
          have a2 : outV (c :: r1) l1 y = c :: (r1 ++ [chO l1 y]) := if_pos h7
          rw [a1, a2] at e5
          rw [a1] at hs1
          rw [a2] at ho1
          generalize chO l1 y = d at htk1 e5 ho1
          generalize l1 ++ [y] = l2 at htk1 hs1 e5
          generalize appS s1 l1 y = s2 at hs1 e5
          cases r1 with
          | nil =>
            ((repeat (first | refine Spl.t rfl ?_ | refine Spl.f rfl ?_)); refine IdxP.of (opD y) (by omega) (by simp [hy]) ?_; (repeat (first | refine Spl.t rfl ?_ | refine Spl.f rfl ?_)); refine OpJ.callV hwo (fun _ _ => rfl) rfl rfl rfl ?_; (repeat (first | refine Spl.t rfl ?_ | refine Spl.f rfl ?_)); refine OpJ.callV hwr1 (fun _ _ => rfl) rfl rfl rfl ?_; (repeat (first | refine Spl.t rfl ?_ | refine Spl.f rfl ?_)))
            refine Spl.t (decide_eq_true h7) ?_
            (repeat (first | refine Spl.t rfl ?_ | refine Spl.f rfl ?_))
            refine OpJ.callV htk1 (fun _ _ => rfl) rfl rfl rfl ?_
            (repeat (first | refine Spl.t rfl ?_ | refine Spl.f rfl ?_))
            refine O.appF (k := 6) rfl rfl (.full 6 _) rfl rfl rfl rfl (by show 1 + 1 ≤ 1000000000; decide) (.inl (List.cons_ne_nil _ _)) ?_
            (repeat (first | refine Spl.t rfl ?_ | refine Spl.f rfl ?_))
            exact ⟨(⟨s2, l2, Rw, [c, d]⟩, [d]), ⟨hs1, rfl, by simp only at g3 ⊢; simp at g3 ⊢; omega, e5⟩, by simp only; omega, (by repeat' (first | exact trivial | exact rfl | refine And.intro ?_ ?_)), (by repeat' (first | exact trivial | exact rfl | refine And.intro ?_ ?_)), (by repeat' (first | exact trivial | exact rfl | refine And.intro ?_ ?_)), (by repeat' (first | exact trivial | exact rfl | refine And.intro ?_ ?_))⟩
          | cons r rs =>
            have hrow : (c :: r :: rs).map chD ++ [chD d] = (c :: r :: (rs ++ [d])).map chD := by simp
            ((repeat (first | refine Spl.t rfl ?_ | refine Spl.f rfl ?_)); refine IdxP.of (opD y) (by omega) (by simp [hy]) ?_; (repeat (first | refine Spl.t rfl ?_ | refine Spl.f rfl ?_)); refine OpJ.callV hwo (fun _ _ => rfl) rfl rfl rfl ?_; (repeat (first | refine Spl.t rfl ?_ | refine Spl.f rfl ?_)); refine OpJ.callV hwr1 (fun _ _ => rfl) rfl rfl rfl ?_; (repeat (first | refine Spl.t rfl ?_ | refine Spl.f rfl ?_)))
            refine Spl.t (decide_eq_true h7) ?_
            (repeat (first | refine Spl.t rfl ?_ | refine Spl.f rfl ?_))
            refine OpJ.callV htk1 (fun _ _ => rfl) rfl rfl rfl ?_
            (repeat (first | refine Spl.t rfl ?_ | refine Spl.f rfl ?_))
            refine Req.of ⟨by rw [List.length_map], (show (c :: r :: rs).length + 1 ≤ 1000000000 by simp at g3 ⊢; omega)⟩ ?_
            (repeat (first | refine Spl.t rfl ?_ | refine Spl.f rfl ?_))
            exact ⟨(⟨s2, l2, Rw, c :: r :: (rs ++ [d])⟩, r :: (rs ++ [d])), ⟨hs1, rfl, by simp only at g3 ⊢; simp at g3 ⊢; omega, e5⟩, by simp only; omega, ⟨some_arr (by simp; rfl), trivial⟩, (by repeat' (first | exact trivial | exact rfl | refine And.intro ?_ ?_)), ⟨rfl, some_ear hrow, trivial⟩, (by repeat' (first | exact trivial | exact rfl | refine And.intro ?_ ?_))⟩
        · have a1 : appL l1 y = l1 := if_neg h7
          have a2 : outV (c :: r1) l1 y = c :: r1 := if_neg h7
          have a3 : appS s1 l1 y = s1 := if_neg h7
          rw [a1, a2, a3] at e5
          cases r1 with
          | nil =>
            ((repeat (first | refine Spl.t rfl ?_ | refine Spl.f rfl ?_)); refine IdxP.of (opD y) (by omega) (by simp [hy]) ?_; (repeat (first | refine Spl.t rfl ?_ | refine Spl.f rfl ?_)); refine OpJ.callV hwo (fun _ _ => rfl) rfl rfl rfl ?_; (repeat (first | refine Spl.t rfl ?_ | refine Spl.f rfl ?_)); refine OpJ.callV hwr1 (fun _ _ => rfl) rfl rfl rfl ?_; (repeat (first | refine Spl.t rfl ?_ | refine Spl.f rfl ?_)))
            refine Spl.f (decide_eq_false h7) ?_
            (repeat (first | refine Spl.t rfl ?_ | refine Spl.f rfl ?_))
            exact ⟨(⟨s1, l1, Rw, [c]⟩, []), ⟨g1, rfl, by simp only at g3 ⊢; omega, e5⟩, by simp only; omega, (by repeat' (first | exact trivial | exact rfl | refine And.intro ?_ ?_)), (by repeat' (first | exact trivial | exact rfl | refine And.intro ?_ ?_)), (by repeat' (first | exact trivial | exact rfl | refine And.intro ?_ ?_)), (by repeat' (first | exact trivial | exact rfl | refine And.intro ?_ ?_))⟩
          | cons r rs =>
            ((repeat (first | refine Spl.t rfl ?_ | refine Spl.f rfl ?_)); refine IdxP.of (opD y) (by omega) (by simp [hy]) ?_; (repeat (first | refine Spl.t rfl ?_ | refine Spl.f rfl ?_)); refine OpJ.callV hwo (fun _ _ => rfl) rfl rfl rfl ?_; (repeat (first | refine Spl.t rfl ?_ | refine Spl.f rfl ?_)); refine OpJ.callV hwr1 (fun _ _ => rfl) rfl rfl rfl ?_; (repeat (first | refine Spl.t rfl ?_ | refine Spl.f rfl ?_)))
            refine Spl.f (decide_eq_false h7) ?_
            (repeat (first | refine Spl.t rfl ?_ | refine Spl.f rfl ?_))
            exact ⟨(⟨s1, l1, Rw, c :: r :: rs⟩, r :: rs), ⟨g1, rfl, by simp only at g3 ⊢; omega, e5⟩, by simp only; omega, (by repeat' (first | exact trivial | exact rfl | refine And.intro ?_ ?_)), (by repeat' (first | exact trivial | exact rfl | refine And.intro ?_ ?_)), (by repeat' (first | exact trivial | exact rfl | refine And.intro ?_ ?_)), (by repeat' (first | exact trivial | exact rfl | refine And.intro ?_ ?_))⟩
end Go.Proofs.E
end
section
open Go Go.Gv
attribute [local irreducible] Go.Gv.WJ Go.Gv.OpJ Go.Gv.QJ Go.Gv.Spl Go.Gv.Req Go.Gv.IdxP Go.Gv.RegP Go.Gv.FinP Go.Gv.CellP Go.Gv.CellsP Go.Gv.ArrP Go.Gv.ArrsP Go.Gv.DropP Go.Gv.ByteP Go.Gv.StoreP
set_option maxRecDepth 100000
namespace Go.Proofs.E
attribute [local irreducible] elems
def VS.same (v : VS) : VS := ⟨v.s, v.l, v.R, []⟩
def opI (v : VS) (site at_ ch : Int) : OP := ⟨0, ⟨cntV v.l v.R, site⟩, nameL (rowE v.l) (at_ - 1), ch⟩
def opX (v : VS) (at_ : Int) : OP := ⟨1, nameL (rowE v.l) at_, ⟨0, 0⟩, 0⟩
def doT (v : VS) (o : OP) : VS × OP × Int := if remE v o ≠ 0 then (v.same, OP0, remE v o) else (remV v o, o, 0)
def insVT (v : VS) (site at_ ch : Int) : VS × OP × Int :=
  if site < 1 ∨ site > 1000 ∨ at_ < 0 ∨ at_ > liveL (rowE v.l) then (v.same, OP0, 2)
  else if ch < 32 ∨ ch > 1114111 ∨ 55296 ≤ ch ∧ ch ≤ 57343 then (v.same, OP0, 1)
  else if 4096 ≤ (rowE v.l).length ∨ cntV v.l v.R > 1048576 then (v.same, OP0, 7)
  else doT v (opI v site at_ ch)
def delVT (v : VS) (at_ : Int) : VS × OP × Int := if 0 ≤ at_ ∧ at_ < liveL (rowE v.l) then doT v (opX v at_) else (v.same, OP0, 2)
def resT (p : VS × OP × Int) : AV := .tup [vv p.1.s p.1.l p.1.R, opv p.2.1, .d (chs p.1.out), iv p.2.2]
def resR (p : VS × OP × Int) : AV := .tup [rvv p.1.l p.1.R, opv p.2.1, .d (chs p.1.out), iv p.2.2]
def prb (ch : Int) : OP := ⟨0, ⟨1, 1⟩, ⟨0, 0⟩, ch⟩
theorem prb_check (ch : Int) : checkO (prb ch) = if ch < 32 ∨ ch > 1114111 ∨ 55296 ≤ ch ∧ ch ≤ 57343 then 1 else 0 := by
  have h1 : mayI ⟨1, 1⟩ = true := by decide
  have h2 : noneI ⟨0, 0⟩ = true := by decide
  unfold checkO prb
  simp only [h1, h2]
  simp
theorem VDelete_c {s : SS} {l : List OP} (h : isS s l) (R : List OP) (hR : R.length ≤ 100000) (at_ : Int) :
    Cv 13 [vv s l R, iv at_] (resT (delVT ⟨s, l, R, []⟩ at_)) := by
  have hn := VNamed_c h R at_
  have hr := Remote_c h R [] (opX ⟨s, l, R, []⟩ at_) hR
  by_cases hk : 0 ≤ at_ ∧ at_ < liveL (rowE l)
  · have eD : delVT ⟨s, l, R, []⟩ at_ = doT ⟨s, l, R, []⟩ (opX ⟨s, l, R, []⟩ at_) := if_pos hk
    rw [eD]
    rw [decide_eq_true hk] at hn
    unfold opX at hr ⊢
    simp only at hr ⊢
    generalize nameL (rowE l) at_ = a at hn hr ⊢
    have e1 : remE ⟨s, l, R, []⟩ ⟨1, a, ⟨0, 0⟩, 0⟩ ≠ 0 → doT ⟨s, l, R, []⟩ ⟨1, a, ⟨0, 0⟩, 0⟩ = (⟨s, l, R, []⟩, OP0, remE ⟨s, l, R, []⟩ ⟨1, a, ⟨0, 0⟩, 0⟩) := fun h => if_pos h
    have e2 : remE ⟨s, l, R, []⟩ ⟨1, a, ⟨0, 0⟩, 0⟩ = 0 → doT ⟨s, l, R, []⟩ ⟨1, a, ⟨0, 0⟩, 0⟩ = (remV ⟨s, l, R, []⟩ ⟨1, a, ⟨0, 0⟩, 0⟩, ⟨1, a, ⟨0, 0⟩, 0⟩, 0) := fun h => if_neg (fun e => e h)
    generalize remE ⟨s, l, R, []⟩ ⟨1, a, ⟨0, 0⟩, 0⟩ = e at hr e1 e2
    generalize remV ⟨s, l, R, []⟩ ⟨1, a, ⟨0, 0⟩, 0⟩ = v' at hr e2
    generalize doT ⟨s, l, R, []⟩ ⟨1, a, ⟨0, 0⟩, 0⟩ = p at e1 e2 ⊢
    refine Ct.of_vc Tryz.f13 Tryz.func13 rfl rfl fun w H B g0 => ?_
    refine OpJ.callV hn (fun _ _ => rfl) rfl rfl rfl ?_
    (repeat (first | refine Spl.t rfl ?_ | refine Spl.f rfl ?_))
    refine OpJ.callV hr (fun _ _ => rfl) rfl rfl rfl ?_
    (repeat (first | refine Spl.t rfl ?_ | refine Spl.f rfl ?_))
    refine Spl.of (fun h1 => ?_) (fun h1 => ?_)
    · have h1 : e ≠ 0 := by simpa using h1
      rw [e1 h1]
      (repeat (first | refine Spl.t rfl ?_ | refine Spl.f rfl ?_))
      refine FinP.viewTup 2 rfl (fun _ _ _ h => nil_sl 6 h) ?_
      exact FinP.open rfl rfl
    · have h1 : e = 0 := by simpa using h1
      rw [e2 h1]
      (repeat (first | refine Spl.t rfl ?_ | refine Spl.f rfl ?_))
      refine RegP.mixS 7 [4, 5] rfl (by decide +kernel) ?_
      exact FinP.open rfl rfl
  · have eD : delVT ⟨s, l, R, []⟩ at_ = (⟨s, l, R, []⟩, OP0, 2) := if_neg hk
    rw [eD]
    rw [decide_eq_false hk] at hn
    refine Ct.of_vc Tryz.f13 Tryz.func13 rfl rfl fun w H B g0 => ?_
    refine OpJ.callV hn (fun _ _ => rfl) rfl rfl rfl ?_
    (repeat (first | refine Spl.t rfl ?_ | refine Spl.f rfl ?_))
    refine FinP.viewTup 2 rfl (fun _ _ _ h => nil_sl 6 h) ?_
    exact FinP.open rfl rfl
theorem ins_no1 {v : VS} {site at_ ch : Int} (h : site < 1 ∨ site > 1000 ∨ at_ < 0 ∨ at_ > liveL (rowE v.l)) : insVT v site at_ ch = (v.same, OP0, 2) := if_pos h
theorem live_le (L : List EL) : liveL L ≤ L.length := List.length_filter_le _ _
set_option maxHeartbeats 1000000 in
theorem VInsert_c {s : SS} {l : List OP} (h : isS s l) (R : List OP) (hR : R.length ≤ 100000) (hok : ∀ o, o ∈ R → checkO o = 0) (site at_ ch : Int) :
    Cv 12 [vv s l R, iv site, iv at_, cv' ch] (resT (insVT ⟨s, l, R, []⟩ site at_ ch)) := by
  have hlen := VLen_c h R
  have hck := Check5_c (prb ch)
  rw [prb_check] at hck
  have hct := VCounter_c h (by omega) hok
  have hts := TLen_c s.t
  rw [h.size, ← row_len h.dn] at hts
  have hlr := row_le h.dn
  have hlv := live_le (rowE l)
  have n1 := fun h => ins_no1 (v := ⟨s, l, R, []⟩) (site := site) (at_ := at_) (ch := ch) h
  refine Ct.of_wv Tryz.f12 Tryz.func12 rfl rfl fun w H B g0 => ?_
  try refine WJ.cut ?_
  (first | refine Sq.go ?_ | refine vL_nil (Sq.go ?_) | skip)
  try refine WJ.cut ?_
  refine Spl.of (fun a1 => ?_) (fun a1 => ?_)
  · rw [n1 (.inl (of_decide_eq_true a1))]
    ((repeat (first | refine Spl.t rfl ?_ | refine Spl.f rfl ?_)); refine .out (by simp) ?_; refine FinP.viewTup 2 rfl (fun _ _ _ h => nil_sl 6 h) ?_; exact FinP.open rfl rfl)
  have a1 := of_decide_eq_false a1
  (repeat (first | refine Spl.t rfl ?_ | refine Spl.f rfl ?_))
  refine Spl.of (fun a2 => ?_) (fun a2 => ?_)
  · rw [n1 (.inr (.inl (of_decide_eq_true a2)))]
    ((repeat (first | refine Spl.t rfl ?_ | refine Spl.f rfl ?_)); refine .out (by simp) ?_; refine FinP.viewTup 2 rfl (fun _ _ _ h => nil_sl 6 h) ?_; exact FinP.open rfl rfl)
  have a2 := of_decide_eq_false a2
  (repeat (first | refine Spl.t rfl ?_ | refine Spl.f rfl ?_))
  refine Spl.of (fun a3 => ?_) (fun a3 => ?_)
  · rw [n1 (.inr (.inr (.inl (of_decide_eq_true a3))))]
    ((repeat (first | refine Spl.t rfl ?_ | refine Spl.f rfl ?_)); refine .out (by simp) ?_; refine FinP.viewTup 2 rfl (fun _ _ _ h => nil_sl 6 h) ?_; exact FinP.open rfl rfl)
  have a3 := of_decide_eq_false a3
  (repeat (first | refine Spl.t rfl ?_ | refine Spl.f rfl ?_))
  refine OpJ.callV hlen (fun _ _ => rfl) rfl rfl rfl ?_
  (repeat (first | refine Spl.t rfl ?_ | refine Spl.f rfl ?_))
  refine Spl.of (fun a4 => ?_) (fun a4 => ?_)
  · rw [n1 (.inr (.inr (.inr (of_decide_eq_true a4))))]
    ((repeat (first | refine Spl.t rfl ?_ | refine Spl.f rfl ?_)); refine .out (by simp) ?_; refine FinP.viewTup 2 rfl (fun _ _ _ h => nil_sl 6 h) ?_; exact FinP.open rfl rfl)
  have a4 := of_decide_eq_false a4
  have g1 : ¬ (site < 1 ∨ site > 1000 ∨ at_ < 0 ∨ at_ > liveL (rowE l)) := by omega
  (repeat (first | refine Spl.t rfl ?_ | refine Spl.f rfl ?_))
  (first | refine Sq.go ?_ | refine vL_nil (Sq.go ?_) | skip)
  try refine WJ.cut ?_
  (first | refine Sq.go ?_ | refine vL_nil (Sq.go ?_) | skip)
  try refine WJ.cut ?_
  refine OpJ.callV hck (fun _ _ => rfl) rfl rfl rfl ?_
  (repeat (first | refine Spl.t rfl ?_ | refine Spl.f rfl ?_))
  by_cases c1 : ch < 32 ∨ ch > 1114111 ∨ 55296 ≤ ch ∧ ch ≤ 57343
  · have e : insVT ⟨s, l, R, []⟩ site at_ ch = (⟨s, l, R, []⟩, OP0, 1) := (if_neg g1).trans (if_pos c1)
    rw [e]
    refine Spl.t (by rw [if_pos c1]; rfl) ?_
    ((repeat (first | refine Spl.t rfl ?_ | refine Spl.f rfl ?_)); refine .out (by simp) ?_; refine FinP.viewTup 2 rfl (fun _ _ _ h => nil_sl 6 h) ?_; exact FinP.open rfl rfl)
  refine Spl.f (by rw [if_neg c1]; rfl) ?_
  (repeat (first | refine Spl.t rfl ?_ | refine Spl.f rfl ?_))
  refine OpJ.callV hts (fun _ _ => rfl) rfl rfl rfl ?_
  (repeat (first | refine Spl.t rfl ?_ | refine Spl.f rfl ?_))
  by_cases c2 : 4096 ≤ (rowE l).length
  · have e : insVT ⟨s, l, R, []⟩ site at_ ch = (⟨s, l, R, []⟩, OP0, 7) := (if_neg g1).trans ((if_neg c1).trans (if_pos (.inl c2)))
    rw [e]
    refine Spl.t (decide_eq_true (by omega)) ?_
    ((repeat (first | refine Spl.t rfl ?_ | refine Spl.f rfl ?_)); refine .out (by simp) ?_; refine FinP.viewTup 2 rfl (fun _ _ _ h => nil_sl 6 h) ?_; exact FinP.open rfl rfl)
  refine Spl.f (decide_eq_false (by omega)) ?_
  (repeat (first | refine Spl.t rfl ?_ | refine Spl.f rfl ?_))
  refine OpJ.callV hct (fun _ _ => rfl) rfl rfl rfl ?_
  (repeat (first | refine Spl.t rfl ?_ | refine Spl.f rfl ?_))
  refine Spl.of (fun c3 => ?_) (fun c3 => ?_)
  · have e : insVT ⟨s, l, R, []⟩ site at_ ch = (⟨s, l, R, []⟩, OP0, 7) := (if_neg g1).trans ((if_neg c1).trans (if_pos (.inr (of_decide_eq_true c3))))
    rw [e]
    ((repeat (first | refine Spl.t rfl ?_ | refine Spl.f rfl ?_)); refine .out (by simp) ?_; refine FinP.viewTup 2 rfl (fun _ _ _ h => nil_sl 6 h) ?_; exact FinP.open rfl rfl)
  have c3 := of_decide_eq_false c3
  have e : insVT ⟨s, l, R, []⟩ site at_ ch = doT ⟨s, l, R, []⟩ (opI ⟨s, l, R, []⟩ site at_ ch) := (if_neg g1).trans ((if_neg c1).trans (if_neg (fun h => by rcases h with h | h; exact c2 h; exact c3 h)))
  rw [e]
  have hw : IntKind.i64.wrap (at_ - 1) = at_ - 1 := wrap_id _ (by omega) (by omega)
  have hn := VNamed_c h R (IntKind.i64.wrap (at_ - 1))
  have hr := Remote_c h R [] (opI ⟨s, l, R, []⟩ site at_ ch) hR
  unfold opI at hr ⊢
  simp only at hr ⊢
  rw [← hw] at hr ⊢
  generalize nameL (rowE l) (IntKind.i64.wrap (at_ - 1)) = a at hn hr ⊢
  generalize cntV l R = c at hct hr ⊢
  have e1 : remE ⟨s, l, R, []⟩ ⟨0, ⟨c, site⟩, a, ch⟩ ≠ 0 → doT ⟨s, l, R, []⟩ ⟨0, ⟨c, site⟩, a, ch⟩ = (⟨s, l, R, []⟩, OP0, remE ⟨s, l, R, []⟩ ⟨0, ⟨c, site⟩, a, ch⟩) := fun h => if_pos h
  have e2 : remE ⟨s, l, R, []⟩ ⟨0, ⟨c, site⟩, a, ch⟩ = 0 → doT ⟨s, l, R, []⟩ ⟨0, ⟨c, site⟩, a, ch⟩ = (remV ⟨s, l, R, []⟩ ⟨0, ⟨c, site⟩, a, ch⟩, ⟨0, ⟨c, site⟩, a, ch⟩, 0) := fun h => if_neg (fun e => e h)
  generalize remE ⟨s, l, R, []⟩ ⟨0, ⟨c, site⟩, a, ch⟩ = er at hr e1 e2
  generalize remV ⟨s, l, R, []⟩ ⟨0, ⟨c, site⟩, a, ch⟩ = v' at hr e2
  generalize doT ⟨s, l, R, []⟩ ⟨0, ⟨c, site⟩, a, ch⟩ = p at e1 e2 ⊢
  (repeat (first | refine Spl.t rfl ?_ | refine Spl.f rfl ?_))
  (first | refine Sq.go ?_ | refine vL_nil (Sq.go ?_) | skip)
  try refine WJ.cut ?_
  refine OpJ.callV hct (fun _ _ => rfl) rfl rfl rfl ?_
  (repeat (first | refine Spl.t rfl ?_ | refine Spl.f rfl ?_))
  (first | refine Sq.go ?_ | refine vL_nil (Sq.go ?_) | skip)
  try refine WJ.cut ?_
  refine OpJ.callV hn (fun _ _ => rfl) rfl rfl rfl ?_
  (repeat (first | refine Spl.t rfl ?_ | refine Spl.f rfl ?_))
  (first | refine Sq.go ?_ | refine vL_nil (Sq.go ?_) | skip)
  try refine WJ.cut ?_
  refine OpJ.callV hr (fun _ _ => rfl) rfl rfl rfl ?_
  (repeat (first | refine Spl.t rfl ?_ | refine Spl.f rfl ?_))
  (first | refine Sq.go ?_ | refine vL_nil (Sq.go ?_) | skip)
  try refine WJ.cut ?_
  refine Spl.of (fun h1 => ?_) (fun h1 => ?_)
  · have h1 : er ≠ 0 := by simpa using h1
    rw [e1 h1]
    ((repeat (first | refine Spl.t rfl ?_ | refine Spl.f rfl ?_)); refine .out (by simp) ?_; refine FinP.viewTup 2 rfl (fun _ _ _ h => nil_sl 6 h) ?_; exact FinP.open rfl rfl)
  · have h1 : er = 0 := by simpa using h1
    rw [e2 h1]
    (repeat (first | refine Spl.t rfl ?_ | refine Spl.f rfl ?_))
    (first | refine Sq.go ?_ | refine vL_nil (Sq.go ?_) | skip)
    try refine vc_sound _ _ _ _ ?_
    refine RegP.mixS 7 [8, 9] rfl (by decide +kernel) ?_
    exact FinP.open rfl rfl
end Go.Proofs.E
end
section
open Go Go.Gv
attribute [local irreducible] Go.Gv.WJ Go.Gv.OpJ Go.Gv.QJ Go.Gv.Spl Go.Gv.Req Go.Gv.IdxP Go.Gv.RegP Go.Gv.FinP Go.Gv.CellP Go.Gv.CellsP Go.Gv.ArrP Go.Gv.ArrsP Go.Gv.DropP Go.Gv.ByteP Go.Gv.StoreP
set_option maxRecDepth 100000
namespace Go.Proofs.E
attribute [local irreducible] elems
theorem name_none {L : List EL} {k : Int} (h : ¬ (0 ≤ k ∧ k < liveL L)) : nameL L k = ⟨0, 0⟩ := if_neg h
theorem name_may {l : List OP} (h : Dn l) {k : Int} (hk : 0 ≤ k ∧ k < liveL (rowE l)) : mayI (nameL (rowE l) k) = true := by
  have hlt := sel_lt (rowE l) k.toNat (by omega)
  have hx : (rowE l)[selL k.toNat (rowE l)]? = some (rowE l)[selL k.toNat (rowE l)] := by simp
  have e2 : nameL (rowE l) k = (rowE l)[selL k.toNat (rowE l)].id := by unfold nameL; rw [if_pos hk, hx]; rfl
  rw [e2]
  obtain ⟨o, ho, he⟩ := (row_mem h).1 (List.mem_of_getElem? hx)
  rw [he]
  exact checkO_may (ok_insL h o ho)
set_option maxHeartbeats 1000000 in
theorem RDelete_c {s : SS} {l : List OP} (h : isS s l) (R : List OP) (hR : R.length ≤ 100000) (at_ : Int) (hat : at_ ≤ 9223372036854775807) :
    Cv 69 [rvv l R, iv at_] (resR (delVT ⟨s, l, R, []⟩ at_)) := by
  have hn := RNamed_c h.dn R at_ hat
  have hr := RRemote_c h R [] (opX ⟨s, l, R, []⟩ at_) hR
  by_cases hk : 0 ≤ at_ ∧ at_ < liveL (rowE l)
  · have eD : delVT ⟨s, l, R, []⟩ at_ = doT ⟨s, l, R, []⟩ (opX ⟨s, l, R, []⟩ at_) := if_pos hk
    have hm := name_may h.dn hk
    rw [eD]
    unfold opX at hr ⊢
    simp only at hr ⊢
    generalize nameL (rowE l) at_ = a at hn hr hm ⊢
    have hne : ¬ a = ⟨0, 0⟩ := fun e => by rw [e] at hm; exact absurd hm (by decide)
    have e1 : remE ⟨s, l, R, []⟩ ⟨1, a, ⟨0, 0⟩, 0⟩ ≠ 0 → doT ⟨s, l, R, []⟩ ⟨1, a, ⟨0, 0⟩, 0⟩ = (⟨s, l, R, []⟩, OP0, remE ⟨s, l, R, []⟩ ⟨1, a, ⟨0, 0⟩, 0⟩) := fun h => if_pos h
    have e2 : remE ⟨s, l, R, []⟩ ⟨1, a, ⟨0, 0⟩, 0⟩ = 0 → doT ⟨s, l, R, []⟩ ⟨1, a, ⟨0, 0⟩, 0⟩ = (remV ⟨s, l, R, []⟩ ⟨1, a, ⟨0, 0⟩, 0⟩, ⟨1, a, ⟨0, 0⟩, 0⟩, 0) := fun h => if_neg (fun e => e h)
    generalize remE ⟨s, l, R, []⟩ ⟨1, a, ⟨0, 0⟩, 0⟩ = e at hr e1 e2
    generalize remV ⟨s, l, R, []⟩ ⟨1, a, ⟨0, 0⟩, 0⟩ = v' at hr e2
    generalize doT ⟨s, l, R, []⟩ ⟨1, a, ⟨0, 0⟩, 0⟩ = p at e1 e2 ⊢
    refine Ct.of_vc Tryz.f69 Tryz.func69 rfl rfl fun w H B g0 => ?_
    refine OpJ.callV hn (fun _ _ => rfl) rfl rfl rfl ?_
    (repeat (first | refine Spl.t rfl ?_ | refine Spl.f rfl ?_))
    refine OpJ.qu (O.eqT 3 rfl rfl rfl rfl rfl eqR_ok eqR_g (eqR a ⟨0, 0⟩)) rfl ?_
    refine Spl.f (decide_eq_false hne) ?_
    (repeat (first | refine Spl.t rfl ?_ | refine Spl.f rfl ?_))
    refine OpJ.callV hr (fun _ _ => rfl) rfl rfl rfl ?_
    (repeat (first | refine Spl.t rfl ?_ | refine Spl.f rfl ?_))
    refine Spl.of (fun h1 => ?_) (fun h1 => ?_)
    · have h1 : e ≠ 0 := by simpa using h1
      rw [e1 h1]
      (repeat (first | refine Spl.t rfl ?_ | refine Spl.f rfl ?_))
      refine FinP.viewTup 2 rfl (fun _ _ _ h => nil_sl 6 h) ?_
      exact FinP.open rfl rfl
    · have h1 : e = 0 := by simpa using h1
      rw [e2 h1]
      (repeat (first | refine Spl.t rfl ?_ | refine Spl.f rfl ?_))
      refine RegP.mixS 7 [4, 5] rfl (by decide +kernel) ?_
      exact FinP.open rfl rfl
  · have eD : delVT ⟨s, l, R, []⟩ at_ = (⟨s, l, R, []⟩, OP0, 2) := if_neg hk
    rw [eD]
    rw [name_none hk] at hn
    refine Ct.of_vc Tryz.f69 Tryz.func69 rfl rfl fun w H B g0 => ?_
    refine OpJ.callV hn (fun _ _ => rfl) rfl rfl rfl ?_
    (repeat (first | refine Spl.t rfl ?_ | refine Spl.f rfl ?_))
    refine OpJ.qu (O.eqT 3 rfl rfl rfl rfl rfl eqR_ok eqR_g (eqR ⟨0, 0⟩ ⟨0, 0⟩)) rfl ?_
    refine Spl.t (by simp) ?_
    (repeat (first | refine Spl.t rfl ?_ | refine Spl.f rfl ?_))
    refine FinP.viewTup 2 rfl (fun _ _ _ h => nil_sl 6 h) ?_
    exact FinP.open rfl rfl
set_option maxHeartbeats 1000000 in
theorem RInsert_c {s : SS} {l : List OP} (h : isS s l) (R : List OP) (hR : R.length ≤ 100000) (hok : ∀ o, o ∈ R → checkO o = 0) (site at_ ch : Int) :
    Cv 68 [rvv l R, iv site, iv at_, cv' ch] (resR (insVT ⟨s, l, R, []⟩ site at_ ch)) := by
  have hlist := RList8_c h.dn R
  have hlr := row_le h.dn
  have hrk := RRank_c (rowE l) ((rowE l).map elD).length (by omega)
  have hct := RCounter_c h.dn (by omega) hok
  have hlv := live_le (rowE l)
  have hra : rankL (rowE l) (((rowE l).map elD).length : Nat) = liveL (rowE l) := by rw [List.length_map]; exact rank_all _
  rw [hra] at hrk
  have n1 := fun h => ins_no1 (v := ⟨s, l, R, []⟩) (site := site) (at_ := at_) (ch := ch) h
  refine Ct.of_wv Tryz.f68 Tryz.func68 rfl rfl fun w H B g0 => ?_
  try refine WJ.cut ?_
  (first | refine Sq.go ?_ | refine vL_nil (Sq.go ?_) | skip)
  try refine WJ.cut ?_
  refine OpJ.callV hlist (fun _ _ => rfl) rfl rfl rfl ?_
  (first | refine Sq.go ?_ | refine vL_nil (Sq.go ?_) | skip)
  try refine WJ.cut ?_
  refine Spl.of (fun a1 => ?_) (fun a1 => ?_)
  · rw [n1 (.inl (of_decide_eq_true a1))]
    ((repeat (first | refine Spl.t rfl ?_ | refine Spl.f rfl ?_)); refine .out (by simp) ?_; refine FinP.viewTup 2 rfl (fun _ _ _ h => nil_sl 6 h) ?_; exact FinP.open rfl rfl)
  have a1 := of_decide_eq_false a1
  (repeat (first | refine Spl.t rfl ?_ | refine Spl.f rfl ?_))
  refine Spl.of (fun a2 => ?_) (fun a2 => ?_)
  · rw [n1 (.inr (.inl (of_decide_eq_true a2)))]
    ((repeat (first | refine Spl.t rfl ?_ | refine Spl.f rfl ?_)); refine .out (by simp) ?_; refine FinP.viewTup 2 rfl (fun _ _ _ h => nil_sl 6 h) ?_; exact FinP.open rfl rfl)
  have a2 := of_decide_eq_false a2
  (repeat (first | refine Spl.t rfl ?_ | refine Spl.f rfl ?_))
  refine Spl.of (fun a3 => ?_) (fun a3 => ?_)
  · rw [n1 (.inr (.inr (.inl (of_decide_eq_true a3))))]
    ((repeat (first | refine Spl.t rfl ?_ | refine Spl.f rfl ?_)); refine .out (by simp) ?_; refine FinP.viewTup 2 rfl (fun _ _ _ h => nil_sl 6 h) ?_; exact FinP.open rfl rfl)
  have a3 := of_decide_eq_false a3
  (repeat (first | refine Spl.t rfl ?_ | refine Spl.f rfl ?_))
  refine OpJ.callV hrk (fun _ _ => rfl) rfl rfl rfl ?_
  (repeat (first | refine Spl.t rfl ?_ | refine Spl.f rfl ?_))
  refine Spl.of (fun a4 => ?_) (fun a4 => ?_)
  · rw [n1 (.inr (.inr (.inr (of_decide_eq_true a4))))]
    ((repeat (first | refine Spl.t rfl ?_ | refine Spl.f rfl ?_)); refine .out (by simp) ?_; refine FinP.viewTup 2 rfl (fun _ _ _ h => nil_sl 6 h) ?_; exact FinP.open rfl rfl)
  have a4 := of_decide_eq_false a4
  have g1 : ¬ (site < 1 ∨ site > 1000 ∨ at_ < 0 ∨ at_ > liveL (rowE l)) := by omega
  (repeat (first | refine Spl.t rfl ?_ | refine Spl.f rfl ?_))
  (first | refine Sq.go ?_ | refine vL_nil (Sq.go ?_) | skip)
  try refine WJ.cut ?_
  have n2 : (ch < 32 ∨ ch > 1114111 ∨ 55296 ≤ ch ∧ ch ≤ 57343) → insVT ⟨s, l, R, []⟩ site at_ ch = (⟨s, l, R, []⟩, OP0, 1) := fun c1 => (if_neg g1).trans (if_pos c1)
  refine Spl.of (fun c1 => ?_) (fun c1 => ?_)
  · rw [n2 (.inl (of_decide_eq_true c1))]
    ((repeat (first | refine Spl.t rfl ?_ | refine Spl.f rfl ?_)); refine .out (by simp) ?_; refine FinP.viewTup 2 rfl (fun _ _ _ h => nil_sl 6 h) ?_; exact FinP.open rfl rfl)
  have c1 := of_decide_eq_false c1
  (repeat (first | refine Spl.t rfl ?_ | refine Spl.f rfl ?_))
  refine Spl.of (fun c2 => ?_) (fun c2 => ?_)
  · rw [n2 (.inr (.inl (of_decide_eq_true c2)))]
    ((repeat (first | refine Spl.t rfl ?_ | refine Spl.f rfl ?_)); refine .out (by simp) ?_; refine FinP.viewTup 2 rfl (fun _ _ _ h => nil_sl 6 h) ?_; exact FinP.open rfl rfl)
  have c2 := of_decide_eq_false c2
  (repeat (first | refine Spl.t rfl ?_ | refine Spl.f rfl ?_))
  by_cases c3 : 55296 ≤ ch ∧ ch ≤ 57343
  · rw [n2 (.inr (.inr c3))]
    refine Spl.t (decide_eq_true c3.1) ?_
    (repeat (first | refine Spl.t rfl ?_ | refine Spl.f rfl ?_))
    refine Spl.t (decide_eq_true c3.2) ?_
    ((repeat (first | refine Spl.t rfl ?_ | refine Spl.f rfl ?_)); refine .out (by simp) ?_; refine FinP.viewTup 2 rfl (fun _ _ _ h => nil_sl 6 h) ?_; exact FinP.open rfl rfl)
  have g2 : ¬ (ch < 32 ∨ ch > 1114111 ∨ 55296 ≤ ch ∧ ch ≤ 57343) := by omega
  have n3 : (4096 ≤ (rowE l).length ∨ cntV l R > 1048576) → insVT ⟨s, l, R, []⟩ site at_ ch = (⟨s, l, R, []⟩, OP0, 7) := fun c => (if_neg g1).trans ((if_neg g2).trans (if_pos c))
  have n4 : ¬ (4096 ≤ (rowE l).length ∨ cntV l R > 1048576) → insVT ⟨s, l, R, []⟩ site at_ ch = doT ⟨s, l, R, []⟩ (opI ⟨s, l, R, []⟩ site at_ ch) := fun c => (if_neg g1).trans ((if_neg g2).trans (if_neg c))
  have hw : IntKind.i64.wrap (at_ - 1) = at_ - 1 := wrap_id _ (by omega) (by omega)
  have hn := RNamed_c h.dn R (IntKind.i64.wrap (at_ - 1)) (by omega)
  have hn0 : ¬ at_ > 0 → nameL (rowE l) (IntKind.i64.wrap (at_ - 1)) = ⟨0, 0⟩ := fun h => name_none (by omega)
  have hr := RRemote_c h R [] (opI ⟨s, l, R, []⟩ site at_ ch) hR
  unfold opI at hr n4
  simp only at hr n4
  rw [← hw] at hr n4
  generalize nameL (rowE l) (IntKind.i64.wrap (at_ - 1)) = a at hn hr n4 hn0
  generalize cntV l R = c at hct hr n3 n4
  have e1 : remE ⟨s, l, R, []⟩ ⟨0, ⟨c, site⟩, a, ch⟩ ≠ 0 → doT ⟨s, l, R, []⟩ ⟨0, ⟨c, site⟩, a, ch⟩ = (⟨s, l, R, []⟩, OP0, remE ⟨s, l, R, []⟩ ⟨0, ⟨c, site⟩, a, ch⟩) := fun h => if_pos h
  have e2 : remE ⟨s, l, R, []⟩ ⟨0, ⟨c, site⟩, a, ch⟩ = 0 → doT ⟨s, l, R, []⟩ ⟨0, ⟨c, site⟩, a, ch⟩ = (remV ⟨s, l, R, []⟩ ⟨0, ⟨c, site⟩, a, ch⟩, ⟨0, ⟨c, site⟩, a, ch⟩, 0) := fun h => if_neg (fun e => e h)
  generalize remE ⟨s, l, R, []⟩ ⟨0, ⟨c, site⟩, a, ch⟩ = er at hr e1 e2
  generalize remV ⟨s, l, R, []⟩ ⟨0, ⟨c, site⟩, a, ch⟩ = v' at hr e2
  generalize doT ⟨s, l, R, []⟩ ⟨0, ⟨c, site⟩, a, ch⟩ = p at e1 e2 n4
  by_cases c4 : 55296 ≤ ch
  · refine Spl.t (decide_eq_true c4) ?_
    (repeat (first | refine Spl.t rfl ?_ | refine Spl.f rfl ?_))
    refine Spl.f (decide_eq_false (fun h => c3 ⟨c4, h⟩)) ?_
    ((repeat (first | refine Spl.t rfl ?_ | refine Spl.f rfl ?_)); (first | refine Sq.go ?_ | refine vL_nil (Sq.go ?_) | skip); try refine WJ.cut ?_; refine Spl.of (fun c5 => ?_) (fun c5 => ?_); (have c5 := of_decide_eq_true c5; rw [List.length_map] at c5; rw [n3 (.inl (by omega))]; ((repeat (first | refine Spl.t rfl ?_ | refine Spl.f rfl ?_)); refine .out (by simp) ?_; refine FinP.viewTup 2 rfl (fun _ _ _ h => nil_sl 6 h) ?_; exact FinP.open rfl rfl)); (have c5 := of_decide_eq_false c5; rw [List.length_map] at c5; (repeat (first | refine Spl.t rfl ?_ | refine Spl.f rfl ?_)); refine OpJ.callV hct (fun _ _ => rfl) rfl rfl rfl ?_; (repeat (first | refine Spl.t rfl ?_ | refine Spl.f rfl ?_)); refine Spl.of (fun c6 => ?_) (fun c6 => ?_); (rw [n3 (.inr (of_decide_eq_true c6))]; ((repeat (first | refine Spl.t rfl ?_ | refine Spl.f rfl ?_)); refine .out (by simp) ?_; refine FinP.viewTup 2 rfl (fun _ _ _ h => nil_sl 6 h) ?_; exact FinP.open rfl rfl)); (have c6 := of_decide_eq_false c6; rw [n4 (fun h => by rcases h with h | h; (exact c5 (by omega)); (exact c6 h))]; (repeat (first | refine Spl.t rfl ?_ | refine Spl.f rfl ?_)); (first | refine Sq.go ?_ | refine vL_nil (Sq.go ?_) | skip); try refine WJ.cut ?_; refine OpJ.callV hct (fun _ _ => rfl) rfl rfl rfl ?_; (repeat (first | refine Spl.t rfl ?_ | refine Spl.f rfl ?_)); (first | refine Sq.go ?_ | refine vL_nil (Sq.go ?_) | skip); try refine WJ.cut ?_; refine Spl.of (fun c7 => ?_) (fun c7 => ?_); ((repeat (first | refine Spl.t rfl ?_ | refine Spl.f rfl ?_)); refine OpJ.callV hn (fun _ _ => rfl) rfl rfl rfl ?_; ((repeat (first | refine Spl.t rfl ?_ | refine Spl.f rfl ?_)); (first | refine Sq.go ?_ | refine vL_nil (Sq.go ?_) | skip); try refine WJ.cut ?_; refine OpJ.callV hr (fun _ _ => rfl) rfl rfl rfl ?_; (repeat (first | refine Spl.t rfl ?_ | refine Spl.f rfl ?_)); (first | refine Sq.go ?_ | refine vL_nil (Sq.go ?_) | skip); try refine WJ.cut ?_; refine Spl.of (fun h1 => ?_) (fun h1 => ?_); (have h1 : er ≠ 0 := (by simpa using h1); rw [e1 h1]; ((repeat (first | refine Spl.t rfl ?_ | refine Spl.f rfl ?_)); refine .out (by simp) ?_; refine FinP.viewTup 2 rfl (fun _ _ _ h => nil_sl 6 h) ?_; exact FinP.open rfl rfl)); (have h1 : er = 0 := (by simpa using h1); rw [e2 h1]; (repeat (first | refine Spl.t rfl ?_ | refine Spl.f rfl ?_)); (first | refine Sq.go ?_ | refine vL_nil (Sq.go ?_) | skip); try refine vc_sound _ _ _ _ ?_; refine RegP.mixS 7 [8, 9] rfl (by decide +kernel) ?_; exact FinP.open rfl rfl))); (have c7 := hn0 (of_decide_eq_false c7); subst c7; ((repeat (first | refine Spl.t rfl ?_ | refine Spl.f rfl ?_)); (first | refine Sq.go ?_ | refine vL_nil (Sq.go ?_) | skip); try refine WJ.cut ?_; refine OpJ.callV hr (fun _ _ => rfl) rfl rfl rfl ?_; (repeat (first | refine Spl.t rfl ?_ | refine Spl.f rfl ?_)); (first | refine Sq.go ?_ | refine vL_nil (Sq.go ?_) | skip); try refine WJ.cut ?_; refine Spl.of (fun h1 => ?_) (fun h1 => ?_); (have h1 : er ≠ 0 := (by simpa using h1); rw [e1 h1]; ((repeat (first | refine Spl.t rfl ?_ | refine Spl.f rfl ?_)); refine .out (by simp) ?_; refine FinP.viewTup 2 rfl (fun _ _ _ h => nil_sl 6 h) ?_; exact FinP.open rfl rfl)); (have h1 : er = 0 := (by simpa using h1); rw [e2 h1]; (repeat (first | refine Spl.t rfl ?_ | refine Spl.f rfl ?_)); (first | refine Sq.go ?_ | refine vL_nil (Sq.go ?_) | skip); try refine vc_sound _ _ _ _ ?_; refine RegP.mixS 7 [8, 9] rfl (by decide +kernel) ?_; exact FinP.open rfl rfl))))))
  · refine Spl.f (decide_eq_false c4) ?_
    ((repeat (first | refine Spl.t rfl ?_ | refine Spl.f rfl ?_)); (first | refine Sq.go ?_ | refine vL_nil (Sq.go ?_) | skip); try refine WJ.cut ?_; refine Spl.of (fun c5 => ?_) (fun c5 => ?_); (have c5 := of_decide_eq_true c5; rw [List.length_map] at c5; rw [n3 (.inl (by omega))]; ((repeat (first | refine Spl.t rfl ?_ | refine Spl.f rfl ?_)); refine .out (by simp) ?_; refine FinP.viewTup 2 rfl (fun _ _ _ h => nil_sl 6 h) ?_; exact FinP.open rfl rfl)); (have c5 := of_decide_eq_false c5; rw [List.length_map] at c5; (repeat (first | refine Spl.t rfl ?_ | refine Spl.f rfl ?_)); refine OpJ.callV hct (fun _ _ => rfl) rfl rfl rfl ?_; (repeat (first | refine Spl.t rfl ?_ | refine Spl.f rfl ?_)); refine Spl.of (fun c6 => ?_) (fun c6 => ?_); (rw [n3 (.inr (of_decide_eq_true c6))]; ((repeat (first | refine Spl.t rfl ?_ | refine Spl.f rfl ?_)); refine .out (by simp) ?_; refine FinP.viewTup 2 rfl (fun _ _ _ h => nil_sl 6 h) ?_; exact FinP.open rfl rfl)); (have c6 := of_decide_eq_false c6; rw [n4 (fun h => by rcases h with h | h; (exact c5 (by omega)); (exact c6 h))]; (repeat (first | refine Spl.t rfl ?_ | refine Spl.f rfl ?_)); (first | refine Sq.go ?_ | refine vL_nil (Sq.go ?_) | skip); try refine WJ.cut ?_; refine OpJ.callV hct (fun _ _ => rfl) rfl rfl rfl ?_; (repeat (first | refine Spl.t rfl ?_ | refine Spl.f rfl ?_)); (first | refine Sq.go ?_ | refine vL_nil (Sq.go ?_) | skip); try refine WJ.cut ?_; refine Spl.of (fun c7 => ?_) (fun c7 => ?_); ((repeat (first | refine Spl.t rfl ?_ | refine Spl.f rfl ?_)); refine OpJ.callV hn (fun _ _ => rfl) rfl rfl rfl ?_; ((repeat (first | refine Spl.t rfl ?_ | refine Spl.f rfl ?_)); (first | refine Sq.go ?_ | refine vL_nil (Sq.go ?_) | skip); try refine WJ.cut ?_; refine OpJ.callV hr (fun _ _ => rfl) rfl rfl rfl ?_; (repeat (first | refine Spl.t rfl ?_ | refine Spl.f rfl ?_)); (first | refine Sq.go ?_ | refine vL_nil (Sq.go ?_) | skip); try refine WJ.cut ?_; refine Spl.of (fun h1 => ?_) (fun h1 => ?_); (have h1 : er ≠ 0 := (by simpa using h1); rw [e1 h1]; ((repeat (first | refine Spl.t rfl ?_ | refine Spl.f rfl ?_)); refine .out (by simp) ?_; refine FinP.viewTup 2 rfl (fun _ _ _ h => nil_sl 6 h) ?_; exact FinP.open rfl rfl)); (have h1 : er = 0 := (by simpa using h1); rw [e2 h1]; (repeat (first | refine Spl.t rfl ?_ | refine Spl.f rfl ?_)); (first | refine Sq.go ?_ | refine vL_nil (Sq.go ?_) | skip); try refine vc_sound _ _ _ _ ?_; refine RegP.mixS 7 [8, 9] rfl (by decide +kernel) ?_; exact FinP.open rfl rfl))); (have c7 := hn0 (of_decide_eq_false c7); subst c7; ((repeat (first | refine Spl.t rfl ?_ | refine Spl.f rfl ?_)); (first | refine Sq.go ?_ | refine vL_nil (Sq.go ?_) | skip); try refine WJ.cut ?_; refine OpJ.callV hr (fun _ _ => rfl) rfl rfl rfl ?_; (repeat (first | refine Spl.t rfl ?_ | refine Spl.f rfl ?_)); (first | refine Sq.go ?_ | refine vL_nil (Sq.go ?_) | skip); try refine WJ.cut ?_; refine Spl.of (fun h1 => ?_) (fun h1 => ?_); (have h1 : er ≠ 0 := (by simpa using h1); rw [e1 h1]; ((repeat (first | refine Spl.t rfl ?_ | refine Spl.f rfl ?_)); refine .out (by simp) ?_; refine FinP.viewTup 2 rfl (fun _ _ _ h => nil_sl 6 h) ?_; exact FinP.open rfl rfl)); (have h1 : er = 0 := (by simpa using h1); rw [e2 h1]; (repeat (first | refine Spl.t rfl ?_ | refine Spl.f rfl ?_)); (first | refine Sq.go ?_ | refine vL_nil (Sq.go ?_) | skip); try refine vc_sound _ _ _ _ ?_; refine RegP.mixS 7 [8, 9] rfl (by decide +kernel) ?_; exact FinP.open rfl rfl))))))
end Go.Proofs.E
end
section
open Go Go.Gv
attribute [local irreducible] Go.Gv.WJ Go.Gv.OpJ Go.Gv.QJ Go.Gv.Spl Go.Gv.Req Go.Gv.IdxP Go.Gv.RegP Go.Gv.FinP Go.Gv.CellP Go.Gv.CellsP Go.Gv.ArrP Go.Gv.ArrsP Go.Gv.DropP Go.Gv.ByteP Go.Gv.StoreP
set_option maxRecDepth 100000
namespace Go.Proofs.E
attribute [local irreducible] elems
theorem Dn_pre : ∀ {a b : List OP}, Dn (a ++ b) → Dn a := by
  intro a b h
  generalize hl : a ++ b = l at h
  induction h generalizing a b with
  | nil => rw [(List.append_eq_nil_iff.1 hl).1]; exact .nil
  | @snoc l o h hw ih =>
    rcases List.eq_nil_or_concat b with hb | ⟨c, x, hb⟩
    · subst hb
      rw [List.append_nil] at hl
      rw [hl]; exact .snoc h hw
    · rw [hb, List.concat_eq_append, ← List.append_assoc] at hl
      exact ih (List.append_inj' hl rfl).1
theorem Dn_take {l : List OP} (h : Dn l) (i : Nat) : Dn (l.take i) := Dn_pre (b := l.drop i) (by rw [List.take_append_drop]; exact h)
theorem sumV_take {l : List OP} (h : Dn l) {i : Nat} {x : OP} (hx : l[i]? = some x) : (x.k = 0 → sumV (l.take (i + 1)) = (sumV (l.take i)).add (TL.one x.i) ∧ (sumV (l.take i)).n + 1 ≤ 4096 ∧ mayI x.i = true) ∧ (x.k ≠ 0 → sumV (l.take (i + 1)) = sumV (l.take i)) := by
  have hsn := take_snoc hx
  refine ⟨fun hk => ?_, fun hk => by rw [hsn, sumV_snoc1 hk]⟩
  refine ⟨by rw [hsn, sumV_snoc0 hk], ?_, checkO_may (h.is.ok x (List.mem_of_getElem? hx))⟩
  have := (Dn_take h (i + 1)).is.len
  rw [hsn, insL_snoc0 hk] at this
  rw [sumV_n]; simp at this; omega
theorem Is8_c {s : SS} {l : List OP} (h : isS s l) (R : List OP) (hR : R.length ≤ 100000) : Cv 50 [vv s l R, rvv l R] (bv true) := by
  have hlist := RList8_c h.dn R
  have hwait := VWaiting_c s l R (by omega)
  have hlr := row_le h.dn
  have htx := VText_c h R
  have hrt := RText8_c h.dn R
  have hle := VLen_c h R
  have hrk := RRank_c (rowE l) ((rowE l).map elD).length (by omega)
  have hra : rankL (rowE l) (((rowE l).map elD).length : Nat) = liveL (rowE l) := by rw [List.length_map]; exact rank_all _
  rw [hra] at hrk
  have hsq := VSeq_c s l R
  have htl := VTally_c s l R
  have hst := StringT_c (sumV l) (sum_ok h.dn)
  have hrs := RText2_c (sumV l) (sum_ok h.dn)
  have hl2 := h.dn.len2
  have hall : l.take l.length = l := List.take_length
  refine Ct.of_wv Tryz.f50 Tryz.func50 rfl rfl fun w H B g0 => ?_
  try refine WJ.cut ?_
  (first | refine Sq.go ?_ | refine vL_nil (Sq.go ?_) | skip)
  try refine WJ.cut ?_
  refine OpJ.callV hlist (fun _ _ => rfl) rfl rfl rfl ?_
  (first | refine Sq.go ?_ | refine vL_nil (Sq.go ?_) | skip)
  try refine WJ.cut ?_
  refine OpJ.callV hwait (fun _ _ => rfl) rfl rfl rfl ?_
  (first | refine Sq.go ?_ | refine vL_nil (Sq.go ?_) | skip)
  try refine WJ.cut ?_
  (first | refine Sq.go ?_ | refine vL_nil (Sq.go ?_) | skip)
  try refine WJ.cut ?_
  refine WJ.loopK (V := Nat) (fun i => [(19, iv i)]) (fun i => [(7, .cells [iv (sumV (l.take i)).n, iv (sumV (l.take i)).a, iv (sumV (l.take i)).b, iv (sumV (l.take i)).c, iv (sumV (l.take i)).d])]) [7] (fun i => l.length - i) (fun i => i ≤ l.length) 0 (by omega) (by repeat' (first | exact trivial | exact rfl | refine And.intro ?_ ?_)) (by repeat' (first | exact trivial | exact rfl | refine And.intro ?_ ?_)) ?_
  intro i hi
  refine Spl.of (fun h1 => ?_) (fun h1 => ?_)
  · have hlt : i < l.length := by have := of_decide_eq_true h1; simp at this; omega
    have hx : l[i]? = some l[i] := by simp
    obtain ⟨t1, t2⟩ := sumV_take h.dn hx
    have hok := sum_ok (Dn_take h.dn i)
    generalize l[i] = x at hx t1 t2
    (repeat (first | refine Spl.t rfl ?_ | refine Spl.f rfl ?_))
    refine IdxP.of (opD x) (by omega) (by simp [hx]) ?_
    (repeat (first | refine Spl.t rfl ?_ | refine Spl.f rfl ?_))
    refine Spl.of (fun h2 => ?_) (fun h2 => ?_)
    · obtain ⟨t3, t4, t5⟩ := t1 (of_decide_eq_true h2)
      have hput := RPut2_c (sumV (l.take i)) x.i hok t5 t4
      rw [← t3] at hput
      (repeat (first | refine Spl.t rfl ?_ | refine Spl.f rfl ?_))
      refine OpJ.callV hput (fun _ _ => rfl) rfl rfl rfl ?_
      (repeat (first | refine Spl.t rfl ?_ | refine Spl.f rfl ?_))
      exact ⟨i + 1, by omega, by omega, ⟨some_iv (wrap_id _ (by omega) (by omega)), trivial⟩, (by repeat' (first | exact trivial | exact rfl | refine And.intro ?_ ?_)), (by repeat' (first | exact trivial | exact rfl | refine And.intro ?_ ?_)), (by repeat' (first | exact trivial | exact rfl | refine And.intro ?_ ?_))⟩
    · have t3 := t2 (of_decide_eq_false h2)
      (repeat (first | refine Spl.t rfl ?_ | refine Spl.f rfl ?_))
      exact ⟨i + 1, by omega, by omega, ⟨some_iv (wrap_id _ (by omega) (by omega)), trivial⟩, (by repeat' (first | exact trivial | exact rfl | refine And.intro ?_ ?_)), ⟨by rw [t3]; rfl, trivial⟩, (by repeat' (first | exact trivial | exact rfl | refine And.intro ?_ ?_))⟩
  have hi2 : i = l.length := by have := of_decide_eq_false h1; simp at this; omega
  subst hi2
  rw [hall]
  (repeat (first | refine Spl.t rfl ?_ | refine Spl.f rfl ?_))
  (first | refine Sq.go ?_ | refine vL_nil (Sq.go ?_) | skip)
  try refine WJ.cut ?_
  refine RegP.of rfl (by decide +kernel) ?_
  refine QuietP.of (QJ.call htx (fun _ _ => rfl) rfl rfl) ?_
  (repeat (first | refine Spl.t rfl ?_ | refine Spl.f rfl ?_))
  refine QuietP.of (QJ.call hrt (fun _ _ => rfl) rfl rfl) ?_
  (repeat (first | refine Spl.t rfl ?_ | refine Spl.f rfl ?_))
  refine Spl.f (by simp) ?_
  (repeat (first | refine Spl.t rfl ?_ | refine Spl.f rfl ?_))
  refine QuietP.of (QJ.call hle (fun _ _ => rfl) rfl rfl) ?_
  (repeat (first | refine Spl.t rfl ?_ | refine Spl.f rfl ?_))
  refine QuietP.of (QJ.call hrk (fun _ _ => rfl) rfl rfl) ?_
  (repeat (first | refine Spl.t rfl ?_ | refine Spl.f rfl ?_))
  refine Spl.f (by simp) ?_
  (repeat (first | refine Spl.t rfl ?_ | refine Spl.f rfl ?_))
  refine QuietP.of (QJ.call hsq (fun _ _ => rfl) rfl rfl) ?_
  (repeat (first | refine Spl.t rfl ?_ | refine Spl.f rfl ?_))
  refine Spl.f (by simp) ?_
  (repeat (first | refine Spl.t rfl ?_ | refine Spl.f rfl ?_))
  refine Spl.f (by simp) ?_
  (repeat (first | refine Spl.t rfl ?_ | refine Spl.f rfl ?_))
  refine QuietP.of (QJ.call htl (fun _ _ => rfl) rfl rfl) ?_
  (repeat (first | refine Spl.t rfl ?_ | refine Spl.f rfl ?_))
  refine QuietP.of (QJ.call hst (fun _ _ => rfl) rfl rfl) ?_
  (repeat (first | refine Spl.t rfl ?_ | refine Spl.f rfl ?_))
  refine QuietP.of (QJ.call hrs (fun _ _ => rfl) rfl rfl) ?_
  (repeat (first | refine Spl.t rfl ?_ | refine Spl.f rfl ?_))
  refine Spl.f (by simp) ?_
  (repeat (first | refine Spl.t rfl ?_ | refine Spl.f rfl ?_))
  (first | refine Sq.go ?_ | refine vL_nil (Sq.go ?_) | skip)
  try refine WJ.cut ?_
  clear hi h1
  refine WJ.loopK (V := Nat) (fun i => [(74, iv i)]) (fun _ => []) [] (fun i => R.length - i) (fun i => i ≤ R.length) 0 (by omega) (by repeat' (first | exact trivial | exact rfl | refine And.intro ?_ ?_)) (by repeat' (first | exact trivial | exact rfl | refine And.intro ?_ ?_)) ?_
  intro i hi
  refine Spl.of (fun h1 => ?_) (fun h1 => ?_)
  · have hlt : i < R.length := by have := of_decide_eq_true h1; simp at this; omega
    have hx : R[i]? = some R[i] := by simp
    generalize R[i] = x at hx
    (repeat (first | refine Spl.t rfl ?_ | refine Spl.f rfl ?_))
    refine RegP.of rfl (by decide +kernel) ?_
    refine IdxP.of (opD x) (by omega) (by simp [hx]) ?_
    refine QuietP.of (QJ.call (Of5_c x) (fun _ _ => rfl) rfl rfl) ?_
    refine IdxP.of (opD x) (by omega) (by simp [hx]) ?_
    refine QuietP.of (O.neT 4 rfl rfl rfl rfl rfl eqRO_ok eqRO_g (eqRO x x)) ?_
    refine Spl.f (by simp) ?_
    (repeat (first | refine Spl.t rfl ?_ | refine Spl.f rfl ?_))
    exact ⟨i + 1, by omega, by omega, ⟨some_iv (wrap_id _ (by omega) (by omega)), trivial⟩, (by repeat' (first | exact trivial | exact rfl | refine And.intro ?_ ?_)), (by repeat' (first | exact trivial | exact rfl | refine And.intro ?_ ?_)), (by repeat' (first | exact trivial | exact rfl | refine And.intro ?_ ?_))⟩
  · (repeat (first | refine Spl.t rfl ?_ | refine Spl.f rfl ?_))
    (first | refine Sq.go ?_ | refine vL_nil (Sq.go ?_) | skip)
    try refine vc_sound _ _ _ _ ?_
    exact FinP.open rfl rfl
theorem eqCH (a b : CH) : eqT Tryz.prog 4 175 [.int .i64 a.seq, .int .i64 a.at_, .int .i64 a.id.c, .int .i64 a.id.s, .int .i32 a.ch, .bool a.del] [.int .i64 b.seq, .int .i64 b.at_, .int .i64 b.id.c, .int .i64 b.id.s, .int .i32 b.ch, .bool b.del] = some (decide (a = b)) := by
  obtain ⟨q, u, ⟨c, s⟩, h, d⟩ := a
  obtain ⟨q', u', ⟨c', s'⟩, h', d'⟩ := b
  have e : eqT Tryz.prog 4 175 [.int .i64 q, .int .i64 u, .int .i64 c, .int .i64 s, .int .i32 h, .bool d] [.int .i64 q', .int .i64 u', .int .i64 c', .int .i64 s', .int .i32 h', .bool d'] = some (decide (q = q') && (decide (u = u') && ((decide (c = c') && (decide (s = s') && true)) && (decide (h = h') && (decide (d = d') && true))))) := by rfl
  rw [e]
  congr 1
  rw [Bool.eq_iff_iff]
  simp [and_assoc]
theorem eqCH_ok : eqOk Tryz.prog 4 175 = true := by kernel_rfl
theorem eqCH_g : Tryz.prog.eqGuardType Tryz.prog.depth 175 = false := by kernel_rfl
theorem Changes8_c (out : List CH) (hn : out.length ≤ 1000000) : Cv 49 [.d (chs out), .d (chs out)] (bv true) := by
  refine Ct.of_vc Tryz.f49 Tryz.func49 rfl rfl fun w H B g0 => ?_
  refine Spl.f (by simp) ?_
  (repeat (first | refine Spl.t rfl ?_ | refine Spl.f rfl ?_))
  refine WJ.loopK (V := Nat) (fun i => [(14, iv i)]) (fun _ => []) [] (fun i => out.length - i) (fun i => i ≤ out.length) 0 (by omega) (by repeat' (first | exact trivial | exact rfl | refine And.intro ?_ ?_)) (by repeat' (first | exact trivial | exact rfl | refine And.intro ?_ ?_)) ?_
  intro i hi
  refine Spl.of (fun h1 => ?_) (fun h1 => ?_)
  · have hlt : i < out.length := by have := of_decide_eq_true h1; simp at this; omega
    have hx : out[i]? = some out[i] := by simp
    generalize out[i] = x at hx
    (repeat (first | refine Spl.t rfl ?_ | refine Spl.f rfl ?_))
    refine IdxP.of (chD x) (by omega) (by simp [hx]) ?_
    (repeat (first | refine Spl.t rfl ?_ | refine Spl.f rfl ?_))
    refine RegP.of rfl (by decide +kernel) ?_
    refine QuietP.of (QJ.call (Of_c x.id) (fun _ _ => rfl) rfl rfl) ?_
    refine IdxP.of (chD x) (by omega) (by simp [hx]) ?_
    refine QuietP.of (O.neT 4 rfl rfl rfl rfl rfl eqCH_ok eqCH_g (eqCH x x)) ?_
    refine Spl.f (by simp) ?_
    (repeat (first | refine Spl.t rfl ?_ | refine Spl.f rfl ?_))
    exact ⟨i + 1, by omega, by omega, ⟨some_iv (wrap_id _ (by omega) (by omega)), trivial⟩, (by repeat' (first | exact trivial | exact rfl | refine And.intro ?_ ?_)), (by repeat' (first | exact trivial | exact rfl | refine And.intro ?_ ?_)), (by repeat' (first | exact trivial | exact rfl | refine And.intro ?_ ?_))⟩
  · (repeat (first | refine Spl.t rfl ?_ | refine Spl.f rfl ?_))
    exact FinP.open rfl rfl
end Go.Proofs.E
end
section
open Go Go.Gv
attribute [local irreducible] Go.Gv.WJ Go.Gv.OpJ Go.Gv.QJ Go.Gv.Spl Go.Gv.Req Go.Gv.IdxP Go.Gv.RegP Go.Gv.FinP Go.Gv.CellP Go.Gv.CellsP Go.Gv.ArrP Go.Gv.ArrsP Go.Gv.DropP Go.Gv.ByteP Go.Gv.StoreP
set_option maxRecDepth 100000
namespace Go.Proofs.E
attribute [local irreducible] elems
/-- What a version keeps to. -/
structure okV (v : VS) : Prop where
  is : isS v.s v.l
  ck : ∀ o, o ∈ v.R → checkO o = 0
  len : v.R.length ≤ 16
theorem okV.same {v : VS} (h : okV v) : okV v.same := ⟨h.is, h.ck, h.len⟩
theorem okV.take {v : VS} (h : okV v) (o : OP) : okV (v.take o) := ⟨appS_is h.is o, h.ck, h.len⟩
theorem next_mem {l R : List OP} : ∀ x, x ∈ nextR l R → x ∈ R := fun x hx => by
  unfold nextR at hx
  split at hx
  · exact hx
  · rcases List.mem_append.1 hx with h | h
    · exact List.mem_of_mem_take h
    · exact List.mem_of_mem_drop h
theorem nextR_le (l R : List OP) : (nextR l R).length ≤ R.length := by
  unfold nextR; split
  · exact Nat.le_refl _
  · simp; omega
theorem okV.next {v : VS} (h : okV v) : okV v.next := okV.take (v := ⟨v.s, v.l, nextR v.l v.R, v.out⟩) ⟨h.is, fun o ho => h.ck o (next_mem o ho), Nat.le_trans (nextR_le _ _) h.len⟩ _
theorem okV.drn : ∀ (n : Nat) {v : VS}, okV v → okV (drn n v)
  | 0, _, h => h
  | n + 1, v, h => by
    rw [E.drn]
    split
    · exact h
    · exact okV.drn n h.next
theorem drn_out : ∀ (n : Nat) (v : VS), (drn n v).out.length ≤ v.out.length + n
  | 0, _ => Nat.le_refl _
  | n + 1, v => by
    rw [drn]
    split
    · omega
    · have h1 := drn_out n v.next
      have h2 := out_len v.out v.l (nextO v.l v.R)
      have h3 : v.next.out = outV v.out v.l (nextO v.l v.R) := rfl
      rw [h3] at h1; omega
theorem addE_0 {R : List OP} {o : OP} (h : addE R o = 0) : checkO o = 0 ∧ R.length < 16 := by
  unfold addE at h
  split at h
  · next h1 => exact absurd h h1
  · next h1 =>
    split at h
    · cases h
    · split at h
      · cases h
      · split at h
        · cases h
        · exact ⟨by simpa using h1, by omega⟩
theorem okV.rem {v : VS} (h : okV v) (o : OP) : okV (remV v o) := by
  unfold remV
  split
  · exact okV.drn _ (okV.take h.same o)
  · split
    · refine ⟨h.is, fun x hx => ?_, ?_⟩
      · simp only at hx
        unfold addR at hx
        split at hx
        · next h0 =>
          rcases List.mem_append.1 hx with hx | hx
          · exact h.ck x hx
          · rw [List.mem_singleton.1 hx]; exact (addE_0 h0).1
        · exact h.ck x hx
      · simp only
        unfold addR
        split
        · next h0 => have := (addE_0 h0).2; simp; omega
        · exact h.len
    · exact h.same
theorem rem_out {v : VS} (h : okV v) (o : OP) : (remV v o).out.length ≤ 17 := by
  have hl := h.len
  unfold remV
  split
  · have h1 := drn_out v.R.length (VS.take ⟨v.s, v.l, v.R, []⟩ o)
    have h2 := out_len [] v.l o
    have h3 : (VS.take ⟨v.s, v.l, v.R, []⟩ o).out = outV [] v.l o := rfl
    rw [h3] at h1
    simp at h2; omega
  · split <;> simp
theorem okV.doT {v : VS} (h : okV v) (o : OP) : okV (doT v o).1 ∧ (doT v o).1.out.length ≤ 17 := by
  unfold E.doT
  split
  · exact ⟨h.same, by simp [VS.same]⟩
  · exact ⟨h.rem o, rem_out h o⟩
theorem okV.ins {v : VS} (h : okV v) (site at_ ch : Int) : okV (insVT v site at_ ch).1 ∧ (insVT v site at_ ch).1.out.length ≤ 17 := by
  have h0 : okV v.same ∧ v.same.out.length ≤ 17 := ⟨h.same, by simp [VS.same]⟩
  unfold insVT
  split
  · exact h0
  · split
    · exact h0
    · split
      · exact h0
      · exact h.doT _
theorem okV.del {v : VS} (h : okV v) (at_ : Int) : okV (delVT v at_).1 ∧ (delVT v at_).1.out.length ≤ 17 := by
  unfold delVT
  split
  · exact h.doT _
  · exact ⟨h.same, by simp [VS.same]⟩
structure ACT where
  k : Int
  o : OP
  site : Int
  at_ : Int
  ch : Int
abbrev actD (x : ACT) : List D := [.v (.int .u8 x.k), .v (.int .i64 x.o.k), .v (.int .i64 x.o.i.c), .v (.int .i64 x.o.i.s), .v (.int .i64 x.o.a.c), .v (.int .i64 x.o.a.s), .v (.int .i32 x.o.ch), .v (.int .i64 x.site), .v (.int .i64 x.at_), .v (.int .i32 x.ch)]
abbrev actv (x : ACT) : AV := .agg [.d (.v (.int .u8 x.k)), iv x.o.k, iv x.o.i.c, iv x.o.i.s, iv x.o.a.c, iv x.o.a.s, cv' x.o.ch, iv x.site, iv x.at_, cv' x.ch]
def doV (v : VS) (x : ACT) : VS := if x.k = 0 then remV v x.o else if x.k = 1 then (insVT v x.site x.at_ x.ch).1 else if x.k = 2 then (delVT v x.at_).1 else v
theorem okV.act {v : VS} (h : okV v) (x : ACT) : okV (doV v x) := by
  unfold doV
  split
  · exact h.rem _
  · split
    · exact (h.ins _ _ _).1
    · split
      · exact (h.del _).1
      · exact h
set_option maxHeartbeats 4000000 in
theorem Do8_c {s : SS} {l R : List OP} (h : okV ⟨s, l, R, []⟩) (x : ACT) (hat : x.at_ ≤ 9223372036854775807) :
    Cv 17 [vv s l R, rvv l R, actv x] (.tup [vv (doV ⟨s, l, R, []⟩ x).s (doV ⟨s, l, R, []⟩ x).l (doV ⟨s, l, R, []⟩ x).R, rvv (doV ⟨s, l, R, []⟩ x).l (doV ⟨s, l, R, []⟩ x).R, bv true]) := by
  have hR := h.len
  simp only at hR
  have his := h.is
  simp only at his
  refine Ct.of_wv Tryz.f17 Tryz.func17 rfl rfl fun w H B g0 => ?_
  try refine WJ.cut ?_
  (first | refine Sq.go ?_ | refine vL_nil (Sq.go ?_) | skip)
  try refine WJ.cut ?_
  (first | refine Sq.go ?_ | refine vL_nil (Sq.go ?_) | skip)
  try refine WJ.cut ?_
  (first | refine Sq.go ?_ | refine vL_nil (Sq.go ?_) | skip)
  try refine WJ.cut ?_
  (first | refine Sq.go ?_ | refine vL_nil (Sq.go ?_) | skip)
  try refine WJ.cut ?_
  (first | refine Sq.go ?_ | refine vL_nil (Sq.go ?_) | skip)
  try refine WJ.cut ?_
  (first | refine Sq.go ?_ | refine vL_nil (Sq.go ?_) | skip)
  try refine WJ.cut ?_
  (first | refine Sq.go ?_ | refine vL_nil (Sq.go ?_) | skip)
  try refine WJ.cut ?_
  (first | refine Sq.go ?_ | refine vL_nil (Sq.go ?_) | skip)
  try refine WJ.cut ?_
  by_cases c0 : x.k = 0
  · have eD : doV ⟨s, l, R, []⟩ x = remV ⟨s, l, R, []⟩ x.o := if_pos c0
    have hp := Remote_c his R [] x.o (by omega)
    have hr := RRemote_c his R [] x.o (by omega)
    have hv := h.rem x.o
    have ho := rem_out h x.o
    rw [eD]
    generalize remE ⟨s, l, R, []⟩ x.o = e at hp hr
    generalize remV ⟨s, l, R, []⟩ x.o = v at hp hr hv ho ⊢
    have hch := Changes8_c v.out (by omega)
    have his8 := Is8_c hv.is v.R (by have := hv.len; omega)
    refine Spl.t (decide_eq_true c0) ?_
    (repeat (first | refine Spl.t rfl ?_ | refine Spl.f rfl ?_))
    refine OpJ.callV hp (fun _ _ => rfl) rfl rfl rfl ?_
    (repeat (first | refine Spl.t rfl ?_ | refine Spl.f rfl ?_))
    refine RegP.mixS 12 [10] rfl (by decide +kernel) ?_
    refine QuietP.of (QJ.call (Of5_c x.o) (fun _ _ => rfl) rfl rfl) ?_
    refine QuietP.of (QJ.call hr (fun _ _ => rfl) rfl rfl) ?_
    (repeat (first | refine Spl.t rfl ?_ | refine Spl.f rfl ?_))
    (first | refine Sq.go ?_ | refine vL_nil (Sq.go ?_) | skip)
    try refine vc_sound _ _ _ _ ?_
    refine RegP.mixS 24 [6, 7] rfl (by decide +kernel) ?_
    refine Spl.t (by simp) ?_
    (repeat (first | refine Spl.t rfl ?_ | refine Spl.f rfl ?_))
    refine QuietP.of (QJ.call (Of5_c OP0) (fun _ _ => rfl) rfl rfl) ?_
    (repeat (first | refine Spl.t rfl ?_ | refine Spl.f rfl ?_))
    refine QuietP.of (O.eqT 4 rfl rfl rfl rfl rfl eqRO_ok eqRO_g (eqRO OP0 OP0)) ?_
    refine Spl.t (by simp) ?_
    (repeat (first | refine Spl.t rfl ?_ | refine Spl.f rfl ?_))
    refine QuietP.of (QJ.call hch (fun _ _ => rfl) rfl rfl) ?_
    (repeat (first | refine Spl.t rfl ?_ | refine Spl.f rfl ?_))
    refine QuietP.of (QJ.call his8 (fun _ _ => rfl) rfl rfl) ?_
    exact FinP.open rfl rfl
  · refine Spl.f (decide_eq_false c0) ?_
    (repeat (first | refine Spl.t rfl ?_ | refine Spl.f rfl ?_))
    by_cases c1 : x.k = 1
    · have eD : doV ⟨s, l, R, []⟩ x = (insVT ⟨s, l, R, []⟩ x.site x.at_ x.ch).1 := (if_neg c0).trans (if_pos c1)
      have hp := VInsert_c his R (by omega) h.ck x.site x.at_ x.ch
      have hr := RInsert_c his R (by omega) h.ck x.site x.at_ x.ch
      obtain ⟨hv, ho⟩ := h.ins x.site x.at_ x.ch
      rw [eD]
      generalize insVT ⟨s, l, R, []⟩ x.site x.at_ x.ch = p at hp hr hv ho ⊢
      obtain ⟨v, o, e⟩ := p
      unfold resT at hp
      unfold resR at hr
      simp only at hp hr hv ho ⊢
      have hch := Changes8_c v.out (by omega)
      have his8 := Is8_c hv.is v.R (by have := hv.len; omega)
      refine Spl.t (decide_eq_true c1) ?_
      (repeat (first | refine Spl.t rfl ?_ | refine Spl.f rfl ?_))
      refine OpJ.callV hp (fun _ _ => rfl) rfl rfl rfl ?_
      (repeat (first | refine Spl.t rfl ?_ | refine Spl.f rfl ?_))
      refine OpJ.callV hr (fun _ _ => rfl) rfl rfl rfl ?_
      (repeat (first | refine Spl.t rfl ?_ | refine Spl.f rfl ?_))
      (first | refine Sq.go ?_ | refine vL_nil (Sq.go ?_) | skip)
      try refine vc_sound _ _ _ _ ?_
      refine RegP.mixS 24 [6, 7] rfl (by decide +kernel) ?_
      refine Spl.t (by simp) ?_
      (repeat (first | refine Spl.t rfl ?_ | refine Spl.f rfl ?_))
      refine QuietP.of (QJ.call (Of5_c o) (fun _ _ => rfl) rfl rfl) ?_
      (repeat (first | refine Spl.t rfl ?_ | refine Spl.f rfl ?_))
      refine QuietP.of (O.eqT 4 rfl rfl rfl rfl rfl eqRO_ok eqRO_g (eqRO o o)) ?_
      refine Spl.t (by simp) ?_
      (repeat (first | refine Spl.t rfl ?_ | refine Spl.f rfl ?_))
      refine QuietP.of (QJ.call hch (fun _ _ => rfl) rfl rfl) ?_
      (repeat (first | refine Spl.t rfl ?_ | refine Spl.f rfl ?_))
      refine QuietP.of (QJ.call his8 (fun _ _ => rfl) rfl rfl) ?_
      exact FinP.open rfl rfl
    · refine Spl.f (decide_eq_false c1) ?_
      (repeat (first | refine Spl.t rfl ?_ | refine Spl.f rfl ?_))
      by_cases c2 : x.k = 2
      · have eD : doV ⟨s, l, R, []⟩ x = (delVT ⟨s, l, R, []⟩ x.at_).1 := (if_neg c0).trans ((if_neg c1).trans (if_pos c2))
        have hp := VDelete_c his R (by omega) x.at_
        have hr := RDelete_c his R (by omega) x.at_ hat
        obtain ⟨hv, ho⟩ := h.del x.at_
        rw [eD]
        generalize delVT ⟨s, l, R, []⟩ x.at_ = p at hp hr hv ho ⊢
        obtain ⟨v, o, e⟩ := p
        unfold resT at hp
        unfold resR at hr
        simp only at hp hr hv ho ⊢
        have hch := Changes8_c v.out (by omega)
        have his8 := Is8_c hv.is v.R (by have := hv.len; omega)
        refine Spl.t (decide_eq_true c2) ?_
        (repeat (first | refine Spl.t rfl ?_ | refine Spl.f rfl ?_))
        refine OpJ.callV hp (fun _ _ => rfl) rfl rfl rfl ?_
        (repeat (first | refine Spl.t rfl ?_ | refine Spl.f rfl ?_))
        refine OpJ.callV hr (fun _ _ => rfl) rfl rfl rfl ?_
        (repeat (first | refine Spl.t rfl ?_ | refine Spl.f rfl ?_))
        (first | refine Sq.go ?_ | refine vL_nil (Sq.go ?_) | skip)
        try refine vc_sound _ _ _ _ ?_
        refine RegP.mixS 24 [6, 7] rfl (by decide +kernel) ?_
        refine Spl.t (by simp) ?_
        (repeat (first | refine Spl.t rfl ?_ | refine Spl.f rfl ?_))
        refine QuietP.of (QJ.call (Of5_c o) (fun _ _ => rfl) rfl rfl) ?_
        (repeat (first | refine Spl.t rfl ?_ | refine Spl.f rfl ?_))
        refine QuietP.of (O.eqT 4 rfl rfl rfl rfl rfl eqRO_ok eqRO_g (eqRO o o)) ?_
        refine Spl.t (by simp) ?_
        (repeat (first | refine Spl.t rfl ?_ | refine Spl.f rfl ?_))
        refine QuietP.of (QJ.call hch (fun _ _ => rfl) rfl rfl) ?_
        (repeat (first | refine Spl.t rfl ?_ | refine Spl.f rfl ?_))
        refine QuietP.of (QJ.call his8 (fun _ _ => rfl) rfl rfl) ?_
        exact FinP.open rfl rfl
      · have eD : doV ⟨s, l, R, []⟩ x = ⟨s, l, R, []⟩ := (if_neg c0).trans ((if_neg c1).trans (if_neg c2))
        rw [eD]
        refine Spl.f (decide_eq_false c2) ?_
        (repeat (first | refine Spl.t rfl ?_ | refine Spl.f rfl ?_))
        refine RegP.mixS 5 [6, 7] rfl (by decide +kernel) ?_
        refine .out (by simp) ?_
        exact FinP.open rfl rfl
end Go.Proofs.E
end
section
open Go Go.Gv
attribute [local irreducible] Go.Gv.WJ Go.Gv.OpJ Go.Gv.QJ Go.Gv.Spl Go.Gv.Req Go.Gv.IdxP Go.Gv.RegP Go.Gv.FinP Go.Gv.CellP Go.Gv.CellsP Go.Gv.ArrP Go.Gv.ArrsP Go.Gv.DropP Go.Gv.ByteP Go.Gv.StoreP
set_option maxRecDepth 100000
namespace Go.Proofs.E
attribute [local irreducible] elems
theorem nilRoom {γ : Ids} {H : HF} {u : Value} (r : Rep γ H (.agg [.d (.v (.slice none 0 0))]) u) : Rep γ H (rmv []) u := rep_agg_set (j := 0) r rfl fun _ h => nil_sl 6 h
theorem AddN_c (o : OP) : Cv 59 [.agg [.d (.v (.slice none 0 0))], opv o] (.tup [rmv (addR [] o), iv (addE [] o)]) := by
  refine Ct.view (Add_c [] o (by decide)) rfl fun j a b ha hb γ H u r => ?_
  match j, ha, hb with
  | 0, ha, hb => cases ha; cases hb; exact nilRoom r
  | 1, ha, hb => cases ha; cases hb; exact r
def aw7 : OP := ⟨0, ⟨2, 1⟩, ⟨1, 1⟩, 98⟩
theorem Awake7_c : Cv 55 [] (bv true) := by
  have hadd := AddN_c aw7
  rw [show addR [] aw7 = [aw7] by decide +kernel, show addE [] aw7 = 0 by decide +kernel] at hadd
  have hnx := Next_c isS_nil [aw7] (by decide)
  rw [show nextR [] [aw7] = [aw7] by decide +kernel, show nextO [] [aw7] = OP0 by decide +kernel, show decide (0 ≤ nextIx [] [aw7]) = false by decide +kernel] at hnx
  have hln := RLen_c [aw7]
  have htp := Top_c [aw7] (by decide)
  rw [show topR [aw7] = 2 by decide +kernel] at htp
  refine Ct.of_wv Tryz.f55 Tryz.func55 rfl rfl fun w H B g0 => ?_
  try refine WJ.cut ?_
  (first | refine Sq.go ?_ | refine vL_nil (Sq.go ?_) | skip)
  try refine WJ.cut ?_
  refine OpJ.callV hadd (fun _ _ => rfl) rfl rfl rfl ?_
  (first | refine Sq.go ?_ | refine vL_nil (Sq.go ?_) | skip)
  try refine WJ.cut ?_
  refine OpJ.callV hnx (fun _ _ => rfl) rfl rfl rfl ?_
  (first | refine Sq.go ?_ | refine vL_nil (Sq.go ?_) | skip)
  try refine WJ.cut ?_
  refine OpJ.callV Awake6_c (fun _ _ => rfl) rfl rfl rfl ?_
  (repeat (first | refine Spl.t rfl ?_ | refine Spl.f rfl ?_))
  refine OpJ.callV hln (fun _ _ => rfl) rfl rfl rfl ?_
  (repeat (first | refine Spl.t rfl ?_ | refine Spl.f rfl ?_))
  refine OpJ.callV htp (fun _ _ => rfl) rfl rfl rfl ?_
  (repeat (first | refine Spl.t rfl ?_ | refine Spl.f rfl ?_))
  (first | refine Sq.go ?_ | refine vL_nil (Sq.go ?_) | skip)
  try refine vc_sound _ _ _ _ ?_
  exact FinP.open rfl rfl
end Go.Proofs.E
end
section
open Go Go.Gv
attribute [local irreducible] Go.Gv.WJ Go.Gv.OpJ Go.Gv.QJ Go.Gv.Spl Go.Gv.Req Go.Gv.IdxP Go.Gv.RegP Go.Gv.FinP Go.Gv.CellP Go.Gv.CellsP Go.Gv.ArrP Go.Gv.ArrsP Go.Gv.DropP Go.Gv.ByteP Go.Gv.StoreP
set_option maxRecDepth 100000
namespace Go.Proofs.E
attribute [local irreducible] elems
theorem nilV {γ : Ids} {H : HF} {u : Value} {t p : D} {n m k : Int} {z1 z2 : AV} (r : Rep γ H (.agg [.d t, .d p, iv n, .d (.v (.slice none 0 0)), iv m, iv k, z1, z2]) u) : Rep γ H (.agg [.d t, .d p, iv n, .d (.sl 6 []), iv m, iv k, z1, z2]) u := rep_agg_set (j := 3) r rfl fun _ h => nil_sl 6 h
/-- The zero version, as it lies. -/
abbrev vvN : AV := .agg [.d TR.nil.d, .d PT.nil.d, iv 0, .d (.v (.slice none 0 0)), iv 0, iv 0, cx 0 0, cx 0 0]
def vA0 : VS := ⟨⟨.nil, .nil, 0⟩, [], [], []⟩
theorem okA0 : okV vA0 := ⟨isS_nil, fun _ h => by simp [vA0] at h, by simp [vA0]⟩
def pA1 : VS × OP × Int := insVT vA0 1 0 97
def vA1 : VS := ⟨pA1.1.s, pA1.1.l, pA1.1.R, []⟩
def pA2 : VS × OP × Int := insVT vA1 1 1 98
def vA2 : VS := ⟨pA2.1.s, pA2.1.l, pA2.1.R, []⟩
def pA3 : VS × OP × Int := delVT vA2 0
theorem okV.out {v : VS} (h : okV v) : okV ⟨v.s, v.l, v.R, []⟩ := ⟨h.is, h.ck, h.len⟩
theorem okA1 : okV vA1 := (okA0.ins 1 0 97).1.out
theorem okA2 : okV vA2 := (okA1.ins 1 1 98).1.out
theorem okA3 : okV pA3.1 := (okA2.del 0).1
theorem InsN_c (site at_ ch : Int) : Cv 12 [vvN, iv site, iv at_, cv' ch] (resT (insVT vA0 site at_ ch)) := by
  refine Ct.view (VInsert_c (s := vA0.s) (l := vA0.l) okA0.is vA0.R (by decide) okA0.ck site at_ ch) rfl fun j a b ha hb γ H u r => ?_
  match j, ha, hb with
  | 0, ha, hb => cases ha; cases hb; exact nilV r
  | 1, ha, hb => cases ha; cases hb; exact r
  | 2, ha, hb => cases ha; cases hb; exact r
  | 3, ha, hb => cases ha; cases hb; exact r
theorem aw_l : byt (txtZ (rowE pA3.1.l)) = [98] := by decide +kernel
theorem aw_n : pA3.1.l.length = 3 := by decide +kernel
theorem aw_e : pA3.2.2 = 0 := by decide +kernel
theorem aw_out : pA3.1.out = [⟨3, 0, ⟨1, 1⟩, 97, true⟩] := by decide +kernel
theorem Awake8_c : Cv 10 [] (bv true) := by
  have h1 := InsN_c 1 0 97
  have h2 := VInsert_c okA1.is vA1.R (by have := okA1.len; omega) okA1.ck 1 1 98
  have h3 := VDelete_c okA2.is vA2.R (by have := okA2.len; omega) 0
  have tx := VText_c okA3.is pA3.1.R
  have sq := VSeq_c pA3.1.s pA3.1.l pA3.1.R
  rw [aw_l] at tx
  rw [aw_n] at sq
  have e1 : insVT vA0 1 0 97 = pA1 := rfl
  have e2 : insVT ⟨vA1.s, vA1.l, vA1.R, []⟩ 1 1 98 = pA2 := rfl
  have e3 : delVT ⟨vA2.s, vA2.l, vA2.R, []⟩ 0 = pA3 := rfl
  rw [e1] at h1
  rw [e2] at h2
  rw [e3] at h3
  have d1 : vA1 = ⟨pA1.1.s, pA1.1.l, pA1.1.R, []⟩ := rfl
  have d2 : vA2 = ⟨pA2.1.s, pA2.1.l, pA2.1.R, []⟩ := rfl
  rw [d1] at h2
  rw [d2] at h3
  have ho := aw_out
  have he := aw_e
  generalize pA3 = p3 at h3 tx sq ho he
  generalize pA2 = p2 at h2 h3
  generalize pA1 = p1 at h1 h2
  obtain ⟨v3, o3, e3'⟩ := p3
  obtain ⟨v2, o2, e2'⟩ := p2
  obtain ⟨v1, o1, e1'⟩ := p1
  unfold resT at h1 h2 h3
  simp only at h1 h2 h3 tx sq ho he
  rw [ho, he] at h3
  refine Ct.of_wv Tryz.f10 Tryz.func10 rfl rfl fun w H B g0 => ?_
  try refine WJ.cut ?_
  (first | refine Sq.go ?_ | refine vL_nil (Sq.go ?_) | skip)
  try refine WJ.cut ?_
  refine OpJ.callV h1 (fun _ _ => rfl) rfl rfl rfl ?_
  (repeat (first | refine Spl.t rfl ?_ | refine Spl.f rfl ?_))
  (first | refine Sq.go ?_ | refine vL_nil (Sq.go ?_) | skip)
  try refine WJ.cut ?_
  refine OpJ.callV h2 (fun _ _ => rfl) rfl rfl rfl ?_
  (repeat (first | refine Spl.t rfl ?_ | refine Spl.f rfl ?_))
  (first | refine Sq.go ?_ | refine vL_nil (Sq.go ?_) | skip)
  try refine WJ.cut ?_
  refine OpJ.callV h3 (fun _ _ => rfl) rfl rfl rfl ?_
  (repeat (first | refine Spl.t rfl ?_ | refine Spl.f rfl ?_))
  (first | refine Sq.go ?_ | refine vL_nil (Sq.go ?_) | skip)
  try refine vc_sound _ _ _ _ ?_
  refine OpJ.callV Awake2_c (fun _ _ => rfl) rfl rfl rfl ?_
  (repeat (first | refine Spl.t rfl ?_ | refine Spl.f rfl ?_))
  refine OpJ.callV Awake7_c (fun _ _ => rfl) rfl rfl rfl ?_
  (repeat (first | refine Spl.t rfl ?_ | refine Spl.f rfl ?_))
  refine OpJ.callV tx (fun _ _ => rfl) rfl rfl rfl ?_
  (repeat (first | refine Spl.t rfl ?_ | refine Spl.f rfl ?_))
  (try refine Spl.t (by decide) ?_)
  (repeat (first | refine Spl.t rfl ?_ | refine Spl.f rfl ?_))
  refine OpJ.callV sq (fun _ _ => rfl) rfl rfl rfl ?_
  (repeat (first | refine Spl.t rfl ?_ | refine Spl.f rfl ?_))
  (try refine Spl.t (by decide) ?_)
  (repeat (first | refine Spl.t rfl ?_ | refine Spl.f rfl ?_))
  refine IdxP.of (chD ⟨3, 0, ⟨1, 1⟩, 97, true⟩) (by decide) rfl ?_
  (repeat (first | refine Spl.t rfl ?_ | refine Spl.f rfl ?_))
  refine IdxP.of (chD ⟨3, 0, ⟨1, 1⟩, 97, true⟩) (by decide) rfl ?_
  (repeat (first | refine Spl.t rfl ?_ | refine Spl.f rfl ?_))
  exact FinP.open rfl rfl
end Go.Proofs.E
end
section
open Go Go.Gv
attribute [local irreducible] Go.Gv.WJ Go.Gv.OpJ Go.Gv.QJ Go.Gv.Spl Go.Gv.Req Go.Gv.IdxP Go.Gv.RegP Go.Gv.FinP Go.Gv.CellP Go.Gv.CellsP Go.Gv.ArrP Go.Gv.ArrsP Go.Gv.DropP Go.Gv.ByteP Go.Gv.StoreP
set_option maxRecDepth 100000
namespace Go.Proofs.E
attribute [local irreducible] elems
def okAct (x : ACT) : Prop := (-9223372036854775808 ≤ x.at_ ∧ x.at_ ≤ 9223372036854775807) ∧ (-2147483648 ≤ x.ch ∧ x.ch ≤ 2147483647)
theorem okV.doOut {v : VS} (h : okV v) (x : ACT) : okV ⟨(doV v x).s, (doV v x).l, (doV v x).R, []⟩ := (h.act x).out
set_option maxHeartbeats 1000000 in
theorem VersionPlays_c (acts : List ACT) (hacts : ∀ x, x ∈ acts → okAct x) (a : ID) (at_ : Int) (hat0 : -9223372036854775808 ≤ at_) (hat : at_ ≤ 9223372036854775807) : Cv 4 [.d (.sl 10 (acts.map actD)), idv a, iv at_] (bv true) := by
  refine Ct.of_wv Tryz.f4 Tryz.func4 rfl rfl fun w H B g0 => ?_
  try refine WJ.cut ?_
  (first | refine Sq.go ?_ | refine vL_nil (Sq.go ?_) | skip)
  try refine WJ.cut ?_
  refine Spl.of (fun g1 => ?_) (fun g1 => ?_)
  · (repeat (first | refine Spl.t rfl ?_ | refine Spl.f rfl ?_))
    refine OpJ.callV Awake8_c (fun _ _ => rfl) rfl rfl rfl ?_
    (repeat (first | refine Spl.t rfl ?_ | refine Spl.f rfl ?_))
    refine .out (by simp) ?_
    exact FinP.open rfl rfl
  have hw : acts.length ≤ 40 := by have := of_decide_eq_false g1; simp at this; omega
  (repeat (first | refine Spl.t rfl ?_ | refine Spl.f rfl ?_))
  (first | refine Sq.go ?_ | refine vL_nil (Sq.go ?_) | skip)
  try refine WJ.cut ?_
  (first | refine Sq.go ?_ | refine vL_nil (Sq.go ?_) | skip)
  refine WJ.shift (SJ.viewCell 7 3 rfl rfl fun _ _ _ h => nil_sl 6 h) ?_
  try refine WJ.cut ?_
  (first | refine Sq.go ?_ | refine vL_nil (Sq.go ?_) | skip)
  refine WJ.shift (SJ.viewCell 8 0 rfl rfl fun _ _ _ h => nil_sl 6 h) ?_
  refine WJ.shift (SJ.viewCell 8 1 rfl rfl fun _ _ _ h => nil_sl 6 h) ?_
  try refine WJ.cut ?_
  refine WJ.loopK (V := Nat × VS) (fun v => [(25, iv v.1)]) (fun v => [(7, .cells (vcs v.2.s v.2.l v.2.R)), (8, .cells [.d (.sl 6 (v.2.l.map opD)), .d (.sl 6 (v.2.R.map opD))])]) [7, 8] (fun v => acts.length - v.1) (fun v => v.1 ≤ acts.length ∧ okV ⟨v.2.s, v.2.l, v.2.R, []⟩) (0, vA0) ⟨by simp, okA0⟩ (by repeat' (first | exact trivial | exact rfl | refine And.intro ?_ ?_)) (by repeat' (first | exact trivial | exact rfl | refine And.intro ?_ ?_)) ?_
  rintro ⟨i, ⟨s, l, R, out⟩⟩ ⟨hi, hv⟩
  simp only at hi hv
  refine Spl.of (fun h1 => ?_) (fun h1 => ?_)
  · have hlt : i < acts.length := by have := of_decide_eq_true h1; simp at this; omega
    have hx : acts[i]? = some acts[i] := by simp
    have hax := hacts _ (List.getElem_mem hlt)
    generalize acts[i] = x at hx hax
    have hdo := Do8_c hv x hax.1.2
    have hok := hv.doOut x
    generalize doV ⟨s, l, R, []⟩ x = v at hdo hok
    (repeat (first | refine Spl.t rfl ?_ | refine Spl.f rfl ?_))
    refine IdxP.of (actD x) (by omega) (by simp [hx]) ?_
    (repeat (first | refine Spl.t rfl ?_ | refine Spl.f rfl ?_))
    refine OpJ.callV hdo (fun _ _ => rfl) rfl rfl rfl ?_
    (repeat (first | refine Spl.t rfl ?_ | refine Spl.f rfl ?_))
    exact ⟨(i + 1, v), ⟨by simp only; omega, hok⟩, by simp only; omega, ⟨some_iv (wrap_id _ (by omega) (by omega)), trivial⟩, (by repeat' (first | exact trivial | exact rfl | refine And.intro ?_ ?_)), (by repeat' (first | exact trivial | exact rfl | refine And.intro ?_ ?_)), (by repeat' (first | exact trivial | exact rfl | refine And.intro ?_ ?_))⟩
  have his := hv.is
  simp only at his
  have hlr := row_le his.dn
  have hbe := VBefore_c his R a
  have hli := RList8_c his.dn R
  have hpl := RPlace_c (rowE l) a (by omega)
  have hna := VNamed_c his R at_
  have hrn := RNamed_c his.dn R at_ hat
  have hrk := RRank_c (rowE l) (placeL a (rowE l)) (by omega)
  have hbf : beforeL (rowE l) a = if (rankL (rowE l) (placeL a (rowE l)) : Int) > 0 then (rankL (rowE l) (placeL a (rowE l)) : Int) else 0 := by
    unfold beforeL
    by_cases hp : 0 ≤ placeL a (rowE l)
    · rw [if_pos hp]; split <;> omega
    · rw [if_neg hp]
      have : rankL (rowE l) (placeL a (rowE l)) = 0 := by
        unfold rankL
        rw [show (placeL a (rowE l)).toNat = 0 by omega]; rfl
      rw [this]; rfl
  have hno : decide (0 ≤ at_ ∧ at_ < liveL (rowE l)) = !noneI (nameL (rowE l) at_) := by
    by_cases hk : 0 ≤ at_ ∧ at_ < liveL (rowE l)
    · have hm := name_may his.dn hk
      rw [decide_eq_true hk]
      cases hn : noneI (nameL (rowE l) at_) with
      | false => rfl
      | true => rw [none_eq hn] at hm; exact absurd hm (by decide)
    · rw [decide_eq_false hk, name_none hk]; rfl
  rw [hbf] at hbe
  rw [hno] at hna
  have hnone := None_c (nameL (rowE l) at_)
  generalize rankL (rowE l) (placeL a (rowE l)) = rk at hbe hrk
  generalize placeL a (rowE l) = pl at hbe hpl hrk
  generalize nameL (rowE l) at_ = nm at hna hrn hnone
  clear hi h1
  (repeat (first | refine Spl.t rfl ?_ | refine Spl.f rfl ?_))
  (first | refine Sq.go ?_ | refine vL_nil (Sq.go ?_) | skip)
  try refine WJ.cut ?_
  refine OpJ.callV hbe (fun _ _ => rfl) rfl rfl rfl ?_
  (repeat (first | refine Spl.t rfl ?_ | refine Spl.f rfl ?_))
  (first | refine Sq.go ?_ | refine vL_nil (Sq.go ?_) | skip)
  try refine WJ.cut ?_
  refine OpJ.callV hli (fun _ _ => rfl) rfl rfl rfl ?_
  (repeat (first | refine Spl.t rfl ?_ | refine Spl.f rfl ?_))
  (first | refine Sq.go ?_ | refine vL_nil (Sq.go ?_) | skip)
  try refine WJ.cut ?_
  refine OpJ.callV (Of_c a) (fun _ _ => rfl) rfl rfl rfl ?_
  (repeat (first | refine Spl.t rfl ?_ | refine Spl.f rfl ?_))
  refine OpJ.callV hpl (fun _ _ => rfl) rfl rfl rfl ?_
  (repeat (first | refine Spl.t rfl ?_ | refine Spl.f rfl ?_))
  (first | refine Sq.go ?_ | refine vL_nil (Sq.go ?_) | skip)
  try refine WJ.cut ?_
  refine OpJ.callV hna (fun _ _ => rfl) rfl rfl rfl ?_
  (repeat (first | refine Spl.t rfl ?_ | refine Spl.f rfl ?_))
  (first | refine Sq.go ?_ | refine vL_nil (Sq.go ?_) | skip)
  try refine WJ.cut ?_
  refine OpJ.callV hrn (fun _ _ => rfl) rfl rfl rfl ?_
  (repeat (first | refine Spl.t rfl ?_ | refine Spl.f rfl ?_))
  (first | refine Sq.go ?_ | refine vL_nil (Sq.go ?_) | skip)
  try refine vc_sound _ _ _ _ ?_
  refine RegP.of rfl (by decide +kernel) ?_
  refine QuietP.of (QJ.call Awake8_c (fun _ _ => rfl) rfl rfl) ?_
  (repeat (first | refine Spl.t rfl ?_ | refine Spl.f rfl ?_))
  refine Spl.t (by simp) ?_
  (repeat (first | refine Spl.t rfl ?_ | refine Spl.f rfl ?_))
  refine QuietP.of (QJ.call hrk (fun _ _ => rfl) rfl rfl) ?_
  (repeat (first | refine Spl.t rfl ?_ | refine Spl.f rfl ?_))
  refine Spl.t (by simp) ?_
  (repeat (first | refine Spl.t rfl ?_ | refine Spl.f rfl ?_))
  refine QuietP.of (QJ.call (Of_c nm) (fun _ _ => rfl) rfl rfl) ?_
  (repeat (first | refine Spl.t rfl ?_ | refine Spl.f rfl ?_))
  refine QuietP.of (O.eqT 3 rfl rfl rfl rfl rfl eqR_ok eqR_g (eqR nm nm)) ?_
  refine Spl.t (by simp) ?_
  (repeat (first | refine Spl.t rfl ?_ | refine Spl.f rfl ?_))
  refine QuietP.of (QJ.call hnone (fun _ _ => rfl) rfl rfl) ?_
  (repeat (first | refine Spl.t rfl ?_ | refine Spl.f rfl ?_))
  exact FinP.open rfl (congrArg bv (by simp))
theorem actRow (cs : List D) (h : (Ty.st [.int .u8, .st [.int .i64, .st [.int .i64, .int .i64], .st [.int .i64, .int .i64], .int .i32], .int .i64, .int .i64, .int .i32]).ok cs) : ∃ x : ACT, cs = actD x ∧ okAct x := by
  obtain ⟨_, _, rfl, ⟨k, rfl, _⟩, ⟨_, _, rfl, ⟨_, _, rfl, ⟨a0, rfl, _⟩, ⟨_, _, rfl, ⟨_, _, rfl, ⟨a1, rfl, _⟩, ⟨_, _, rfl, ⟨a2, rfl, _⟩, rfl⟩⟩, ⟨_, _, rfl, ⟨_, _, rfl, ⟨a3, rfl, _⟩, ⟨_, _, rfl, ⟨a4, rfl, _⟩, rfl⟩⟩, ⟨_, _, rfl, ⟨a5, rfl, _⟩, rfl⟩⟩⟩⟩, ⟨_, _, rfl, ⟨s, rfl, _⟩, ⟨_, _, rfl, ⟨at_, rfl, w⟩, ⟨_, _, rfl, ⟨ch, rfl, w2⟩, rfl⟩⟩⟩⟩⟩ := h
  exact ⟨⟨k, ⟨a0, ⟨a1, a2⟩, ⟨a3, a4⟩, a5⟩, s, at_, ch⟩, rfl, i64_rng w, i32_rng w2⟩
end Go.Proofs.E
end
