/- Laws that the claim's text stands on: A region that draws its order, in which some stores into private variables do not wait for what stands ahead of them; A version: an operation that can be applied is taken in; A version: an operation of another replica, by the closure that takes it in; A version: an operation of another replica; A version, as the document has it: an operation of another replica; A version: Insert and Delete of this replica; A version, as the document has it: Insert and Delete of this replica; A version: the law's comparisons; A version: an act, by the program and by the document; A room of operations that wait: the law's example; A version: the law's example; A version: the law VersionPlays; A cursor: what its calls answer, and the document's; A cursor, as the document has it; the law's versions; A region that draws its order: quiet operations, births, and stores into private variables that do not wait for what stands ahead of them; A cursor: the law's example; the law CursorTells; A private row is given up, and begun anew; A quiet call of a function's value; A replica: what its looks answer; A replica: its calls; A replica: Changes, Do, Look; the law's comparisons; A replica: Do, Look, New, the kinds' words, the example; the document's sum; A replica, as the document has it; the example; A replica: the law's example; the law ReplicaPlays; A replica: the law ReplicaPlays; A replica: the law ReplicaLooks. -/
import Derived.Test.YtcpmcadgknfpjaaGreatDoorM1
import Derived.Test.YtcpmcadgknfpjaaGreatDoorM2
import Derived.Test.YtcpmcadgknfpjaaGreatDoorM3
import Derived.Test.YtcpmcadgknfpjaaGreatDoorDShelf
import Derived.Test.YtcpmcadgknfpjaaGreatDoorM4
import Derived.Test.YtcpmcadgknfpjaaGreatDoorM5
import Derived.Test.YtcpmcadgknfpjaaGreatDoorM6
set_option linter.unusedVariables false
set_option linter.unusedSimpArgs false
section
namespace Go.Gv
open Go.RowKit
/-- What is private, some of the variables stored into anew. -/
def sAt (F : Nat → Option (Nat × Ent × Ent)) (S : Nat → Bool) (σ : Sg) : Nat → Sg
  | 0 => σ
  | k + 1 => match F k with
    | some (i, e, f) => (i, match S k with | true => f | false => e) :: sAt F S σ k
    | none => sAt F S σ k
theorem sAt_congr {F : Nat → Option (Nat × Ent × Ent)} {S S' : Nat → Bool} {σ : Sg} : ∀ k, (∀ j, j < k → F j ≠ none → S j = S' j) → sAt F S σ k = sAt F S' σ k
  | 0, _ => rfl
  | k + 1, h => by
    simp only [sAt]
    rw [sAt_congr k fun j hj => h j (by omega)]
    cases hE : F k with
    | none => rfl
    | some p => simp only [h k (by omega) (by rw [hE]; exact fun h => by cases h)]
theorem sAt_old {F : Nat → Option (Nat × Ent × Ent)} {S : Nat → Bool} {σ : Sg} {x : Nat} {a : Ent} {m : Nat} (hx : look x σ = some a) (hn : ∀ i y e f, i < m → F i = some (y, e, f) → y ≠ x) : ∀ k, k ≤ m → look x (sAt F S σ k) = some a
  | 0, _ => hx
  | k + 1, hk => by
    have ih := sAt_old (S := S) hx hn k (by omega)
    simp only [sAt]
    cases hF : F k with
    | none => exact ih
    | some q =>
      obtain ⟨y, e, f⟩ := q
      simp only
      rw [look_cons, if_neg (fun h => hn k y e f (by omega) hF h.symm)]
      exact ih
theorem sAt_is {F : Nat → Option (Nat × Ent × Ent)} {S : Nat → Bool} {σ : Sg} {m : Nat} (hd : ∀ i j x e f e' f', i < m → j < m → F i = some (x, e, f) → F j = some (x, e', f') → i = j) {i x : Nat} {e f : Ent} (him : i < m) (hE : F i = some (x, e, f)) :
    ∀ k, k ≤ m → i < k → look x (sAt F S σ k) = some (match S i with | true => f | false => e)
  | 0, _, h => by omega
  | k + 1, hk, h => by
    by_cases hik : i = k
    · subst hik
      simp only [sAt, hE, look_cons, if_true]
    · have ih := sAt_is (S := S) (σ := σ) hd him hE k (by omega) (by omega)
      simp only [sAt]
      cases hF : F k with
      | none => exact ih
      | some q =>
        obtain ⟨y, e', f'⟩ := q
        simp only
        rw [look_cons, if_neg (fun h => hik (by subst h; exact hd i k _ _ _ _ _ him (by omega) hE hF))]
        exact ih
theorem sAt_step {F : Nat → Option (Nat × Ent × Ent)} {S : Nat → Bool} {σ : Sg} {m : Nat} (hd : ∀ i j x e f e' f', i < m → j < m → F i = some (x, e, f) → F j = some (x, e', f') → i = j) {i x : Nat} {e f : Ent} (him : i < m) (hE : F i = some (x, e, f)) {y : Nat} :
    ∀ k, k ≤ m → i < k → look y (sAt F (fun j => if j = i then true else S j) σ k) = if y = x then some f else look y (sAt F S σ k) := by
  have same : ∀ k, k ≤ i → sAt F (fun j => if j = i then true else S j) σ k = sAt F S σ k := fun k hk => sAt_congr k fun j hj _ => if_neg (by omega)
  intro k
  induction k with
  | zero => intro _ h; omega
  | succ k ih =>
    intro hk h
    by_cases hik : i = k
    · subst hik
      simp only [sAt, hE, if_true, look_cons]
      split
      · rfl
      · rw [same i (Nat.le_refl _)]
    · have ih := ih (by omega) (by omega)
      simp only [sAt]
      cases hF : F k with
      | none => exact ih
      | some q =>
        obtain ⟨z, e', f'⟩ := q
        have hz : z ≠ x := fun h => hik (by subst h; exact hd i k _ _ _ _ _ him (by omega) hE hF)
        have hki : (if k = i then true else S k) = S k := if_neg (fun h => hik h.symm)
        simp only [hki]
        rw [look_cons, look_cons]
        by_cases hy : y = z
        · rw [if_pos hy, if_pos hy, if_neg (fun h => hz (hy.symm.trans h))]
        · rw [if_neg hy, if_neg hy]; exact ih
theorem listT (f : Nat → Option AV) : ∀ n, ∃ t : T, ∀ x, look x t = if x < n then f x else none
  | 0 => ⟨[], fun x => by rw [if_neg (by omega)]; rfl⟩
  | n + 1 => by
    obtain ⟨t, ht⟩ := listT f n
    cases hf : f n with
    | none =>
      refine ⟨t, fun x => ?_⟩
      rw [ht]
      by_cases e : x = n
      · subst e; rw [if_neg (by omega), if_pos (by omega), hf]
      · by_cases h : x < n
        · rw [if_pos h, if_pos (by omega)]
        · rw [if_neg h, if_neg (by omega)]
    | some v =>
      refine ⟨(n, v) :: t, fun x => ?_⟩
      rw [look_cons]
      by_cases e : x = n
      · subst e; rw [if_pos rfl, if_pos (by omega), hf]
      · rw [if_neg e, ht]
        by_cases h : x < n
        · rw [if_pos h, if_pos (by omega)]
        · rw [if_neg h, if_neg (by omega)]
/-- A store into a private variable, whenever it is done. -/
def StoreJ (X : Cx) (o : Oper) (t : T) (id : Nat) (e f : Ent) : Prop :=
  o.guard = none ∧ o.dst = none ∧ ∀ (t' : T) (σ' : Sg), (∀ x, x ∈ o.op.operands → ∀ v, ge t x = some v → ge t' x = some v) → look id σ' = some e → OpJ X o t' σ' (fun t2 σ2 => t2 = t' ∧ σ2 = (id, f) :: σ')
def SStep (X : Cx) (all : Array Oper) (o : Oper) (t : T) (σ : Sg) (V : AV) (F : Option (Nat × Ent × Ent)) : Prop :=
  (F = none ∧ OStep X all o t σ V) ∨ (∃ id e f, F = some (id, e, f) ∧ StoreJ X o t id e f)
theorem calm_anyS {X : Cx} {all : Array Oper} {m : Nat} {t0 : T} {σ : Sg} {V : Nat → AV} {F : Nat → Option (Nat × Ent × Ent)} {Q' : Exit → Act → World → Prop} (hc : CalmR all m) (hm : m ≤ all.size)
    (hstep : ∀ i o, i < m → all[i]? = some o → SStep X all o (states all V t0 i) σ (V i) (F i) ∧ dOk o.dst X.N = true)
    (hds : ∀ i j x e f e' f', i < m → j < m → F i = some (x, e, f) → F j = some (x, e', f') → i = j) (hout : ∀ i x e f, i < m → F i = some (x, e, f) → look x σ = none)
    (hend : ∀ γ H a w listed, St X γ H (states all V t0 m) (sAt F (fun _ => true) σ m) a w → listed.size = all.size → (∀ j, j < all.size → listed.getD j false = decide (j < m)) → wpAnyIn (Fr X.ro) 0 X.P .any all Q' (all.size - m) listed a w) :
    ∀ (fuel : Nat) (listed : Array Bool) (γ : Ids) (H : HF) (a : Act) (w : World), listed.size = all.size →
      (∀ j, m ≤ j → listed.getD j false = false) → (∀ i o, listed.getD i false = true → all[i]? = some o → ∀ e, e ∈ o.after → Region.binds .any e = true → listed.getD e.on false = true) →
      ((List.range m).filter fun j => !listed.getD j false).length + (all.size - m) = fuel →
      TabOk γ H (tabAt all V t0 (fun j => listed.getD j false) m) a.tmps → St X γ H [] (sAt F (fun j => listed.getD j false) σ m) a w →
      wpAnyIn (Fr X.ro) 0 X.P .any all Q' fuel listed a w := by
  intro fuel
  induction fuel with
  | zero =>
    intro listed γ H a w hs htail hclosed hcount htab sst
    have hall : ∀ j, j < m → listed.getD j false = true := fun j hj => by
      have h0 : ((List.range m).filter fun j => !listed.getD j false) = [] := List.length_eq_zero_iff.1 (by omega)
      have := List.filter_eq_nil_iff.1 h0 j (List.mem_range.2 hj)
      simpa using this
    have hmn : m = all.size := by omega
    have hst : St X γ H (states all V t0 m) (sAt F (fun _ => true) σ m) a w := St.withT (by have h9 := sst; rw [sAt_congr (S' := fun _ => true) m (fun j hj _ => hall j hj)] at h9; exact h9) (fun i b hi => htab i b (by
      rw [look_states] at hi
      rw [← hi]
      simp only [tabAt]
      rw [lastW_congr m (fun j hj _ => hall j hj)]))
    have := hend γ H a w listed hst hs (fun j hj => by rw [hall j (by omega)]; simp; omega)
    rw [show all.size - m = 0 from by omega] at this; exact this
  | succ fuel ih =>
    intro listed γ H a w hs htail hclosed hcount htab sst
    by_cases hall : ∀ j, j < m → listed.getD j false = true
    · -- the calm part is over
      have hst : St X γ H (states all V t0 m) (sAt F (fun _ => true) σ m) a w := St.withT (by have h9 := sst; rw [sAt_congr (S' := fun _ => true) m (fun j hj _ => hall j hj)] at h9; exact h9) (fun i b hi => htab i b (by
        rw [look_states] at hi
        rw [← hi]
        simp only [tabAt]
        rw [lastW_congr m (fun j hj _ => hall j hj)]))
      have h0 : ((List.range m).filter fun j => !listed.getD j false) = [] := List.filter_eq_nil_iff.2 fun j hj => by simp only [hall j (List.mem_range.1 hj)]; simp
      rw [h0] at hcount
      simp only [List.length_nil, Nat.zero_add] at hcount
      have := hend γ H a w listed hst hs (fun j hj => by
        by_cases hj' : j < m
        · rw [hall j hj']; simp [hj']
        · rw [htail j (by omega)]; simp; omega)
      rw [hcount] at this
      exact this
    · refine ⟨fun hn => ?_, fun i hi => ?_⟩
      · -- the least that is not listed is ready
        exfalso
        have hex : ∃ j, j < m ∧ listed.getD j false = false := by
          refine Classical.byContradiction fun hno => hall fun j hj => ?_
          cases hx : listed.getD j false with
          | true => rfl
          | false => exact absurd ⟨j, hj, hx⟩ hno
        have hmin : ∃ j, j < m ∧ listed.getD j false = false ∧ ∀ i, i < j → listed.getD i false = true := by
          obtain ⟨j, hj⟩ := hex
          induction j using Nat.strongRecOn with
          | _ j ihj =>
            by_cases hlow : ∀ i, i < j → listed.getD i false = true
            · exact ⟨j, hj.1, hj.2, hlow⟩
            · have : ∃ i, i < j ∧ listed.getD i false = false := by
                refine Classical.byContradiction fun hno => hlow fun i hi => ?_
                cases hx : listed.getD i false with
                | true => rfl
                | false => exact absurd ⟨i, hi, hx⟩ hno
              obtain ⟨i, hi, hx⟩ := this
              exact ihj i hi ⟨by omega, hx⟩
        obtain ⟨j, hj, hjl, hlow⟩ := hmin
        have hjn : j < all.size := by omega
        have hmem' : j ∈ Region.ready .any all listed := by
          rw [mem_ready]
          refine ⟨?_, all[j], by simp [hjn], fun e he hb => hlow _ (hc.back j all[j] (by simp [hjn]) e he hb)⟩
          rw [Array.getD_eq_getD_getElem?] at hjl ⊢
          rw [Array.getElem?_eq_getElem (by omega)] at hjl ⊢
          simpa using hjl
        rw [hn] at hmem'; cases hmem'
      · obtain ⟨h1, o, ho, h2⟩ := ready_sound hi
        obtain ⟨hil, hif⟩ := getD_of h1
        have hin : i < all.size := (Array.getElem?_eq_some_iff.1 ho).1
        have him : i < m := by
          refine Classical.byContradiction fun hge => hall fun j hj => ?_
          exact anc_listed hclosed (hc.tail i o ho (by omega) j hj) ho h2
        -- who writes what i names: listed just if it stands ahead
        have hwr : ∀ x, namesT all o x = true → ∀ j, j < m → dstAt all j = some x → listed.getD j false = decide (j < i) := by
          intro x hx j hj hd'
          cases hp : all[j]? with
          | none => simp [dstAt, hp] at hd'
          | some p =>
            simp only [dstAt, hp, Option.bind_some] at hd'
            by_cases hji : j < i
            · rcases hc.names i o (by omega) ho j p hji hp with h3 | ⟨h3, _⟩
              · rw [edge_listed h3 h2]; simp [hji]
              · rw [h3 x hd'] at hx; cases hx
            · by_cases e : j = i
              · subst e; rw [hif]; simp
              · rcases hc.names j p (by omega) hp i o (by omega) ho with h3 | ⟨_, h3⟩
                · cases hlj : listed.getD j false with
                  | false => simp; omega
                  | true =>
                    have := edge_listed h3 (hclosed j p hlj hp)
                    rw [hif] at this; cases this
                · rw [h3 x hd'] at hx; cases hx
        have htab_i : ∀ x, namesT all o x = true → tabAt all V t0 (fun j => listed.getD j false) m x = look x (states all V t0 i) := by
          intro x hx
          rw [look_states]
          simp only [tabAt]
          rw [lastW_congr m (fun j hj hd' => hwr x hx j hj hd'), lastW_top m (by omega)]
        have hopnd : ∀ x, x ∈ o.op.operands → ∀ v, ge (states all V t0 i) x = some v → Rep γ H v (a.eval x) := by
          intro x hx v hv
          cases x with
          | tmp y =>
            have hy : namesT all o y = true := by
              simp only [namesT, Bool.or_eq_true]
              exact .inl (.inr (List.any_eq_true.2 ⟨_, Array.mem_toList_iff.2 hx, by simp [hasT]⟩))
            obtain ⟨u, hu, hr⟩ := htab y v (by rw [htab_i y hy]; exact hv)
            simp only [Act.eval, Array.getD_eq_getD_getElem?, hu, Option.getD_some]
            exact hr
          | const c => simp only [ge, Option.some.injEq] at hv; subst hv; exact rep_const γ H c
          | func f => simp only [ge, Option.some.injEq] at hv; subst hv; exact .d _ _ (.fn f [] [] rfl (fun j a u h1 => by simp at h1))
          | global g => simp [ge] at hv
        obtain ⟨hos, hdok⟩ := hstep i o him ho
        -- how many are left
        have hleft : ((List.range m).filter fun j => !(listed.setIfInBounds i true).getD j false).length + (all.size - m) = fuel := by
          have hf : ((List.range m).filter fun j => !listed.getD j false).length = ((List.range m).filter fun j => !(listed.setIfInBounds i true).getD j false).length + 1 := by
            have h5 : ∀ (l : List Nat), l.Nodup → i ∈ l → (l.filter fun j => !listed.getD j false).length = (l.filter fun j => !(listed.setIfInBounds i true).getD j false).length + 1 := by
              intro l
              induction l with
              | nil => intro _ h; cases h
              | cons b l ihl =>
                intro hnd hmem'
                rw [List.nodup_cons] at hnd
                by_cases e : i = b
                · subst e
                  have h6 : (listed.setIfInBounds i true).getD i false = true := by
                    rw [Array.getD_eq_getD_getElem?]; simp [hil]
                  have h7 : (l.filter fun j => !listed.getD j false) = (l.filter fun j => !(listed.setIfInBounds i true).getD j false) := by
                    refine List.filter_congr fun j hj => ?_
                    have hne : i ≠ j := fun e => hnd.1 (e ▸ hj)
                    rw [getD_set_ne false hne]
                  simp only [List.filter_cons, hif, h6, Bool.not_false, Bool.not_true, if_true, h7, List.length_cons, Bool.false_eq_true, if_false]
                · have h6 := getD_set_ne (listed := listed) false e
                  have h7 := ihl hnd.2 (by rcases List.mem_cons.1 hmem' with h | h; exact absurd h e; exact h)
                  simp only [List.filter_cons, h6]
                  split <;> simp only [List.length_cons, h7]
            exact h5 _ List.nodup_range (List.mem_range.2 him)
          omega
        have hclosed' : ∀ j p, (listed.setIfInBounds i true).getD j false = true → all[j]? = some p → ∀ e, e ∈ p.after → Region.binds .any e = true → (listed.setIfInBounds i true).getD e.on false = true := fun j p hj hp e he hb => by
          by_cases e' : i = j
          · subst e'
            rw [ho] at hp; simp only [Option.some.injEq] at hp; subst hp
            exact getD_set_true (h2 e he hb)
          · rw [getD_set_ne false e'] at hj
            exact getD_set_true (hclosed j p hj hp e he hb)
        have htail' : ∀ j, m ≤ j → (listed.setIfInBounds i true).getD j false = false := fun j hj => by
          rw [getD_set_ne false (by omega)]; exact htail j hj
        have hset : (fun j => (listed.setIfInBounds i true).getD j false) = fun j => if j = i then true else listed.getD j false := funext fun j => by
          by_cases e : j = i
          · subst e; rw [if_pos rfl, Array.getD_eq_getD_getElem?]; simp [hil]
          · rw [if_neg e, getD_set_ne false (fun h => e h.symm)]
        -- behind a quiet one
        have hnext : F i = none → ∀ v γ' σ' H' w', Mem w H (fun _ => False) γ' H' σ' w' → Rep γ H' (V i) v → wpAnyIn (Fr X.ro) 0 X.P .any all Q' fuel (listed.setIfInBounds i true) (a.put o.dst v) w' := by
          intro hE v γ' σ' H' w' hm' hr
          have sst' : St X γ H' [] (sAt F (fun j => (listed.setIfInBounds i true).getD j false) σ m) (a.put o.dst v) w' := by
            have h9 := sst.calm (d := o.dst) hm' hdok hr
            rw [sAt_congr (S' := fun j => listed.getD j false) m (fun j hj hne => by
              have e' : i ≠ j := fun e => by subst e; exact hne hE
              exact getD_set_ne false e')]
            exact h9.wk (Wk.nil _) (Wk.refl _)
          refine ih _ γ H' _ w' (by simpa using hs) htail' hclosed' hleft ?_ sst'
          · -- the table
            intro x b hx
            by_cases hxd : o.dst = some x
            · have hlw : tabAt all V t0 (fun j => (listed.setIfInBounds i true).getD j false) m x = some (V i) := by
                have hnx : namesT all o x = true := by simp [namesT, hxd]
                simp only [tabAt]
                have : lastW all (fun j => (listed.setIfInBounds i true).getD j false) x m = lastW all (fun j => decide (j < i + 1)) x m := by
                  refine lastW_congr m fun j hj hd' => ?_
                  by_cases e : i = j
                  · subst e; rw [Array.getD_eq_getD_getElem?]; simp [hil]
                  · show (listed.setIfInBounds i true).getD j false = _
                    rw [getD_set_ne false e, hwr x hnx j hj hd']
                    simp; omega
                rw [this, lastW_top m (by omega)]
                have hda : dstAt all i = some x := by simp [dstAt, ho, hxd]
                simp [lastW, hda]
              rw [hlw] at hx
              simp only [Option.some.injEq] at hx
              subst hx
              have hlt : x < a.tmps.size := by have := sst.size; rw [hxd] at hdok; simp only [dOk, Nat.blt_eq] at hdok; omega
              exact ⟨v, by rw [hxd]; simp [Act.put, hlt], hr⟩
            · have hlw : tabAt all V t0 (fun j => (listed.setIfInBounds i true).getD j false) m x = tabAt all V t0 (fun j => listed.getD j false) m x := by
                simp only [tabAt]
                rw [lastW_congr m fun j hj hd' => ?_]
                have e : i ≠ j := fun e => by subst e; simp [dstAt, ho] at hd'; exact hxd hd'
                exact getD_set_ne false e
              rw [hlw] at hx
              obtain ⟨u, hu, hr'⟩ := htab x b hx
              refine ⟨u, ?_, hr'.mono hm'.hle⟩
              cases hod : o.dst with
              | none => simpa [Act.put, hod] using hu
              | some d =>
                have hne : d ≠ x := fun e => hxd (by rw [hod, e])
                simp only [Act.put]
                rw [Array.getElem?_setIfInBounds, if_neg hne]; exact hu
        have hmemσ : Mem X.w0 X.H0 X.B γ H σ w := sst.mem.wk (fun x e hx => sAt_old hx (fun j y e' f' hj hF hyx => by
          subst hyx
          rw [hout j _ _ _ hj hF] at hx; cases hx) m (Nat.le_refl _))
        -- its guard
        have hguard : ∀ j b' d b, o.guard = some (j, b') → ((all[j]?).bind (·.dst)) = some d → look d (states all V t0 i) = some (.d (.v (.bool b))) → yielded all a.tmps j = some b := by
          intro j b' d b hg hd' hl
          have hnd : namesT all o d = true := by simp [namesT, hg, hd']
          obtain ⟨u, hu, hr⟩ := htab d _ (by rw [htab_i d hnd]; exact hl)
          have := rep_v hr
          subst this
          simp [yielded, hd', hu]
        have hguardU : ∀ j b' d, o.guard = some (j, b') → ((all[j]?).bind (·.dst)) = some d → look d (states all V t0 i) = some (.tup []) → yielded all a.tmps j = none := by
          intro j b' d hg hd' hl
          have hnd : namesT all o d = true := by simp [namesT, hg, hd']
          obtain ⟨u, hu, hr⟩ := htab d _ (by rw [htab_i d hnd]; exact hl)
          have := rep_undef_eq hr
          subst this
          simp [yielded, hd', hu, undef]
        unfold wpOpIn
        simp only [ho]
        rcases hos with ⟨hE, ⟨hg, hq⟩ | ⟨j, b, d, hg, hd', hl, hq⟩ | ⟨j, b, b', d, hg, hd', hl, hne, hV⟩ | ⟨j, b, d, hg, hd', hl, hV⟩⟩ | ⟨id, en, en', hE, hst⟩
        · have hw : Region.wanted o (yielded all a.tmps) = true := by simp [Region.wanted, hg]
          rw [if_pos hw]
          exact ⟨fun _ _ => trivial, hq γ H a w sst.lam hopnd hmemσ _ _ (hnext hE)⟩
        · have hw : Region.wanted o (yielded all a.tmps) = true := by simp [Region.wanted, hg, hguard j b d b hg hd' hl]
          rw [if_pos hw]
          exact ⟨fun _ _ => trivial, hq γ H a w sst.lam hopnd hmemσ _ _ (hnext hE)⟩
        · have hw : Region.wanted o (yielded all a.tmps) = false := by simp [Region.wanted, hg, hguard j b d b' hg hd' hl, hne]
          simp only [hw, Bool.false_eq_true, if_false]
          exact ⟨fun _ _ => trivial, hnext hE undef γ [] H w (sst.mem.refl γ) (by rw [hV]; exact rep_undef)⟩
        · have hw : Region.wanted o (yielded all a.tmps) = false := by simp [Region.wanted, hg, hguardU j b d hg hd' hl]
          simp only [hw, Bool.false_eq_true, if_false]
          exact ⟨fun _ _ => trivial, hnext hE undef γ [] H w (sst.mem.refl γ) (by rw [hV]; exact rep_undef)⟩
        · obtain ⟨hg, hd0, hj⟩ := hst
          have hw : Region.wanted o (yielded all a.tmps) = true := by simp [Region.wanted, hg]
          rw [if_pos hw]
          refine ⟨fun _ _ => trivial, ?_⟩
          -- all temporaries, told as a list
          obtain ⟨tc, htc⟩ : ∃ tc : T, ∀ x, look x tc = tabAt all V t0 (fun j => listed.getD j false) m x := by
            obtain ⟨tc, h5⟩ := listT (fun x => tabAt all V t0 (fun j => listed.getD j false) m x) a.tmps.size
            refine ⟨tc, fun x => ?_⟩
            rw [h5]
            split
            · rfl
            · next hx =>
              cases hv : tabAt all V t0 (fun j => listed.getD j false) m x with
              | none => rfl
              | some b =>
                obtain ⟨u, hu, _⟩ := htab x b hv
                exact absurd (Array.getElem?_eq_some_iff.1 hu).1 hx
          have hsc : St X γ H tc (sAt F (fun j => listed.getD j false) σ m) a w := St.withT sst (fun x b hx => htab x b (by rw [← htc]; exact hx))
          have hlk : look id (sAt F (fun j => listed.getD j false) σ m) = some en := by
            rw [sAt_is (fun i j x e f e' f' hi hj h1 h2 => hds i j x e f e' f' hi hj h1 h2) him hE m (Nat.le_refl _) him]
            simp only [hif]
          have key := hj tc (sAt F (fun j => listed.getD j false) σ m) (fun x hx v hv => by
            cases x with
            | tmp y =>
              have hy : namesT all o y = true := by
                simp only [namesT, Bool.or_eq_true]
                exact .inl (.inr (List.any_eq_true.2 ⟨_, Array.mem_toList_iff.2 hx, by simp [hasT]⟩))
              show look y tc = some v
              rw [htc, htab_i y hy]; exact hv
            | const c => exact hv
            | func f => exact hv
            | global g => exact hv) hlk
          refine key γ H a w hsc _ _ ?_
          rintro γ' H' t' σ' a' w' s' ⟨rfl, rfl⟩
          refine ih _ γ' H' a' w' (by simpa using hs) htail' hclosed' hleft (fun x b hx => ?_) ?_
          · refine s'.tmp x b ?_
            rw [htc, ← hx]
            simp only [tabAt]
            rw [lastW_congr m fun j hj hd' => ?_]
            have e : i ≠ j := fun e => by subst e; simp [dstAt, ho, hd0] at hd'
            exact (getD_set_ne false e).symm
          · rw [hset]
            refine s'.wk (Wk.nil _) fun x e hx => ?_
            rw [sAt_step (fun i j x e f e' f' hi hj h1 h2 => hds i j x e f e' f' hi hj h1 h2) him hE m (Nat.le_refl _) him] at hx
            rw [look_cons]; exact hx

def CS (X : Cx) (all : Array Oper) (σ0 σ : Sg) (Q : T → Sg → Prop) : List Oper → T → Sg → Prop
  | [], t, ss => ∃ t', Wk t' t ∧ Q t' ss
  | o :: rest, t, ss =>
    (∃ V, OStep X all o t σ V ∧ dOk o.dst X.N = true ∧ CS X all σ0 σ Q rest (putT o.dst V t) ss) ∨
    (∃ id e f, StoreJ X o t id e f ∧ look id σ0 = some e ∧ look id σ = none ∧ look id ss = none ∧ CS X all σ0 σ Q rest t ((id, f) :: ss))
def consF : Option (Nat × Ent × Ent) → Sg → Sg
  | some (i, _, f), ss => (i, f) :: ss
  | none, ss => ss
def sFrom (F : Nat → Option (Nat × Ent × Ent)) (k : Nat) (ss : Sg) : Nat → Sg
  | 0 => ss
  | j + 1 => consF (F (k + j)) (sFrom F k ss j)
theorem sFrom_congr {F F' : Nat → Option (Nat × Ent × Ent)} {k : Nat} {ss : Sg} : ∀ j, (∀ i, k ≤ i → i < k + j → F i = F' i) → sFrom F k ss j = sFrom F' k ss j
  | 0, _ => rfl
  | j + 1, h => by
    simp only [sFrom]
    rw [h (k + j) (by omega) (by omega), sFrom_congr j (fun i h1 h2 => h i h1 (by omega))]
theorem sFrom_succ {F : Nat → Option (Nat × Ent × Ent)} {k : Nat} {ss : Sg} : ∀ j, sFrom F k ss (j + 1) = sFrom F (k + 1) (consF (F k) ss) j
  | 0 => rfl
  | j + 1 => by
    rw [sFrom, sFrom_succ j, sFrom]
    rw [show k + (j + 1) = k + 1 + j from by omega]
theorem sAt_all {F : Nat → Option (Nat × Ent × Ent)} {σ : Sg} : ∀ j, sAt F (fun _ => true) σ j = sFrom F 0 [] j ++ σ
  | 0 => rfl
  | j + 1 => by
    simp only [sAt, sFrom, Nat.zero_add]
    rw [sAt_all j]
    cases F j <;> rfl
def STab (X : Cx) (all : Array Oper) (σ0 σ : Sg) (Q : T → Sg → Prop) (rest : List Oper) (k : Nat) (t : T) (ss : Sg) : Prop :=
    ∃ (V : Nat → AV) (F : Nat → Option (Nat × Ent × Ent)), (∀ j o, j < rest.length → all[k + j]? = some o → SStep X all o (statesFrom all V t k j) σ (V (k + j)) (F (k + j)) ∧ dOk o.dst X.N = true) ∧
      (∃ t', Wk t' (statesFrom all V t k rest.length) ∧ Q t' (sFrom F k ss rest.length)) ∧
      (∀ j x e f, j < rest.length → F (k + j) = some (x, e, f) → look x σ0 = some e ∧ look x σ = none ∧ look x ss = none) ∧
      (∀ i j x e f e' f', i < rest.length → j < rest.length → F (k + i) = some (x, e, f) → F (k + j) = some (x, e', f') → i = j)
theorem CS.table {X : Cx} {all : Array Oper} {σ0 σ : Sg} {Q : T → Sg → Prop} : ∀ (rest : List Oper) (k : Nat) (t : T) (ss : Sg), (∀ j, j < rest.length → all[k + j]? = rest[j]?) → CS X all σ0 σ Q rest t ss → STab X all σ0 σ Q rest k t ss
  | [], k, t, ss, _, h => ⟨fun _ => .junk, fun _ => none, fun j o hj => by simp at hj, h, fun j x e f hj => by simp at hj, fun i j x e f e' f' hi => by simp at hi⟩
  | p :: rest, k, t, ss, ha, h => by
    have hk : all[k]? = some p := by simpa using ha 0 (by simp)
    have hdk : dstAt all k = p.dst := by simp [dstAt, hk]
    have ha' : ∀ j, j < rest.length → all[k + 1 + j]? = rest[j]? := fun j hj => by have := ha (j + 1) (by simp; omega); rw [show k + 1 + j = k + (j + 1) from by omega]; simpa using this
    have hne : ∀ j, k + (j + 1) ≠ k := fun j => by omega
    have hadd : ∀ j, k + (j + 1) = k + 1 + j := fun j => by omega
    have key : ∀ (V0 : AV) (F0 : Option (Nat × Ent × Ent)), SStep X all p t σ V0 F0 → dOk p.dst X.N = true → CS X all σ0 σ Q rest (putT p.dst V0 t) (consF F0 ss) →
        (∀ x e f, F0 = some (x, e, f) → look x σ0 = some e ∧ look x σ = none ∧ look x ss = none) → STab X all σ0 σ Q (p :: rest) k t ss := by
      intro V0 F0 hB hdok h4 hF0
      obtain ⟨V', F', i1, ⟨t', i2, i3⟩, ia, ib⟩ := CS.table rest (k + 1) _ _ ha' h4
      have hV : ∀ j, statesFrom all (fun i => if i = k then V0 else V' i) t k (j + 1) = statesFrom all V' (putT p.dst V0 t) (k + 1) j := fun j => by
        rw [statesFrom_succ, hdk]
        simp only [if_true]
        exact statesFrom_congr j fun i h7 h8 => if_neg (by omega)
      have hFF : ∀ j, sFrom (fun i => if i = k then F0 else F' i) k ss (j + 1) = sFrom F' (k + 1) (consF F0 ss) j := fun j => by
        rw [sFrom_succ]
        simp only [if_true]
        exact sFrom_congr (F := fun i => if i = k then F0 else F' i) (F' := F') j fun i h7 h8 => if_neg (by omega)
      refine ⟨fun i => if i = k then V0 else V' i, fun i => if i = k then F0 else F' i, ?_, ⟨t', by rw [List.length_cons, hV]; exact i2, by rw [List.length_cons, hFF]; exact i3⟩, ?_, ?_⟩
      · intro j o hj ho
        cases j with
        | zero =>
          rw [Nat.add_zero, hk] at ho
          simp only [Option.some.injEq] at ho
          subst ho
          simp only [Nat.add_zero, if_true, statesFrom]
          exact ⟨hB, hdok⟩
        | succ j =>
          rw [hV]
          simp only [if_neg (hne j)]
          have := i1 j o (by simpa using hj) (by rw [← hadd j]; exact ho)
          rw [hadd j]; exact this
      · intro j x e f hj hF
        cases j with
        | zero =>
          simp only [Nat.add_zero, if_true] at hF
          exact hF0 x e f hF
        | succ j =>
          simp only [if_neg (hne j)] at hF; rw [hadd j] at hF
          obtain ⟨g1, g2, g3⟩ := ia j x e f (by simpa using hj) hF
          refine ⟨g1, g2, ?_⟩
          cases F0 with
          | none => exact g3
          | some q =>
            obtain ⟨y, e0, f0⟩ := q
            simp only [consF] at g3
            rw [look_cons] at g3
            split at g3
            · cases g3
            · exact g3
      · have cross : ∀ j x e f e' f', j < rest.length → F0 = some (x, e, f) → F' (k + 1 + j) = some (x, e', f') → False := fun j x e f e' f' hj h1 h2 => by
          obtain ⟨_, _, g3⟩ := ia j x e' f' hj h2
          rw [h1] at g3
          simp only [consF] at g3
          rw [look_cons, if_pos rfl] at g3; cases g3
        intro i j x e f e' f' hi hj h1 h2
        cases i with
        | zero =>
          simp only [Nat.add_zero, if_true] at h1
          cases j with
          | zero => rfl
          | succ j =>
            simp only [if_neg (hne j)] at h2; rw [hadd j] at h2
            exact (cross j x e f e' f' (by simpa using hj) h1 h2).elim
        | succ i =>
          simp only [if_neg (hne i)] at h1; rw [hadd i] at h1
          cases j with
          | zero =>
            simp only [Nat.add_zero, if_true] at h2
            exact (cross i x e' f' e f (by simpa using hi) h2 h1).elim
          | succ j =>
            simp only [if_neg (hne j)] at h2; rw [hadd j] at h2
            rw [ib i j x e f e' f' (by simpa using hi) (by simpa using hj) h1 h2]
    rcases h with ⟨V0, h1, h2, h4⟩ | ⟨id0, e0, f0, hs, g1, g2, g3, h4⟩
    · exact key V0 none (.inl ⟨rfl, h1⟩) h2 h4 (fun x e f h => by cases h)
    · have hd0 := hs.2.1
      exact key .junk (some (id0, e0, f0)) (.inr ⟨id0, e0, f0, rfl, hs⟩) (by rw [hd0]; rfl) (by rw [hd0]; exact h4) (fun x e f h => by cases h; exact ⟨g1, g2, g3⟩)
theorem WJ.calmS {X : Cx} {id : Nat} {ops : Array Oper} {t : T} {σ0 σ : Sg} {R : T → Sg → Prop} {Q' : Exit → Act → World → Prop} (m : Nat) (hm : X.P.follows .mixedOrders = true) (hc : CalmR ops m) (hle : m ≤ ops.size) (hσ : Wk σ σ0)
    (hend : ∀ t ss, R t ss → ∀ γ H a w listed, St X γ H t (ss ++ σ) a w → listed.size = ops.size → (∀ j, j < ops.size → listed.getD j false = decide (j < m)) → wpAnyIn (Fr X.ro) 0 X.P .any ops Q' (ops.size - m) listed a w)
    (h : CS X ops σ0 σ R (ops.toList.take m) t []) : ∀ γ H a w, St X γ H t σ0 a w → (Code.region id ops true).wpIn (Fr X.ro) 0 X.P Q' a w := by
  intro γ H a w s
  refine wpIn_region_any hm ?_
  have hlen : (ops.toList.take m).length = m := by simp; omega
  obtain ⟨V, F, h1, ⟨t', h2, h3⟩, ha, hb⟩ := CS.table (ops.toList.take m) 0 t [] (fun j hj => by rw [hlen] at hj; rw [Nat.zero_add, List.getElem?_take, if_pos hj]; simp) h
  simp only [hlen, Nat.zero_add] at h1 h2 h3 ha hb
  have s' : St X γ H t σ0 a { w with drawn := w.drawn + 1 } := ⟨s.lam, s.round, s.defers, s.size, s.pinned, s.tmp, s.mem.drew⟩
  have hall : ∀ j, (Array.replicate ops.size false).getD j false = false := fun j => by
    rw [Array.getD_eq_getD_getElem?, Array.getElem?_replicate]; split <;> rfl
  refine calm_anyS hc hle (V := V) (F := F) (σ := σ) (fun i o hi ho => by
    have := h1 i o hi ho
    rw [statesFrom_zero] at this
    exact this) (fun i j x e f e' f' hi hj h1 h2 => hb i j x e f e' f' hi hj h1 h2) (fun i x e f hi hF => (ha i x e f hi hF).2.1) (fun γ H a w lst st hls hlst => ?_) ops.size _ γ H a _ (by simp) (fun j _ => hall j) (fun i o hi => by rw [hall i] at hi; cases hi) ?_ ?_ ?_
  · rw [sAt_all] at st
    exact hend _ _ h3 γ H a w lst (st.wk (by rw [statesFrom_zero] at h2; exact h2) (Wk.refl _)) hls hlst
  · have : ((List.range m).filter fun j => !(Array.replicate ops.size false).getD j false) = List.range m := List.filter_eq_self.2 fun j _ => by rw [hall j]; rfl
    rw [this, List.length_range]; omega
  · intro x b hx
    have : lastW ops (fun j => (Array.replicate ops.size false).getD j false) x m = none := by
      have h0 : ∀ k, lastW ops (fun _ => false) x k = none := fun k => by
        induction k with
        | zero => rfl
        | succ k ih => simp [lastW, ih]
      rw [lastW_congr (S' := fun _ => false) m (fun j _ _ => hall j)]; exact h0 m
    simp only [tabAt, this] at hx
    exact s.tmp x b hx
  · have e0 : sAt F (fun j => (Array.replicate ops.size false).getD j false) σ m = sAt F (fun _ => false) σ m := sAt_congr m fun j _ _ => hall j
    rw [e0]
    refine s'.wk (Wk.nil _) fun x e hx => ?_
    have up : ∀ k, k ≤ m → look x (sAt F (fun _ => false) σ k) = some e → look x σ0 = some e := fun k => by
      induction k with
      | zero => exact fun _ h => hσ x e h
      | succ k ih =>
        intro hk h
        simp only [sAt] at h
        cases hF : F k with
        | none => rw [hF] at h; exact ih (by omega) h
        | some q =>
          obtain ⟨y, e1, f1⟩ := q
          rw [hF] at h
          simp only at h
          rw [look_cons] at h
          split at h
          · next hy =>
            subst hy
            cases h
            exact (ha k _ _ _ (by omega) hF).1
          · exact ih (by omega) h
    exact up m (Nat.le_refl _) hx
/-! ### The reckoning -/
def inN (i : Nat) : List Nat → Bool
  | [] => false
  | j :: r => match Nat.beq i j with | true => true | false => inN i r
def hideS (ks : List Nat) : Sg → Sg
  | [] => []
  | (i, e) :: σ => match inN i ks with | true => hideS ks σ | false => (i, e) :: hideS ks σ
theorem hideS_wk (ks : List Nat) : ∀ σ : Sg, Wk (hideS ks σ) σ ∧ ∀ i, inN i ks = true → look i (hideS ks σ) = none
  | [] => ⟨Wk.nil _, fun _ _ => rfl⟩
  | (j, e) :: σ => by
    obtain ⟨h1, h2⟩ := hideS_wk ks σ
    have go : ∀ i a, inN i ks = false → look i (hideS ks σ) = some a → look i σ = some a := fun i a _ h => h1 i a h
    refine ⟨fun i a hi => ?_, fun i hi => ?_⟩
    · have hn : inN i ks = false := by
        cases h : inN i ks with
        | false => rfl
        | true =>
          have : look i (hideS ks ((j, e) :: σ)) = none := by
            simp only [hideS]
            split
            · exact h2 i h
            · next hj =>
              rw [look_cons, if_neg (fun e => by subst e; rw [h] at hj; cases hj)]
              exact h2 i h
          rw [this] at hi; cases hi
      simp only [hideS] at hi
      split at hi
      · next hj =>
        rw [look_cons, if_neg (fun e => by subst e; rw [hn] at hj; cases hj)]
        exact h1 i a hi
      · rw [look_cons] at hi ⊢
        split
        · next e => rw [if_pos e] at hi; exact hi
        · next e => rw [if_neg e] at hi; exact h1 i a hi
    · simp only [hideS]
      split
      · exact h2 i hi
      · next hj =>
        rw [look_cons, if_neg (fun e => by subst e; rw [hi] at hj; cases hj)]
        exact h2 i hi
/-- A store of the head. -/
def stS (X : Cx) (e : TypeId) (x y : Operand) (t : T) (σ0 σ ss : Sg) (K : Nat → Ent → Prop) : Prop := match szOf X.P e, ge t x, ge t y with
  | some n, some (.box i off), some v => (match look i σ0, look i σ, look i ss with
    | some (.cells cs), none, none => (match oneAV v && oneAll (avCells v) && Nat.beq (avCells v).length n && Nat.ble (off + n) cs.length with
      | true => frcN (off + n) (setF cs off (avCells v)) fun cs' => K i (.cells cs')
      | false => False)
    | _, _, _ => False)
  | _, _, _ => False
def stepS (X : Cx) (o : Oper) (t : T) (σ : Sg) (K : T → Prop) : Prop :=
  qw X o t σ (fun V => match dOk o.dst X.N with | true => K (putT o.dst V t) | false => False) (QuietP X o t σ (fun V => match dOk o.dst X.N with | true => K (putT o.dst V t) | false => False) fun _ _ _ => False)
def vS (X : Cx) (all : Array Oper) (σ0 σ : Sg) (Q : T → Sg → Prop) : List Oper → T → Sg → Prop
  | [], t, ss => Q t ss
  | o :: rest, t, ss => match o.op, o.dst, o.guard with
    | .store e x y, none, none => stS X e x y t σ0 σ ss fun i f => vS X all σ0 σ Q rest t ((i, f) :: ss)
    | _, _, none => stepS X o t σ fun t => vS X all σ0 σ Q rest t ss
    | _, _, some (j, b0) => match dstOf all j, dOk o.dst X.N with
      | some d, true => (match look d t with
        | some (.d (.v (.bool b))) => grd b0 b d t (fun t => stepS X o t σ fun t => vS X all σ0 σ Q rest t ss) (fun t => vS X all σ0 σ Q rest (putT o.dst (.tup []) t) ss)
        | some (.tup []) => vS X all σ0 σ Q rest (putT o.dst (.tup []) t) ss
        | _ => False)
      | _, _ => False
theorem StoreJ.wk {X : Cx} {o : Oper} {t t' : T} {id : Nat} {e f : Ent} (hw : Wk t' t) (h : StoreJ X o t' id e f) : StoreJ X o t id e f :=
  ⟨h.1, h.2.1, fun t2 σ2 hx hl => h.2.2 t2 σ2 (fun x hx2 v hv => hx x hx2 v (by
    cases x with
    | tmp i => exact hw i v hv
    | const c => exact hv
    | func f => exact hv
    | global g => exact hv)) hl⟩
theorem CS.wk {X : Cx} {all : Array Oper} {σ0 σ : Sg} {Q : T → Sg → Prop} : ∀ (rest : List Oper) (t t' : T) (ss : Sg), Wk t' t → CS X all σ0 σ Q rest t' ss → CS X all σ0 σ Q rest t ss
  | [], t, t', ss, hw, ⟨t'', h1, h2⟩ => ⟨t'', h1.trans hw, h2⟩
  | o :: rest, t, t', ss, hw, h => by
    rcases h with ⟨V, h1, h2, h4⟩ | ⟨id, e, f, hs, g1, g2, g3, h4⟩
    · exact .inl ⟨V, h1.wk hw, h2, CS.wk rest _ _ ss hw.put h4⟩
    · exact .inr ⟨id, e, f, hs.wk hw, g1, g2, g3, CS.wk rest _ _ _ hw h4⟩
theorem stepS_sound {X : Cx} {all : Array Oper} {o : Oper} {t : T} {σ0 σ ss : Sg} {rest : List Oper} {Q : T → Sg → Prop} {K : T → Prop} (hK : ∀ t, K t → CS X all σ0 σ Q rest t ss)
    (hg : o.guard = none ∨ ∃ j b d, o.guard = some (j, b) ∧ ((all[j]?).bind (·.dst)) = some d ∧ look d t = some (.d (.v (.bool b)))) (h : stepS X o t σ K) : CS X all σ0 σ Q (o :: rest) t ss := by
  have fin : ∀ V, QJ X o t σ V → (match dOk o.dst X.N with | true => K (putT o.dst V t) | false => False) → CS X all σ0 σ Q (o :: rest) t ss := fun V hq hk => by
    split at hk
    · next hb =>
      rcases hg with hg | ⟨j, b, d, h1, h2, h3⟩
      · exact .inl ⟨V, .inl ⟨hg, hq⟩, hb, hK _ hk⟩
      · exact .inl ⟨V, .inr (.inl ⟨j, b, d, h1, h2, h3, hq⟩), hb, hK _ hk⟩
    · exact hk.elim
  unfold stepS at h
  rcases qw_sound h with ⟨V, hq, hk⟩ | h
  · exact fin V hq hk
  · cases h with
    | of hq hk => exact fin _ hq hk
    | born hb hk => exact hk.elim
theorem stS_sound {X : Cx} {o : Oper} {e : TypeId} {x y : Operand} {t : T} {σ0 σ ss : Sg} {K : Nat → Ent → Prop} (ho : o.op = .store e x y) (hd : o.dst = none) (hg : o.guard = none) (h : stS X e x y t σ0 σ ss K) :
    ∃ id en f, StoreJ X o t id en f ∧ look id σ0 = some en ∧ look id σ = none ∧ look id ss = none ∧ K id f := by
  unfold stS at h
  split at h
  · next n i off v hs hx hy =>
    split at h
    · next cs h1 h2 h3 =>
      split at h
      · next hb =>
        simp only [Bool.and_eq_true, Nat.ble_eq, Nat.beq_eq] at hb
        rw [frcN_eq, setF_eq] at h
        obtain ⟨d, op, ty, pos, aft, g⟩ := o
        simp only at ho hd hg
        subst ho; subst hd; subst hg
        refine ⟨i, _, _, ⟨rfl, rfl, fun t' σ' hop hl => ?_⟩, h1, h2, h3, h⟩
        exact O.store (hop x (by simp [Op.operands]) _ hx) rfl (hop y (by simp [Op.operands]) _ hy) hl hb.1.1.1 hb.1.1.2 (szOf_run hs) hb.1.2 hb.2 rfl ⟨rfl, rfl⟩
      · exact h.elim
    · exact h.elim
  · exact h.elim
theorem vS_sound {X : Cx} {all : Array Oper} {σ0 σ : Sg} {Q : T → Sg → Prop} : ∀ (rest : List Oper) (t : T) (ss : Sg), vS X all σ0 σ Q rest t ss → CS X all σ0 σ Q rest t ss
  | [], t, ss, h => ⟨t, Wk.refl t, h⟩
  | o :: rest, t, ss, h => by
    unfold vS at h
    split at h
    · next e x y ho hd hg =>
      obtain ⟨id, en, f, h1, h2, h3, h4, h5⟩ := stS_sound ho hd hg h
      exact .inr ⟨id, en, f, h1, h2, h3, h4, vS_sound rest t _ h5⟩
    · next hg _ => exact stepS_sound (fun t h => vS_sound rest t ss h) (.inl hg) h
    · next j b0 hg =>
      split at h
      · next d hd hN =>
        have hd' : ((all[j]?).bind (·.dst)) = some d := by rw [dstOf_eq]; exact hd
        split at h
        · next b hb =>
          have yes : ∀ c, b = c → stepS X o ((d, .d (.v (.bool c))) :: t) σ (fun t => vS X all σ0 σ Q rest t ss) → c = b0 → CS X all σ0 σ Q (o :: rest) t ss := fun c hc he hcb => by
            subst hc; subst hcb
            exact CS.wk _ _ _ _ (Wk.cons hb (Wk.refl t)) (stepS_sound (fun t h => vS_sound rest t ss h) (.inr ⟨j, b, d, hg, hd', by rw [look_cons, if_pos rfl]⟩) he)
          have no : ∀ c, b = c → vS X all σ0 σ Q rest (putT o.dst (.tup []) ((d, .d (.v (.bool c))) :: t)) ss → c ≠ b0 → CS X all σ0 σ Q (o :: rest) t ss := fun c hc he hcb => by
            subst hc
            exact CS.wk _ _ _ _ (Wk.cons hb (Wk.refl t)) (.inl ⟨.tup [], .inr (.inr (.inl ⟨j, b0, b, d, hg, hd', by rw [look_cons, if_pos rfl], hcb, rfl⟩)), hN, vS_sound rest _ ss he⟩)
          cases b0 with
          | true => cases b with
            | true => exact yes true rfl (h.1 rfl) rfl
            | false => exact no false rfl (h.2 rfl) (by simp)
          | false => cases b with
            | true => exact no true rfl (h.1 rfl) (by simp)
            | false => exact yes false rfl (h.2 rfl) rfl
        · next hb => exact .inl ⟨.tup [], .inr (.inr (.inr ⟨j, b0, d, hg, hd', hb, rfl⟩)), hN, vS_sound rest _ ss h⟩
        · exact h.elim
      · exact h.elim
/-- **A region that draws its order: quiet operations ahead, and stores into the variables ks, in any order, the rest by all orders.** -/
theorem RegP.mixS {X : Cx} {id : Nat} {ops : Array Oper} {t : T} {σ : Sg} {Q : T → Sg → Prop} (m : Nat) (ks : List Nat) (hm : X.P.follows .mixedOrders = true) (hc : (calmB2 ops m && Nat.ble m ops.size) = true)
    (h : vS X ops σ (hideS ks σ) (fun t ss => vO X ops Q (ops.size - m) (trues m (falses (ops.size - m))) t (ss ++ hideS ks σ)) (ops.toList.take m) t []) : RegP X id ops t σ Q := by
  intro Q' hQ
  simp only [Bool.and_eq_true, Nat.ble_eq] at hc
  refine WJ.calmS m hm (calmB2_R hc.1) hc.2 (hideS_wk ks σ).1 (fun t σ h3 γ H a w lst hst hls hlst => ?_) (vS_sound _ _ _ h)
  have e : lst = (trues m (falses (ops.size - m))).toArray := by
    rw [trues_eq, falses_eq]
    apply Array.ext
    · simp [hls]; omega
    · intro j h1 h2
      have hj := hlst j (by omega)
      rw [Array.getD_eq_getD_getElem?, Array.getElem?_eq_getElem h1, Option.getD_some] at hj
      rw [hj, List.getElem_toArray, List.getElem_append]
      split
      · next h3 => simp at h3; simp [h3]
      · next h3 => simp at h3; simp; omega
  rw [e]
  exact vO_sound (Q := Q) (Q' := Post X Q') (fun γ H t σ a w s q => ⟨γ, H, t, σ, s, hQ t σ q⟩) (ops.size - m) _ t _ h3 γ H a w hst
end Go.Gv
end
section
open Go Go.Gv
attribute [local irreducible] Go.Gv.WJ Go.Gv.OpJ Go.Gv.QJ Go.Gv.Spl Go.Gv.Req Go.Gv.IdxP Go.Gv.RegP Go.Gv.FinP Go.Gv.CellP Go.Gv.CellsP Go.Gv.ArrP Go.Gv.ArrsP Go.Gv.DropP Go.Gv.ByteP Go.Gv.StoreP
set_option maxRecDepth 100000
namespace Go.Proofs.E
attribute [local irreducible] elems
theorem Take_c {s : SS} {l : List OP} (h : isS s l) (R : List OP) {o : OP} (hw : wrongO l o = 0) : Cv 58 [vv s l R, opv o, stv (appS s l o), iv (atO l o)] (.tup [vv (appS s l o) (l ++ [o]) R, chv (chO l o)]) := by
  have hd : Dn (l ++ [o]) := .snoc h.dn hw
  have hs := appS_is h o
  rw [show appL l o = l ++ [o] from if_pos hw] at hs
  have hsm := hs.small
  obtain ⟨n, e, hat, _, hget, hid⟩ := at_get h.dn hw
  have hlen := h.dn.len2
  have hoc := (wrong_0 hw).1
  have hch : chO l o = ⟨((l ++ [o]).length : Nat), rankL (rowE (l ++ [o])) (n : Nat), e.id, e.ch, decide (o.k = 1)⟩ := by
    unfold chO
    rw [hat, Int.toNat_natCast, hget, hid]; rfl
  have hatc := At_c (appS s l o).t (n : Nat) (by omega)
  rw [atT_row hs, hget] at hatc
  have hrk := Rank_c (appS s l o).t (n : Nat) (by omega) (by omega) (by have := (List.getElem?_eq_some_iff.1 hget).1; have := row_le hd; omega)
  rw [hs.els] at hrk
  rw [hat, hch]
  have hwr : IntKind.i64.wrap ((l.length : Nat) + 1) = ((l ++ [o]).length : Nat) := by rw [wrap_id _ (by omega) (by omega)]; simp
  have hput : o.k = 0 → Cv 90 [tlv (sumV l), idv o.i] (.tup [tlv (sumV (l ++ [o])), iv 0]) := fun hk => by
    rw [sumV_snoc0 hk]
    refine PutOk_c (sumV l) o.i (sum_ok h.dn) (checkO_may hoc) ?_
    have h1 := hd.is.len
    rw [insL_snoc0 hk, List.length_append] at h1
    rw [sumV_n]; simp at h1; omega
  have hsame : o.k ≠ 0 → sumV (l ++ [o]) = sumV l := sumV_snoc1
  generalize appS s l o = s' at *
  generalize rankL (rowE (l ++ [o])) (n : Nat) = rk at *
  refine Ct.of_vc Tryz.f58 Tryz.func58 rfl rfl fun w H B g0 => ?_
  refine OpJ.callV hatc (fun _ _ => rfl) rfl rfl rfl ?_
  (repeat (first | refine Spl.t rfl ?_ | refine Spl.f rfl ?_))
  refine Spl.of (fun h1 => ?_) (fun h1 => ?_)
  · have h1 : o.k = 0 := of_decide_eq_true h1
    have hput := hput h1
    rw [show vv s' (l ++ [o]) R = .agg [.d s'.t.d, .d s'.p.d, iv s'.n, .d (.sl 6 (R.map opD)), iv (IntKind.i64.wrap ((l.length : Nat) + 1)), iv (sumV (l ++ [o])).n, cx (sumV (l ++ [o])).a (sumV (l ++ [o])).b, cx (sumV (l ++ [o])).c (sumV (l ++ [o])).d] by rw [hwr], ← hwr]
    generalize sumV (l ++ [o]) = T at hput
    (repeat (first | refine Spl.t rfl ?_ | refine Spl.f rfl ?_))
    refine OpJ.callV hput (fun _ _ => rfl) rfl rfl rfl ?_
    (repeat (first | refine Spl.t rfl ?_ | refine Spl.f rfl ?_))
    refine RegP.mixS 17 [8, 9] rfl (by decide +kernel) ?_
    refine QuietP.of (QJ.call hrk (fun _ _ => rfl) rfl rfl) ?_
    exact FinP.open rfl rfl
  · have h1 := hsame (of_decide_eq_false h1)
    rw [show vv s' (l ++ [o]) R = .agg [.d s'.t.d, .d s'.p.d, iv s'.n, .d (.sl 6 (R.map opD)), iv (IntKind.i64.wrap ((l.length : Nat) + 1)), iv (sumV l).n, cx (sumV l).a (sumV l).b, cx (sumV l).c (sumV l).d] by rw [hwr, ← h1], ← hwr]
    (repeat (first | refine Spl.t rfl ?_ | refine Spl.f rfl ?_))
    refine RegP.mixS 17 [8, 9] rfl (by decide +kernel) ?_
    refine QuietP.of (QJ.call hrk (fun _ _ => rfl) rfl rfl) ?_
    exact FinP.open rfl rfl
end Go.Proofs.E
end
section
open Go Go.Gv
attribute [local irreducible] Go.Gv.WJ Go.Gv.OpJ Go.Gv.QJ Go.Gv.Spl Go.Gv.Req Go.Gv.IdxP Go.Gv.RegP Go.Gv.FinP Go.Gv.CellP Go.Gv.CellsP Go.Gv.ArrP Go.Gv.ArrsP Go.Gv.DropP Go.Gv.ByteP Go.Gv.StoreP
set_option maxRecDepth 100000
namespace Go.Proofs.E
attribute [local irreducible] elems
def outV (out : List CH) (l : List OP) (o : OP) : List CH := if wrongO l o = 0 then out ++ [chO l o] else out
theorem out_row (out : List CH) (c : CH) : out.map chD ++ [chD c] = (out ++ [c]).map chD := by simp
theorem In_c {s : SS} {l : List OP} (h : isS s l) (R : List OP) (o : OP) (out : List CH) (hn : out.length ≤ 900000) :
    Ct tab Tryz.prog 56 [opv o, .box 2 0, .box 8 0] [(2, .cells (vcs s l R)), (8, .cells [.arr 1000 6 out.length]), (1000, .arr 6 (out.map chD))]
      (fun q σ' => q = iv (wrongO l o) ∧ σ' = [(2, .cells (vcs (appS s l o) (appL l o) R)), (8, .cells [.arr 1000 6 (outV out l o).length]), (1000, .arr 6 ((outV out l o).map chD))]) := by
  have hap := Apply_c h o
  refine Ct.of_wv Tryz.f56 Tryz.func56 rfl rfl fun w H B g0 => ?_
  try refine WJ.cut ?_
  (first | refine Sq.go ?_ | refine vL_nil (Sq.go ?_) | skip)
  try refine WJ.cut ?_
  refine OpJ.callV hap (fun _ _ => rfl) rfl rfl rfl ?_
  (first | refine Sq.go ?_ | refine vL_nil (Sq.go ?_) | skip)
  try refine WJ.cut ?_
  refine Spl.of (fun h1 => ?_) (fun h1 => ?_)
  · have h1 : wrongO l o = 0 := of_decide_eq_true h1
    have htk := Take_c h R h1
    have e1 : appL l o = l ++ [o] := if_pos h1
    have e2 : outV out l o = out ++ [chO l o] := if_pos h1
    rw [e1, e2]
    generalize appS s l o = s' at htk ⊢
    generalize chO l o = c at htk ⊢
    generalize l ++ [o] = l' at htk ⊢
    have hrow := out_row out c
    have hlc : (out ++ [c]).length = out.length + 1 := by simp
    rw [hlc, ← hrow]
    (repeat (first | refine Spl.t rfl ?_ | refine Spl.f rfl ?_))
    refine OpJ.callV htk (fun _ _ => rfl) rfl rfl rfl ?_
    refine O.allocN 1008 rfl rfl rfl rfl rfl ?_
    (first | refine Sq.go ?_ | refine vL_nil (Sq.go ?_) | skip)
    try refine WJ.cut ?_
    refine RegP.orders rfl ?_; (repeat' (refine And.intro ?_ ?_))
    all_goals refine Req.of ⟨by rw [List.length_map], by show _ + 1 ≤ _; omega⟩ ?_
    all_goals (repeat' (first | exact trivial | refine And.intro ?_ ?_))
    all_goals ((first | refine Sq.go ?_ | refine vL_nil (Sq.go ?_) | skip))
    all_goals (try refine vc_sound _ _ _ _ ?_)
    all_goals exact FinP.priv [(2, .cells (vcs s' l' R)), (8, .cells [.arr 1000 6 (out.length + 1)]), (1000, .arr 6 (out.map chD ++ [chD c]))] (Wk.cons rfl (Wk.cons rfl (Wk.cons rfl (Wk.nil _)))) rfl ⟨rfl, rfl⟩
  · have h1 : ¬ wrongO l o = 0 := of_decide_eq_false h1
    have e1 : appL l o = l := if_neg h1
    have e2 : outV out l o = out := if_neg h1
    have e3 : appS s l o = s := if_neg h1
    rw [e1, e2, e3]
    (repeat (first | refine Spl.t rfl ?_ | refine Spl.f rfl ?_))
    (first | refine Sq.go ?_ | refine vL_nil (Sq.go ?_) | skip)
    try refine vc_sound _ _ _ _ ?_
    exact FinP.priv [(2, .cells (vcs s l R)), (8, .cells [.arr 1000 6 out.length]), (1000, .arr 6 (out.map chD))] (Wk.cons rfl (Wk.cons rfl (Wk.cons rfl (Wk.nil _)))) rfl ⟨rfl, rfl⟩
end Go.Proofs.E
end
section
open Go Go.Gv
attribute [local irreducible] Go.Gv.WJ Go.Gv.OpJ Go.Gv.QJ Go.Gv.Spl Go.Gv.Req Go.Gv.IdxP Go.Gv.RegP Go.Gv.FinP Go.Gv.CellP Go.Gv.CellsP Go.Gv.ArrP Go.Gv.ArrsP Go.Gv.DropP Go.Gv.ByteP Go.Gv.StoreP
set_option maxRecDepth 100000
namespace Go.Proofs.E
attribute [local irreducible] elems
structure VS where
  s : SS
  l : List OP
  R : List OP
  out : List CH
/-- An operation taken in, if it can be applied. -/
def VS.take (v : VS) (o : OP) : VS := ⟨appS v.s v.l o, appL v.l o, v.R, outV v.out v.l o⟩
def VS.next (v : VS) : VS := VS.take ⟨v.s, v.l, nextR v.l v.R, v.out⟩ (nextO v.l v.R)
def drn : Nat → VS → VS
  | 0, v => v
  | n + 1, v => if nextIx v.l v.R < 0 then v else drn n v.next
def remV (v : VS) (o : OP) : VS := if wrongO v.l o = 0 then drn v.R.length (VS.take ⟨v.s, v.l, v.R, []⟩ o) else if wrongO v.l o = 6 then ⟨v.s, v.l, addR v.R o, []⟩ else ⟨v.s, v.l, v.R, []⟩
def remE (v : VS) (o : OP) : Int := if wrongO v.l o = 6 then addE v.R o else wrongO v.l o
theorem out_len (out : List CH) (l : List OP) (o : OP) : (outV out l o).length ≤ out.length + 1 := by unfold outV; split <;> simp
theorem nextR_lt {l R : List OP} (h : ¬ nextIx l R < 0) : (nextR l R).length + 1 = R.length := by
  have := nextIx_lt l R
  unfold nextR
  rw [if_neg h]; simp; omega
abbrev chs (out : List CH) : D := .sl 6 (out.map chD)
abbrev cellsV (v : VS) : List AV := vcs v.s v.l v.R
theorem Remote_c {s : SS} {l : List OP} (h : isS s l) (R : List OP) (out0 : List CH) (o : OP) (hR : R.length ≤ 100000) :
    Cv 11 [vv s l R, opv o] (.tup [vv (remV ⟨s, l, R, out0⟩ o).s (remV ⟨s, l, R, out0⟩ o).l (remV ⟨s, l, R, out0⟩ o).R, .d (chs (remV ⟨s, l, R, out0⟩ o).out), iv (remE ⟨s, l, R, out0⟩ o)]) := by
  have hin := In_c h R o [] (by simp)
  have hadd := Add_c R o (by omega)
  refine Ct.of_wv Tryz.f11 Tryz.func11 rfl rfl fun w H B g0 => ?_
  try refine WJ.cut ?_
  (first | refine Sq.go ?_ | refine vL_nil (Sq.go ?_) | skip)
  try refine WJ.cut ?_
  (first | refine Sq.go ?_ | refine vL_nil (Sq.go ?_) | skip)
  try refine WJ.cut ?_
  (first | refine Sq.go ?_ | refine vL_nil (Sq.go ?_) | skip)
  refine WJ.shift (SJ.nilCell 1000 8 0 6 rfl rfl rfl) ?_
  try refine WJ.cut ?_
  (first | refine Sq.go ?_ | refine vL_nil (Sq.go ?_) | skip)
  try refine WJ.cut ?_
  refine OpJ.callT rfl (FnIs.fnp _ _) hin (fun _ _ => rfl) rfl rfl (Wk.cons rfl (Wk.cons rfl (Wk.cons rfl (Wk.nil _)))) ?_
  rintro q σ' ⟨rfl, rfl⟩
  refine ⟨rfl, ?_⟩
  (first | refine Sq.go ?_ | refine vL_nil (Sq.go ?_) | skip)
  try refine WJ.cut ?_
  refine Spl.of (fun h1 => ?_) (fun h1 => ?_)
  · have h1 : wrongO l o = 0 := of_decide_eq_true h1
    have eR : remV ⟨s, l, R, out0⟩ o = drn R.length (VS.take ⟨s, l, R, []⟩ o) := if_pos h1
    have eE : remE ⟨s, l, R, out0⟩ o = 0 := by unfold remE; rw [h1]; rfl
    have hs := appS_is h o
    have ho := out_len [] l o
    rw [eR, eE]
    (repeat (first | refine Spl.t rfl ?_ | refine Spl.f rfl ?_))
    (first | refine Sq.go ?_ | refine vL_nil (Sq.go ?_) | skip)
    try refine vc_sound _ _ _ _ ?_
    refine WJ.loopK (V := VS) (fun v => []) (fun v => [(2, .cells (cellsV v)), (8, .cells [.arr 1000 6 v.out.length]), (1000, .arr 6 (v.out.map chD))]) [2, 8, 1000] (fun v => v.R.length) (fun v => isS v.s v.l ∧ v.out.length + v.R.length ≤ 100001 ∧ drn v.R.length v = drn R.length (VS.take ⟨s, l, R, []⟩ o)) (VS.take ⟨s, l, R, []⟩ o) ⟨hs, by simp only [VS.take]; simp at ho; omega, rfl⟩ (by repeat' (first | exact trivial | exact rfl | refine And.intro ?_ ?_)) (by repeat' (first | exact trivial | exact rfl | refine And.intro ?_ ?_)) ?_
    rintro ⟨s1, l1, R1, out1⟩ ⟨h2, h3, h4⟩
    simp only at h2 h3 h4
    have hnx := Next_c h2 R1 (by omega)
    have hin1 := In_c h2 (nextR l1 R1) (nextO l1 R1) out1 (by omega)
    (repeat (first | refine Spl.t rfl ?_ | refine Spl.f rfl ?_))
    refine OpJ.callV hnx (fun _ _ => rfl) rfl rfl rfl ?_
    (repeat (first | refine Spl.t rfl ?_ | refine Spl.f rfl ?_))
    refine Spl.of (fun h5 => ?_) (fun h5 => ?_)
    · have h5 : nextIx l1 R1 < 0 := by simpa using h5
      have e5 : drn R1.length ⟨s1, l1, R1, out1⟩ = ⟨s1, l1, R1, out1⟩ := by
        cases R1.length with
        | zero => rfl
        | succ n => rw [drn, if_pos h5]
      rw [← h4, e5]
      have hpl : out1.length ≤ (out1.map chD).length := by rw [List.length_map]; exact Nat.le_refl _
      (repeat (first | refine Spl.t rfl ?_ | refine Spl.f rfl ?_))
      refine RegP.mixS 5 [4] rfl (by decide +kernel) ?_
      refine FinP.pubTup 1000 1 rfl rfl hpl (by show out1.length ≤ _; omega) (FinP.open rfl ?_)
      exact congrArg (fun r => AV.tup [vv s1 l1 R1, .d (.sl 6 r), iv 0]) (List.take_of_length_le (Nat.le_of_eq (List.length_map ..)))
    · have h5 : ¬ nextIx l1 R1 < 0 := by simpa using h5
      have hlt := nextR_lt h5
      have ho1 := out_len out1 l1 (nextO l1 R1)
      have e5 : drn (nextR l1 R1).length (VS.next ⟨s1, l1, R1, out1⟩) = drn R.length (VS.take ⟨s, l, R, []⟩ o) := by
        rw [← h4, ← hlt, drn, if_neg h5]
      have hs1 := appS_is h2 (nextO l1 R1)
      (repeat (first | refine Spl.t rfl ?_ | refine Spl.f rfl ?_))
      refine OpJ.callT rfl (FnIs.fnp _ _) hin1 (fun _ _ => rfl) rfl rfl (Wk.cons rfl (Wk.cons rfl (Wk.cons rfl (Wk.nil _)))) ?_
      rintro q σ' ⟨rfl, rfl⟩
      refine ⟨rfl, ?_⟩
      (repeat (first | refine Spl.t rfl ?_ | refine Spl.f rfl ?_))
      exact ⟨VS.next ⟨s1, l1, R1, out1⟩, ⟨hs1, by simp only [VS.next, VS.take]; omega, e5⟩, by simp only [VS.next, VS.take]; omega, (by repeat' (first | exact trivial | exact rfl | refine And.intro ?_ ?_)), (by repeat' (first | exact trivial | exact rfl | refine And.intro ?_ ?_)), (by repeat' (first | exact trivial | exact rfl | refine And.intro ?_ ?_)), (by repeat' (first | exact trivial | exact rfl | refine And.intro ?_ ?_))⟩
  · have h1 : ¬ wrongO l o = 0 := of_decide_eq_false h1
    have e1 : appL l o = l := if_neg h1
    have e2 : outV [] l o = [] := if_neg h1
    have e3 : appS s l o = s := if_neg h1
    rw [e1, e2, e3]
    (repeat (first | refine Spl.t rfl ?_ | refine Spl.f rfl ?_))
    refine Spl.of (fun h2 => ?_) (fun h2 => ?_)
    · have h2 : wrongO l o = 6 := of_decide_eq_true h2
      have eR : remV ⟨s, l, R, out0⟩ o = ⟨s, l, addR R o, []⟩ := (if_neg h1).trans (if_pos h2)
      have eE : remE ⟨s, l, R, out0⟩ o = addE R o := if_pos h2
      rw [eR, eE]
      (repeat (first | refine Spl.t rfl ?_ | refine Spl.f rfl ?_))
      refine OpJ.callV hadd (fun _ _ => rfl) rfl rfl rfl ?_
      (repeat (first | refine Spl.t rfl ?_ | refine Spl.f rfl ?_))
      refine Spl.of (fun h3 => ?_) (fun h3 => ?_)
      · have h3 : ¬ addE R o = 0 := by simpa using h3
        have e4 : addR R o = R := if_neg h3
        rw [e4]
        (repeat (first | refine Spl.t rfl ?_ | refine Spl.f rfl ?_))
        refine .out (by simp) ?_
        refine FinP.viewTup 1 rfl (fun _ _ _ h => nil_sl 6 h) ?_
        exact FinP.open rfl rfl
      · have h3 : addE R o = 0 := by simpa using h3
        rw [h3]
        (repeat (first | refine Spl.t rfl ?_ | refine Spl.f rfl ?_))
        refine .out (by simp) ?_
        refine FinP.viewTup 1 rfl (fun _ _ _ h => nil_sl 6 h) ?_
        exact FinP.open rfl rfl
    · have h2 : ¬ wrongO l o = 6 := of_decide_eq_false h2
      have eR : remV ⟨s, l, R, out0⟩ o = ⟨s, l, R, []⟩ := (if_neg h1).trans (if_neg h2)
      have eE : remE ⟨s, l, R, out0⟩ o = wrongO l o := if_neg h2
      rw [eR, eE]
      (repeat (first | refine Spl.t rfl ?_ | refine Spl.f rfl ?_))
      refine .out (by simp) ?_
      refine FinP.viewTup 1 rfl (fun _ _ _ h => nil_sl 6 h) ?_
      exact FinP.open rfl rfl
end Go.Proofs.E
end
section
open Go Go.Gv
attribute [local irreducible] Go.Gv.WJ Go.Gv.OpJ Go.Gv.QJ Go.Gv.Spl Go.Gv.Req Go.Gv.IdxP Go.Gv.RegP Go.Gv.FinP Go.Gv.CellP Go.Gv.CellsP Go.Gv.ArrP Go.Gv.ArrsP Go.Gv.DropP Go.Gv.ByteP Go.Gv.StoreP
set_option maxRecDepth 100000
namespace Go.Proofs.E
attribute [local irreducible] elems
end Go.Proofs.E
end
section
open Go Go.Gv
attribute [local irreducible] Go.Gv.WJ Go.Gv.OpJ Go.Gv.QJ Go.Gv.Spl Go.Gv.Req Go.Gv.IdxP Go.Gv.RegP Go.Gv.FinP Go.Gv.CellP Go.Gv.CellsP Go.Gv.ArrP Go.Gv.ArrsP Go.Gv.DropP Go.Gv.ByteP Go.Gv.StoreP
set_option maxRecDepth 100000
namespace Go.Proofs.E
attribute [local irreducible] elems
def VS.same (v : VS) : VS := ⟨v.s, v.l, v.R, []⟩
def opI (v : VS) (site at_ ch : Int) : OP := ⟨0, ⟨cntV v.l v.R, site⟩, nameL (rowE v.l) (at_ - 1), ch⟩
def opX (v : VS) (at_ : Int) : OP := ⟨1, nameL (rowE v.l) at_, ⟨0, 0⟩, 0⟩
def doT (v : VS) (o : OP) : VS × OP × Int := if remE v o ≠ 0 then (v.same, OP0, remE v o) else (remV v o, o, 0)
def insVT (v : VS) (site at_ ch : Int) : VS × OP × Int :=
  if site < 1 ∨ site > 1000 ∨ at_ < 0 ∨ at_ > liveL (rowE v.l) then (v.same, OP0, 2)
  else if ch < 32 ∨ ch > 1114111 ∨ 55296 ≤ ch ∧ ch ≤ 57343 then (v.same, OP0, 1)
  else if 4096 ≤ (rowE v.l).length ∨ cntV v.l v.R > 1048576 then (v.same, OP0, 7)
  else doT v (opI v site at_ ch)
def delVT (v : VS) (at_ : Int) : VS × OP × Int := if 0 ≤ at_ ∧ at_ < liveL (rowE v.l) then doT v (opX v at_) else (v.same, OP0, 2)
def resT (p : VS × OP × Int) : AV := .tup [vv p.1.s p.1.l p.1.R, opv p.2.1, .d (chs p.1.out), iv p.2.2]
def prb (ch : Int) : OP := ⟨0, ⟨1, 1⟩, ⟨0, 0⟩, ch⟩
theorem prb_check (ch : Int) : checkO (prb ch) = if ch < 32 ∨ ch > 1114111 ∨ 55296 ≤ ch ∧ ch ≤ 57343 then 1 else 0 := by
  have h1 : mayI ⟨1, 1⟩ = true := by decide
  have h2 : noneI ⟨0, 0⟩ = true := by decide
  unfold checkO prb
  simp only [h1, h2]
  simp
theorem VDelete_c {s : SS} {l : List OP} (h : isS s l) (R : List OP) (hR : R.length ≤ 100000) (at_ : Int) :
    Cv 13 [vv s l R, iv at_] (resT (delVT ⟨s, l, R, []⟩ at_)) := by
  have hn := VNamed_c h R at_
  have hr := Remote_c h R [] (opX ⟨s, l, R, []⟩ at_) hR
  by_cases hk : 0 ≤ at_ ∧ at_ < liveL (rowE l)
  · have eD : delVT ⟨s, l, R, []⟩ at_ = doT ⟨s, l, R, []⟩ (opX ⟨s, l, R, []⟩ at_) := if_pos hk
    rw [eD]
    rw [decide_eq_true hk] at hn
    unfold opX at hr ⊢
    simp only at hr ⊢
    generalize nameL (rowE l) at_ = a at hn hr ⊢
    have e1 : remE ⟨s, l, R, []⟩ ⟨1, a, ⟨0, 0⟩, 0⟩ ≠ 0 → doT ⟨s, l, R, []⟩ ⟨1, a, ⟨0, 0⟩, 0⟩ = (⟨s, l, R, []⟩, OP0, remE ⟨s, l, R, []⟩ ⟨1, a, ⟨0, 0⟩, 0⟩) := fun h => if_pos h
    have e2 : remE ⟨s, l, R, []⟩ ⟨1, a, ⟨0, 0⟩, 0⟩ = 0 → doT ⟨s, l, R, []⟩ ⟨1, a, ⟨0, 0⟩, 0⟩ = (remV ⟨s, l, R, []⟩ ⟨1, a, ⟨0, 0⟩, 0⟩, ⟨1, a, ⟨0, 0⟩, 0⟩, 0) := fun h => if_neg (fun e => e h)
    generalize remE ⟨s, l, R, []⟩ ⟨1, a, ⟨0, 0⟩, 0⟩ = e at hr e1 e2
    generalize remV ⟨s, l, R, []⟩ ⟨1, a, ⟨0, 0⟩, 0⟩ = v' at hr e2
    generalize doT ⟨s, l, R, []⟩ ⟨1, a, ⟨0, 0⟩, 0⟩ = p at e1 e2 ⊢
    refine Ct.of_vc Tryz.f13 Tryz.func13 rfl rfl fun w H B g0 => ?_
    refine OpJ.callV hn (fun _ _ => rfl) rfl rfl rfl ?_
    (repeat (first | refine Spl.t rfl ?_ | refine Spl.f rfl ?_))
    refine OpJ.callV hr (fun _ _ => rfl) rfl rfl rfl ?_
    (repeat (first | refine Spl.t rfl ?_ | refine Spl.f rfl ?_))
    refine Spl.of (fun h1 => ?_) (fun h1 => ?_)
    · have h1 : e ≠ 0 := by simpa using h1
      rw [e1 h1]
      (repeat (first | refine Spl.t rfl ?_ | refine Spl.f rfl ?_))
      refine FinP.viewTup 2 rfl (fun _ _ _ h => nil_sl 6 h) ?_
      exact FinP.open rfl rfl
    · have h1 : e = 0 := by simpa using h1
      rw [e2 h1]
      (repeat (first | refine Spl.t rfl ?_ | refine Spl.f rfl ?_))
      refine RegP.mixS 7 [4, 5] rfl (by decide +kernel) ?_
      exact FinP.open rfl rfl
  · have eD : delVT ⟨s, l, R, []⟩ at_ = (⟨s, l, R, []⟩, OP0, 2) := if_neg hk
    rw [eD]
    rw [decide_eq_false hk] at hn
    refine Ct.of_vc Tryz.f13 Tryz.func13 rfl rfl fun w H B g0 => ?_
    refine OpJ.callV hn (fun _ _ => rfl) rfl rfl rfl ?_
    (repeat (first | refine Spl.t rfl ?_ | refine Spl.f rfl ?_))
    refine FinP.viewTup 2 rfl (fun _ _ _ h => nil_sl 6 h) ?_
    exact FinP.open rfl rfl
theorem ins_no1 {v : VS} {site at_ ch : Int} (h : site < 1 ∨ site > 1000 ∨ at_ < 0 ∨ at_ > liveL (rowE v.l)) : insVT v site at_ ch = (v.same, OP0, 2) := if_pos h
theorem live_le (L : List EL) : liveL L ≤ L.length := List.length_filter_le _ _
set_option maxHeartbeats 1000000 in
theorem VInsert_c {s : SS} {l : List OP} (h : isS s l) (R : List OP) (hR : R.length ≤ 100000) (hok : ∀ o, o ∈ R → checkO o = 0) (site at_ ch : Int) :
    Cv 12 [vv s l R, iv site, iv at_, cv' ch] (resT (insVT ⟨s, l, R, []⟩ site at_ ch)) := by
  have hlen := VLen_c h R
  have hck := Check5_c (prb ch)
  rw [prb_check] at hck
  have hct := VCounter_c h (by omega) hok
  have hts := TLen_c s.t
  rw [h.size, ← row_len h.dn] at hts
  have hlr := row_le h.dn
  have hlv := live_le (rowE l)
  have n1 := fun h => ins_no1 (v := ⟨s, l, R, []⟩) (site := site) (at_ := at_) (ch := ch) h
  refine Ct.of_wv Tryz.f12 Tryz.func12 rfl rfl fun w H B g0 => ?_
  try refine WJ.cut ?_
  (first | refine Sq.go ?_ | refine vL_nil (Sq.go ?_) | skip)
  try refine WJ.cut ?_
  refine Spl.of (fun a1 => ?_) (fun a1 => ?_)
  · rw [n1 (.inl (of_decide_eq_true a1))]
    ((repeat (first | refine Spl.t rfl ?_ | refine Spl.f rfl ?_)); refine .out (by simp) ?_; refine FinP.viewTup 2 rfl (fun _ _ _ h => nil_sl 6 h) ?_; exact FinP.open rfl rfl)
  have a1 := of_decide_eq_false a1
  (repeat (first | refine Spl.t rfl ?_ | refine Spl.f rfl ?_))
  refine Spl.of (fun a2 => ?_) (fun a2 => ?_)
  · rw [n1 (.inr (.inl (of_decide_eq_true a2)))]
    ((repeat (first | refine Spl.t rfl ?_ | refine Spl.f rfl ?_)); refine .out (by simp) ?_; refine FinP.viewTup 2 rfl (fun _ _ _ h => nil_sl 6 h) ?_; exact FinP.open rfl rfl)
  have a2 := of_decide_eq_false a2
  (repeat (first | refine Spl.t rfl ?_ | refine Spl.f rfl ?_))
  refine Spl.of (fun a3 => ?_) (fun a3 => ?_)
  · rw [n1 (.inr (.inr (.inl (of_decide_eq_true a3))))]
    ((repeat (first | refine Spl.t rfl ?_ | refine Spl.f rfl ?_)); refine .out (by simp) ?_; refine FinP.viewTup 2 rfl (fun _ _ _ h => nil_sl 6 h) ?_; exact FinP.open rfl rfl)
  have a3 := of_decide_eq_false a3
  (repeat (first | refine Spl.t rfl ?_ | refine Spl.f rfl ?_))
  refine OpJ.callV hlen (fun _ _ => rfl) rfl rfl rfl ?_
  (repeat (first | refine Spl.t rfl ?_ | refine Spl.f rfl ?_))
  refine Spl.of (fun a4 => ?_) (fun a4 => ?_)
  · rw [n1 (.inr (.inr (.inr (of_decide_eq_true a4))))]
    ((repeat (first | refine Spl.t rfl ?_ | refine Spl.f rfl ?_)); refine .out (by simp) ?_; refine FinP.viewTup 2 rfl (fun _ _ _ h => nil_sl 6 h) ?_; exact FinP.open rfl rfl)
  have a4 := of_decide_eq_false a4
  have g1 : ¬ (site < 1 ∨ site > 1000 ∨ at_ < 0 ∨ at_ > liveL (rowE l)) := by omega
  (repeat (first | refine Spl.t rfl ?_ | refine Spl.f rfl ?_))
  (first | refine Sq.go ?_ | refine vL_nil (Sq.go ?_) | skip)
  try refine WJ.cut ?_
  (first | refine Sq.go ?_ | refine vL_nil (Sq.go ?_) | skip)
  try refine WJ.cut ?_
  refine OpJ.callV hck (fun _ _ => rfl) rfl rfl rfl ?_
  (repeat (first | refine Spl.t rfl ?_ | refine Spl.f rfl ?_))
  by_cases c1 : ch < 32 ∨ ch > 1114111 ∨ 55296 ≤ ch ∧ ch ≤ 57343
  · have e : insVT ⟨s, l, R, []⟩ site at_ ch = (⟨s, l, R, []⟩, OP0, 1) := (if_neg g1).trans (if_pos c1)
    rw [e]
    refine Spl.t (by rw [if_pos c1]; rfl) ?_
    ((repeat (first | refine Spl.t rfl ?_ | refine Spl.f rfl ?_)); refine .out (by simp) ?_; refine FinP.viewTup 2 rfl (fun _ _ _ h => nil_sl 6 h) ?_; exact FinP.open rfl rfl)
  refine Spl.f (by rw [if_neg c1]; rfl) ?_
  (repeat (first | refine Spl.t rfl ?_ | refine Spl.f rfl ?_))
  refine OpJ.callV hts (fun _ _ => rfl) rfl rfl rfl ?_
  (repeat (first | refine Spl.t rfl ?_ | refine Spl.f rfl ?_))
  by_cases c2 : 4096 ≤ (rowE l).length
  · have e : insVT ⟨s, l, R, []⟩ site at_ ch = (⟨s, l, R, []⟩, OP0, 7) := (if_neg g1).trans ((if_neg c1).trans (if_pos (.inl c2)))
    rw [e]
    refine Spl.t (decide_eq_true (by omega)) ?_
    ((repeat (first | refine Spl.t rfl ?_ | refine Spl.f rfl ?_)); refine .out (by simp) ?_; refine FinP.viewTup 2 rfl (fun _ _ _ h => nil_sl 6 h) ?_; exact FinP.open rfl rfl)
  refine Spl.f (decide_eq_false (by omega)) ?_
  (repeat (first | refine Spl.t rfl ?_ | refine Spl.f rfl ?_))
  refine OpJ.callV hct (fun _ _ => rfl) rfl rfl rfl ?_
  (repeat (first | refine Spl.t rfl ?_ | refine Spl.f rfl ?_))
  refine Spl.of (fun c3 => ?_) (fun c3 => ?_)
  · have e : insVT ⟨s, l, R, []⟩ site at_ ch = (⟨s, l, R, []⟩, OP0, 7) := (if_neg g1).trans ((if_neg c1).trans (if_pos (.inr (of_decide_eq_true c3))))
    rw [e]
    ((repeat (first | refine Spl.t rfl ?_ | refine Spl.f rfl ?_)); refine .out (by simp) ?_; refine FinP.viewTup 2 rfl (fun _ _ _ h => nil_sl 6 h) ?_; exact FinP.open rfl rfl)
  have c3 := of_decide_eq_false c3
  have e : insVT ⟨s, l, R, []⟩ site at_ ch = doT ⟨s, l, R, []⟩ (opI ⟨s, l, R, []⟩ site at_ ch) := (if_neg g1).trans ((if_neg c1).trans (if_neg (fun h => by rcases h with h | h; exact c2 h; exact c3 h)))
  rw [e]
  have hw : IntKind.i64.wrap (at_ - 1) = at_ - 1 := wrap_id _ (by omega) (by omega)
  have hn := VNamed_c h R (IntKind.i64.wrap (at_ - 1))
  have hr := Remote_c h R [] (opI ⟨s, l, R, []⟩ site at_ ch) hR
  unfold opI at hr ⊢
  simp only at hr ⊢
  rw [← hw] at hr ⊢
  generalize nameL (rowE l) (IntKind.i64.wrap (at_ - 1)) = a at hn hr ⊢
  generalize cntV l R = c at hct hr ⊢
  have e1 : remE ⟨s, l, R, []⟩ ⟨0, ⟨c, site⟩, a, ch⟩ ≠ 0 → doT ⟨s, l, R, []⟩ ⟨0, ⟨c, site⟩, a, ch⟩ = (⟨s, l, R, []⟩, OP0, remE ⟨s, l, R, []⟩ ⟨0, ⟨c, site⟩, a, ch⟩) := fun h => if_pos h
  have e2 : remE ⟨s, l, R, []⟩ ⟨0, ⟨c, site⟩, a, ch⟩ = 0 → doT ⟨s, l, R, []⟩ ⟨0, ⟨c, site⟩, a, ch⟩ = (remV ⟨s, l, R, []⟩ ⟨0, ⟨c, site⟩, a, ch⟩, ⟨0, ⟨c, site⟩, a, ch⟩, 0) := fun h => if_neg (fun e => e h)
  generalize remE ⟨s, l, R, []⟩ ⟨0, ⟨c, site⟩, a, ch⟩ = er at hr e1 e2
  generalize remV ⟨s, l, R, []⟩ ⟨0, ⟨c, site⟩, a, ch⟩ = v' at hr e2
  generalize doT ⟨s, l, R, []⟩ ⟨0, ⟨c, site⟩, a, ch⟩ = p at e1 e2 ⊢
  (repeat (first | refine Spl.t rfl ?_ | refine Spl.f rfl ?_))
  (first | refine Sq.go ?_ | refine vL_nil (Sq.go ?_) | skip)
  try refine WJ.cut ?_
  refine OpJ.callV hct (fun _ _ => rfl) rfl rfl rfl ?_
  (repeat (first | refine Spl.t rfl ?_ | refine Spl.f rfl ?_))
  (first | refine Sq.go ?_ | refine vL_nil (Sq.go ?_) | skip)
  try refine WJ.cut ?_
  refine OpJ.callV hn (fun _ _ => rfl) rfl rfl rfl ?_
  (repeat (first | refine Spl.t rfl ?_ | refine Spl.f rfl ?_))
  (first | refine Sq.go ?_ | refine vL_nil (Sq.go ?_) | skip)
  try refine WJ.cut ?_
  refine OpJ.callV hr (fun _ _ => rfl) rfl rfl rfl ?_
  (repeat (first | refine Spl.t rfl ?_ | refine Spl.f rfl ?_))
  (first | refine Sq.go ?_ | refine vL_nil (Sq.go ?_) | skip)
  try refine WJ.cut ?_
  refine Spl.of (fun h1 => ?_) (fun h1 => ?_)
  · have h1 : er ≠ 0 := by simpa using h1
    rw [e1 h1]
    ((repeat (first | refine Spl.t rfl ?_ | refine Spl.f rfl ?_)); refine .out (by simp) ?_; refine FinP.viewTup 2 rfl (fun _ _ _ h => nil_sl 6 h) ?_; exact FinP.open rfl rfl)
  · have h1 : er = 0 := by simpa using h1
    rw [e2 h1]
    (repeat (first | refine Spl.t rfl ?_ | refine Spl.f rfl ?_))
    (first | refine Sq.go ?_ | refine vL_nil (Sq.go ?_) | skip)
    try refine vc_sound _ _ _ _ ?_
    refine RegP.mixS 7 [8, 9] rfl (by decide +kernel) ?_
    exact FinP.open rfl rfl
end Go.Proofs.E
end
section
open Go Go.Gv
attribute [local irreducible] Go.Gv.WJ Go.Gv.OpJ Go.Gv.QJ Go.Gv.Spl Go.Gv.Req Go.Gv.IdxP Go.Gv.RegP Go.Gv.FinP Go.Gv.CellP Go.Gv.CellsP Go.Gv.ArrP Go.Gv.ArrsP Go.Gv.DropP Go.Gv.ByteP Go.Gv.StoreP
set_option maxRecDepth 100000
namespace Go.Proofs.E
attribute [local irreducible] elems
end Go.Proofs.E
end
section
open Go Go.Gv
attribute [local irreducible] Go.Gv.WJ Go.Gv.OpJ Go.Gv.QJ Go.Gv.Spl Go.Gv.Req Go.Gv.IdxP Go.Gv.RegP Go.Gv.FinP Go.Gv.CellP Go.Gv.CellsP Go.Gv.ArrP Go.Gv.ArrsP Go.Gv.DropP Go.Gv.ByteP Go.Gv.StoreP
set_option maxRecDepth 100000
namespace Go.Proofs.E
attribute [local irreducible] elems
end Go.Proofs.E
end
section
open Go Go.Gv
attribute [local irreducible] Go.Gv.WJ Go.Gv.OpJ Go.Gv.QJ Go.Gv.Spl Go.Gv.Req Go.Gv.IdxP Go.Gv.RegP Go.Gv.FinP Go.Gv.CellP Go.Gv.CellsP Go.Gv.ArrP Go.Gv.ArrsP Go.Gv.DropP Go.Gv.ByteP Go.Gv.StoreP
set_option maxRecDepth 100000
namespace Go.Proofs.E
attribute [local irreducible] elems
/-- What a version keeps to. -/
structure okV (v : VS) : Prop where
  is : isS v.s v.l
  ck : ∀ o, o ∈ v.R → checkO o = 0
  len : v.R.length ≤ 16
theorem okV.same {v : VS} (h : okV v) : okV v.same := ⟨h.is, h.ck, h.len⟩
theorem okV.take {v : VS} (h : okV v) (o : OP) : okV (v.take o) := ⟨appS_is h.is o, h.ck, h.len⟩
theorem next_mem {l R : List OP} : ∀ x, x ∈ nextR l R → x ∈ R := fun x hx => by
  unfold nextR at hx
  split at hx
  · exact hx
  · rcases List.mem_append.1 hx with h | h
    · exact List.mem_of_mem_take h
    · exact List.mem_of_mem_drop h
theorem nextR_le (l R : List OP) : (nextR l R).length ≤ R.length := by
  unfold nextR; split
  · exact Nat.le_refl _
  · simp; omega
theorem okV.next {v : VS} (h : okV v) : okV v.next := okV.take (v := ⟨v.s, v.l, nextR v.l v.R, v.out⟩) ⟨h.is, fun o ho => h.ck o (next_mem o ho), Nat.le_trans (nextR_le _ _) h.len⟩ _
theorem okV.drn : ∀ (n : Nat) {v : VS}, okV v → okV (drn n v)
  | 0, _, h => h
  | n + 1, v, h => by
    rw [E.drn]
    split
    · exact h
    · exact okV.drn n h.next
theorem drn_out : ∀ (n : Nat) (v : VS), (drn n v).out.length ≤ v.out.length + n
  | 0, _ => Nat.le_refl _
  | n + 1, v => by
    rw [drn]
    split
    · omega
    · have h1 := drn_out n v.next
      have h2 := out_len v.out v.l (nextO v.l v.R)
      have h3 : v.next.out = outV v.out v.l (nextO v.l v.R) := rfl
      rw [h3] at h1; omega
theorem addE_0 {R : List OP} {o : OP} (h : addE R o = 0) : checkO o = 0 ∧ R.length < 16 := by
  unfold addE at h
  split at h
  · next h1 => exact absurd h h1
  · next h1 =>
    split at h
    · cases h
    · split at h
      · cases h
      · split at h
        · cases h
        · exact ⟨by simpa using h1, by omega⟩
theorem okV.rem {v : VS} (h : okV v) (o : OP) : okV (remV v o) := by
  unfold remV
  split
  · exact okV.drn _ (okV.take h.same o)
  · split
    · refine ⟨h.is, fun x hx => ?_, ?_⟩
      · simp only at hx
        unfold addR at hx
        split at hx
        · next h0 =>
          rcases List.mem_append.1 hx with hx | hx
          · exact h.ck x hx
          · rw [List.mem_singleton.1 hx]; exact (addE_0 h0).1
        · exact h.ck x hx
      · simp only
        unfold addR
        split
        · next h0 => have := (addE_0 h0).2; simp; omega
        · exact h.len
    · exact h.same
theorem rem_out {v : VS} (h : okV v) (o : OP) : (remV v o).out.length ≤ 17 := by
  have hl := h.len
  unfold remV
  split
  · have h1 := drn_out v.R.length (VS.take ⟨v.s, v.l, v.R, []⟩ o)
    have h2 := out_len [] v.l o
    have h3 : (VS.take ⟨v.s, v.l, v.R, []⟩ o).out = outV [] v.l o := rfl
    rw [h3] at h1
    simp at h2; omega
  · split <;> simp
theorem okV.doT {v : VS} (h : okV v) (o : OP) : okV (doT v o).1 ∧ (doT v o).1.out.length ≤ 17 := by
  unfold E.doT
  split
  · exact ⟨h.same, by simp [VS.same]⟩
  · exact ⟨h.rem o, rem_out h o⟩
theorem okV.ins {v : VS} (h : okV v) (site at_ ch : Int) : okV (insVT v site at_ ch).1 ∧ (insVT v site at_ ch).1.out.length ≤ 17 := by
  have h0 : okV v.same ∧ v.same.out.length ≤ 17 := ⟨h.same, by simp [VS.same]⟩
  unfold insVT
  split
  · exact h0
  · split
    · exact h0
    · split
      · exact h0
      · exact h.doT _
theorem okV.del {v : VS} (h : okV v) (at_ : Int) : okV (delVT v at_).1 ∧ (delVT v at_).1.out.length ≤ 17 := by
  unfold delVT
  split
  · exact h.doT _
  · exact ⟨h.same, by simp [VS.same]⟩
end Go.Proofs.E
end
section
open Go Go.Gv
attribute [local irreducible] Go.Gv.WJ Go.Gv.OpJ Go.Gv.QJ Go.Gv.Spl Go.Gv.Req Go.Gv.IdxP Go.Gv.RegP Go.Gv.FinP Go.Gv.CellP Go.Gv.CellsP Go.Gv.ArrP Go.Gv.ArrsP Go.Gv.DropP Go.Gv.ByteP Go.Gv.StoreP
set_option maxRecDepth 100000
namespace Go.Proofs.E
attribute [local irreducible] elems
theorem nilRoom {γ : Ids} {H : HF} {u : Value} (r : Rep γ H (.agg [.d (.v (.slice none 0 0))]) u) : Rep γ H (rmv []) u := rep_agg_set (j := 0) r rfl fun _ h => nil_sl 6 h
theorem AddN_c (o : OP) : Cv 59 [.agg [.d (.v (.slice none 0 0))], opv o] (.tup [rmv (addR [] o), iv (addE [] o)]) := by
  refine Ct.view (Add_c [] o (by decide)) rfl fun j a b ha hb γ H u r => ?_
  match j, ha, hb with
  | 0, ha, hb => cases ha; cases hb; exact nilRoom r
  | 1, ha, hb => cases ha; cases hb; exact r
def aw7 : OP := ⟨0, ⟨2, 1⟩, ⟨1, 1⟩, 98⟩
theorem Awake7_c : Cv 55 [] (bv true) := by
  have hadd := AddN_c aw7
  rw [show addR [] aw7 = [aw7] by decide +kernel, show addE [] aw7 = 0 by decide +kernel] at hadd
  have hnx := Next_c isS_nil [aw7] (by decide)
  rw [show nextR [] [aw7] = [aw7] by decide +kernel, show nextO [] [aw7] = OP0 by decide +kernel, show decide (0 ≤ nextIx [] [aw7]) = false by decide +kernel] at hnx
  have hln := RLen_c [aw7]
  have htp := Top_c [aw7] (by decide)
  rw [show topR [aw7] = 2 by decide +kernel] at htp
  refine Ct.of_wv Tryz.f55 Tryz.func55 rfl rfl fun w H B g0 => ?_
  try refine WJ.cut ?_
  (first | refine Sq.go ?_ | refine vL_nil (Sq.go ?_) | skip)
  try refine WJ.cut ?_
  refine OpJ.callV hadd (fun _ _ => rfl) rfl rfl rfl ?_
  (first | refine Sq.go ?_ | refine vL_nil (Sq.go ?_) | skip)
  try refine WJ.cut ?_
  refine OpJ.callV hnx (fun _ _ => rfl) rfl rfl rfl ?_
  (first | refine Sq.go ?_ | refine vL_nil (Sq.go ?_) | skip)
  try refine WJ.cut ?_
  refine OpJ.callV Awake6_c (fun _ _ => rfl) rfl rfl rfl ?_
  (repeat (first | refine Spl.t rfl ?_ | refine Spl.f rfl ?_))
  refine OpJ.callV hln (fun _ _ => rfl) rfl rfl rfl ?_
  (repeat (first | refine Spl.t rfl ?_ | refine Spl.f rfl ?_))
  refine OpJ.callV htp (fun _ _ => rfl) rfl rfl rfl ?_
  (repeat (first | refine Spl.t rfl ?_ | refine Spl.f rfl ?_))
  (first | refine Sq.go ?_ | refine vL_nil (Sq.go ?_) | skip)
  try refine vc_sound _ _ _ _ ?_
  exact FinP.open rfl rfl
end Go.Proofs.E
end
section
open Go Go.Gv
attribute [local irreducible] Go.Gv.WJ Go.Gv.OpJ Go.Gv.QJ Go.Gv.Spl Go.Gv.Req Go.Gv.IdxP Go.Gv.RegP Go.Gv.FinP Go.Gv.CellP Go.Gv.CellsP Go.Gv.ArrP Go.Gv.ArrsP Go.Gv.DropP Go.Gv.ByteP Go.Gv.StoreP
set_option maxRecDepth 100000
namespace Go.Proofs.E
attribute [local irreducible] elems
theorem nilV {γ : Ids} {H : HF} {u : Value} {t p : D} {n m k : Int} {z1 z2 : AV} (r : Rep γ H (.agg [.d t, .d p, iv n, .d (.v (.slice none 0 0)), iv m, iv k, z1, z2]) u) : Rep γ H (.agg [.d t, .d p, iv n, .d (.sl 6 []), iv m, iv k, z1, z2]) u := rep_agg_set (j := 3) r rfl fun _ h => nil_sl 6 h
/-- The zero version, as it lies. -/
abbrev vvN : AV := .agg [.d TR.nil.d, .d PT.nil.d, iv 0, .d (.v (.slice none 0 0)), iv 0, iv 0, cx 0 0, cx 0 0]
def vA0 : VS := ⟨⟨.nil, .nil, 0⟩, [], [], []⟩
theorem okA0 : okV vA0 := ⟨isS_nil, fun _ h => by simp [vA0] at h, by simp [vA0]⟩
def pA1 : VS × OP × Int := insVT vA0 1 0 97
def vA1 : VS := ⟨pA1.1.s, pA1.1.l, pA1.1.R, []⟩
def pA2 : VS × OP × Int := insVT vA1 1 1 98
def vA2 : VS := ⟨pA2.1.s, pA2.1.l, pA2.1.R, []⟩
def pA3 : VS × OP × Int := delVT vA2 0
theorem okV.out {v : VS} (h : okV v) : okV ⟨v.s, v.l, v.R, []⟩ := ⟨h.is, h.ck, h.len⟩
theorem okA1 : okV vA1 := (okA0.ins 1 0 97).1.out
theorem okA2 : okV vA2 := (okA1.ins 1 1 98).1.out
theorem okA3 : okV pA3.1 := (okA2.del 0).1
theorem InsN_c (site at_ ch : Int) : Cv 12 [vvN, iv site, iv at_, cv' ch] (resT (insVT vA0 site at_ ch)) := by
  refine Ct.view (VInsert_c (s := vA0.s) (l := vA0.l) okA0.is vA0.R (by decide) okA0.ck site at_ ch) rfl fun j a b ha hb γ H u r => ?_
  match j, ha, hb with
  | 0, ha, hb => cases ha; cases hb; exact nilV r
  | 1, ha, hb => cases ha; cases hb; exact r
  | 2, ha, hb => cases ha; cases hb; exact r
  | 3, ha, hb => cases ha; cases hb; exact r
theorem aw_l : byt (txtZ (rowE pA3.1.l)) = [98] := by decide +kernel
theorem aw_n : pA3.1.l.length = 3 := by decide +kernel
theorem aw_e : pA3.2.2 = 0 := by decide +kernel
theorem aw_out : pA3.1.out = [⟨3, 0, ⟨1, 1⟩, 97, true⟩] := by decide +kernel
theorem Awake8_c : Cv 10 [] (bv true) := by
  have h1 := InsN_c 1 0 97
  have h2 := VInsert_c okA1.is vA1.R (by have := okA1.len; omega) okA1.ck 1 1 98
  have h3 := VDelete_c okA2.is vA2.R (by have := okA2.len; omega) 0
  have tx := VText_c okA3.is pA3.1.R
  have sq := VSeq_c pA3.1.s pA3.1.l pA3.1.R
  rw [aw_l] at tx
  rw [aw_n] at sq
  have e1 : insVT vA0 1 0 97 = pA1 := rfl
  have e2 : insVT ⟨vA1.s, vA1.l, vA1.R, []⟩ 1 1 98 = pA2 := rfl
  have e3 : delVT ⟨vA2.s, vA2.l, vA2.R, []⟩ 0 = pA3 := rfl
  rw [e1] at h1
  rw [e2] at h2
  rw [e3] at h3
  have d1 : vA1 = ⟨pA1.1.s, pA1.1.l, pA1.1.R, []⟩ := rfl
  have d2 : vA2 = ⟨pA2.1.s, pA2.1.l, pA2.1.R, []⟩ := rfl
  rw [d1] at h2
  rw [d2] at h3
  have ho := aw_out
  have he := aw_e
  generalize pA3 = p3 at h3 tx sq ho he
  generalize pA2 = p2 at h2 h3
  generalize pA1 = p1 at h1 h2
  obtain ⟨v3, o3, e3'⟩ := p3
  obtain ⟨v2, o2, e2'⟩ := p2
  obtain ⟨v1, o1, e1'⟩ := p1
  unfold resT at h1 h2 h3
  simp only at h1 h2 h3 tx sq ho he
  rw [ho, he] at h3
  refine Ct.of_wv Tryz.f10 Tryz.func10 rfl rfl fun w H B g0 => ?_
  try refine WJ.cut ?_
  (first | refine Sq.go ?_ | refine vL_nil (Sq.go ?_) | skip)
  try refine WJ.cut ?_
  refine OpJ.callV h1 (fun _ _ => rfl) rfl rfl rfl ?_
  (repeat (first | refine Spl.t rfl ?_ | refine Spl.f rfl ?_))
  (first | refine Sq.go ?_ | refine vL_nil (Sq.go ?_) | skip)
  try refine WJ.cut ?_
  refine OpJ.callV h2 (fun _ _ => rfl) rfl rfl rfl ?_
  (repeat (first | refine Spl.t rfl ?_ | refine Spl.f rfl ?_))
  (first | refine Sq.go ?_ | refine vL_nil (Sq.go ?_) | skip)
  try refine WJ.cut ?_
  refine OpJ.callV h3 (fun _ _ => rfl) rfl rfl rfl ?_
  (repeat (first | refine Spl.t rfl ?_ | refine Spl.f rfl ?_))
  (first | refine Sq.go ?_ | refine vL_nil (Sq.go ?_) | skip)
  try refine vc_sound _ _ _ _ ?_
  refine OpJ.callV Awake2_c (fun _ _ => rfl) rfl rfl rfl ?_
  (repeat (first | refine Spl.t rfl ?_ | refine Spl.f rfl ?_))
  refine OpJ.callV Awake7_c (fun _ _ => rfl) rfl rfl rfl ?_
  (repeat (first | refine Spl.t rfl ?_ | refine Spl.f rfl ?_))
  refine OpJ.callV tx (fun _ _ => rfl) rfl rfl rfl ?_
  (repeat (first | refine Spl.t rfl ?_ | refine Spl.f rfl ?_))
  (try refine Spl.t (by decide) ?_)
  (repeat (first | refine Spl.t rfl ?_ | refine Spl.f rfl ?_))
  refine OpJ.callV sq (fun _ _ => rfl) rfl rfl rfl ?_
  (repeat (first | refine Spl.t rfl ?_ | refine Spl.f rfl ?_))
  (try refine Spl.t (by decide) ?_)
  (repeat (first | refine Spl.t rfl ?_ | refine Spl.f rfl ?_))
  refine IdxP.of (chD ⟨3, 0, ⟨1, 1⟩, 97, true⟩) (by decide) rfl ?_
  (repeat (first | refine Spl.t rfl ?_ | refine Spl.f rfl ?_))
  refine IdxP.of (chD ⟨3, 0, ⟨1, 1⟩, 97, true⟩) (by decide) rfl ?_
  (repeat (first | refine Spl.t rfl ?_ | refine Spl.f rfl ?_))
  exact FinP.open rfl rfl
end Go.Proofs.E
end
section
open Go Go.Gv
attribute [local irreducible] Go.Gv.WJ Go.Gv.OpJ Go.Gv.QJ Go.Gv.Spl Go.Gv.Req Go.Gv.IdxP Go.Gv.RegP Go.Gv.FinP Go.Gv.CellP Go.Gv.CellsP Go.Gv.ArrP Go.Gv.ArrsP Go.Gv.DropP Go.Gv.ByteP Go.Gv.StoreP
set_option maxRecDepth 100000
namespace Go.Proofs.E
attribute [local irreducible] elems
end Go.Proofs.E
end
section
open Go Go.Gv
attribute [local irreducible] Go.Gv.WJ Go.Gv.OpJ Go.Gv.QJ Go.Gv.Spl Go.Gv.Req Go.Gv.IdxP Go.Gv.RegP Go.Gv.FinP Go.Gv.CellP Go.Gv.CellsP Go.Gv.ArrP Go.Gv.ArrsP Go.Gv.DropP Go.Gv.ByteP Go.Gv.StoreP
set_option maxRecDepth 100000
namespace Go.Proofs.E
attribute [local irreducible] elems
def curAt (L : List EL) (k : Int) : ID × Int := if k = liveL L then (⟨0, 0⟩, 0) else if 0 ≤ k ∧ k < liveL L then (nameL L k, 0) else (⟨0, 0⟩, 2)
def resC (L : List EL) (a : ID) : Int × Int := if noneI a = true then (liveL L, 0) else if 0 ≤ placeL a L then (rankL L (placeL a L), 0) else (0, 6)
theorem CAt_c {s : SS} {l : List OP} (h : isS s l) (R : List OP) (k : Int) : Cv 28 [vv s l R, iv k] (.tup [idv (curAt (rowE l) k).1, iv (curAt (rowE l) k).2]) := by
  have hlen := VLen_c h R
  have hn := VNamed_c h R k
  refine Ct.of_vc Tryz.f28 Tryz.func28 rfl rfl fun w H B g0 => ?_
  refine OpJ.callV hlen (fun _ _ => rfl) rfl rfl rfl ?_
  refine Spl.of (fun h1 => ?_) (fun h1 => ?_)
  · have h1 := of_decide_eq_true h1
    have e : curAt (rowE l) k = (⟨0, 0⟩, 0) := if_pos h1
    rw [e]
    (repeat (first | refine Spl.t rfl ?_ | refine Spl.f rfl ?_))
    exact FinP.open rfl rfl
  · have h1 := of_decide_eq_false h1
    by_cases h2 : 0 ≤ k ∧ k < liveL (rowE l)
    · have e : curAt (rowE l) k = (nameL (rowE l) k, 0) := (if_neg h1).trans (if_pos h2)
      rw [decide_eq_true h2] at hn
      rw [e]
      (repeat (first | refine Spl.t rfl ?_ | refine Spl.f rfl ?_))
      refine OpJ.callV hn (fun _ _ => rfl) rfl rfl rfl ?_
      (repeat (first | refine Spl.t rfl ?_ | refine Spl.f rfl ?_))
      exact FinP.open rfl rfl
    · have e : curAt (rowE l) k = (⟨0, 0⟩, 2) := (if_neg h1).trans (if_neg h2)
      rw [decide_eq_false h2] at hn
      rw [e]
      (repeat (first | refine Spl.t rfl ?_ | refine Spl.f rfl ?_))
      refine OpJ.callV hn (fun _ _ => rfl) rfl rfl rfl ?_
      (repeat (first | refine Spl.t rfl ?_ | refine Spl.f rfl ?_))
      exact FinP.open rfl rfl
theorem CResolve_c {s : SS} {l : List OP} (h : isS s l) (R : List OP) (a : ID) : Cv 29 [idv a, vv s l R] (.tup [iv (resC (rowE l) a).1, iv (resC (rowE l) a).2]) := by
  have hlen := VLen_c h R
  have hb := VBefore_c h R a
  refine Ct.of_vc Tryz.f29 Tryz.func29 rfl rfl fun w H B g0 => ?_
  refine OpJ.callV (None_c a) (fun _ _ => rfl) rfl rfl rfl ?_
  refine Spl.of (fun h1 => ?_) (fun h1 => ?_)
  · have e : resC (rowE l) a = (((liveL (rowE l) : Nat) : Int), 0) := if_pos h1
    rw [e]
    (repeat (first | refine Spl.t rfl ?_ | refine Spl.f rfl ?_))
    refine OpJ.callV hlen (fun _ _ => rfl) rfl rfl rfl ?_
    exact FinP.open rfl rfl
  · by_cases h2 : 0 ≤ placeL a (rowE l)
    · have e : resC (rowE l) a = (((rankL (rowE l) (placeL a (rowE l)) : Nat) : Int), 0) := (if_neg (by rw [h1]; exact Bool.false_ne_true)).trans (if_pos h2)
      rw [decide_eq_true h2, show beforeL (rowE l) a = rankL (rowE l) (placeL a (rowE l)) from if_pos h2] at hb
      rw [e]
      (repeat (first | refine Spl.t rfl ?_ | refine Spl.f rfl ?_))
      refine OpJ.callV hb (fun _ _ => rfl) rfl rfl rfl ?_
      (repeat (first | refine Spl.t rfl ?_ | refine Spl.f rfl ?_))
      exact FinP.open rfl rfl
    · have e : resC (rowE l) a = (0, 6) := (if_neg (by rw [h1]; exact Bool.false_ne_true)).trans (if_neg h2)
      rw [decide_eq_false h2] at hb
      rw [e]
      (repeat (first | refine Spl.t rfl ?_ | refine Spl.f rfl ?_))
      refine OpJ.callV hb (fun _ _ => rfl) rfl rfl rfl ?_
      (repeat (first | refine Spl.t rfl ?_ | refine Spl.f rfl ?_))
      exact FinP.open rfl rfl
end Go.Proofs.E
end
section
open Go Go.Gv
attribute [local irreducible] Go.Gv.WJ Go.Gv.OpJ Go.Gv.QJ Go.Gv.Spl Go.Gv.Req Go.Gv.IdxP Go.Gv.RegP Go.Gv.FinP Go.Gv.CellP Go.Gv.CellsP Go.Gv.ArrP Go.Gv.ArrsP Go.Gv.DropP Go.Gv.ByteP Go.Gv.StoreP
set_option maxRecDepth 100000
namespace Go.Proofs.E
attribute [local irreducible] elems
end Go.Proofs.E
end
section
namespace Go.Gv
open Go.RowKit
def TStep (X : Cx) (all : Array Oper) (o : Oper) (t : T) (σ : Sg) (V : AV) (E : Option (Nat × Ent)) (F : Option (Nat × Ent × Ent)) : Prop :=
  (E = none ∧ F = none ∧ OStep X all o t σ V) ∨ (∃ id e, E = some (id, e) ∧ F = none ∧ o.guard = none ∧ BirthJ X o t σ id V e) ∨ (∃ id e f, E = none ∧ F = some (id, e, f) ∧ StoreJ X o t id e f)
abbrev Bs := List (Nat × Nat × Ent)
def bsS (bs : Bs) : Sg := bs.map fun p => p.2
/-- The region's operations, in their order; k: the number of the next. -/
def CT (X : Cx) (all : Array Oper) (σ0 σ : Sg) (Q : T → Sg → Prop) : List Oper → Nat → T → Bs → Sg → Prop
  | [], _, t, bs, ss => ∃ t', Wk t' t ∧ Q t' (ss ++ bsS bs)
  | o :: rest, k, t, bs, ss =>
    (∃ V, OStep X all o t σ V ∧ dOk o.dst X.N = true ∧ (∀ p, p ∈ bs → has2 p.2.1 V = false) ∧ CT X all σ0 σ Q rest (k + 1) (putT o.dst V t) bs ss) ∨
    (∃ id V e, o.dst = some id ∧ o.guard = none ∧ BirthJ X o t σ id V e ∧ dOk (some id) X.N = true ∧ isFresh id t (ss ++ (bsS bs ++ σ0)) X.pin = true ∧
      (∀ p, p ∈ bs → entHas p.2.1 e = false ∧ has2 p.2.1 V = false) ∧ CT X all σ0 σ Q rest (k + 1) ((id, V) :: t) ((k, id, e) :: bs) ss) ∨
    (∃ x e f, StoreJ X o t x e f ∧ look x σ = none ∧ look x ss = none ∧ ((look x σ0 = some e ∧ ∀ p, p ∈ bs → p.2.1 ≠ x) ∨ (∃ b, (b, x, e) ∈ bs ∧ edge o b = true)) ∧
      (∀ p, p ∈ bs → edge o p.1 = true ∨ (x ≠ p.2.1 ∧ entHas p.2.1 f = false)) ∧ CT X all σ0 σ Q rest (k + 1) t bs ((x, f) :: ss))
structure TTab (X : Cx) (all : Array Oper) (σ0 σ : Sg) (Q : T → Sg → Prop) (n k : Nat) (t : T) (bs : Bs) (ss : Sg) (V : Nat → AV) (E : Nat → Option (Nat × Ent)) (F : Nat → Option (Nat × Ent × Ent)) : Prop where
  step : ∀ j o, j < n → all[k + j]? = some o → TStep X all o (statesFrom all V t k j) σ (V (k + j)) (E (k + j)) (F (k + j)) ∧ dOk o.dst X.N = true
  fin : ∃ t', Wk t' (statesFrom all V t k n) ∧ Q t' (sFrom F k ss n ++ bornFrom E k (bsS bs) n)
  fresh : ∀ j id e, j < n → E (k + j) = some (id, e) → isFresh id t (ss ++ (bsS bs ++ σ0)) X.pin = true
  ev : ∀ j j' x id e, j < n → j' < n → j' ≠ j → E (k + j) = some (id, e) → dstAt all (k + j') = some x → has2 id (V (k + j')) = false
  ee : ∀ j j' id e id' e', j < n → j' < n → j' ≠ j → E (k + j) = some (id, e) → E (k + j') = some (id', e') → id' ≠ id ∧ entHas id e' = false
  ef : ∀ j j' id e x e' f, j < n → j' < n → E (k + j) = some (id, e) → F (k + j') = some (x, e', f) → (∀ o, all[k + j']? = some o → edge o (k + j) = true) ∨ (x ≠ id ∧ entHas id f = false)
  old : ∀ j x e f, j < n → F (k + j) = some (x, e, f) → look x σ = none ∧ look x ss = none ∧
    ((look x σ0 = some e ∧ (∀ p, p ∈ bs → p.2.1 ≠ x) ∧ ∀ j' id e', j' < n → E (k + j') = some (id, e') → id ≠ x) ∨ (∃ b, (b, x, e) ∈ bs ∧ ∀ o, all[k + j]? = some o → edge o b = true) ∨ (∃ j', j' < n ∧ E (k + j') = some (x, e) ∧ ∀ o, all[k + j]? = some o → edge o (k + j') = true))
  ff : ∀ i j x e f e' f', i < n → j < n → F (k + i) = some (x, e, f) → F (k + j) = some (x, e', f') → i = j
  bv : ∀ p, p ∈ bs → ∀ j, j < n → (∀ x, dstAt all (k + j) = some x → has2 p.2.1 (V (k + j)) = false) ∧ (∀ id e, E (k + j) = some (id, e) → id ≠ p.2.1 ∧ entHas p.2.1 e = false) ∧
    ∀ x e f, F (k + j) = some (x, e, f) → (∀ o, all[k + j]? = some o → edge o p.1 = true) ∨ (x ≠ p.2.1 ∧ entHas p.2.1 f = false)
def consE (k : Nat) : Option (Nat × Ent) → Bs → Bs
  | some q, bs => (k, q) :: bs
  | none, bs => bs
theorem bsS_cons (k : Nat) (E0 : Option (Nat × Ent)) (bs : Bs) : bsS (consE k E0 bs) = consO E0 (bsS bs) := by cases E0 <;> rfl
theorem fresh_app {id : Nat} {t : T} {a b : Sg} {pin : List Nat} (h : isFresh id t (a ++ b) pin = true) : isFresh id t a pin = true ∧ isFresh id t b pin = true := by
  simp only [isFresh, Bool.and_eq_true, List.all_append] at h ⊢
  exact ⟨⟨⟨h.1.1, h.1.2.1⟩, h.2⟩, ⟨⟨h.1.1, h.1.2.2⟩, h.2⟩⟩
theorem fresh_mem {id : Nat} {t : T} {σ : Sg} {pin : List Nat} (h : isFresh id t σ pin = true) {p : Nat × Ent} (hp : p ∈ σ) : p.1 ≠ id ∧ entHas id p.2 = false := by
  simp only [isFresh, Bool.and_eq_true, List.all_eq_true] at h
  have := h.1.2 p hp
  simp only [Bool.and_eq_true, Bool.not_eq_true'] at this
  exact ⟨fun e => by rw [e] at this; simp at this, this.2⟩
theorem fresh_less {id : Nat} {t : T} {σ σ' : Sg} {pin : List Nat} (h : isFresh id t σ pin = true) (hs : ∀ p, p ∈ σ' → p ∈ σ) : isFresh id t σ' pin = true := by
  simp only [isFresh, Bool.and_eq_true, List.all_eq_true] at h ⊢
  exact ⟨⟨h.1.1, fun p hp => h.1.2 p (hs p hp)⟩, h.2⟩
theorem CT.table {X : Cx} {all : Array Oper} {σ0 σ : Sg} {Q : T → Sg → Prop} : ∀ (rest : List Oper) (k : Nat) (t : T) (bs : Bs) (ss : Sg), (∀ j, j < rest.length → all[k + j]? = rest[j]?) → CT X all σ0 σ Q rest k t bs ss → ∃ V E F, TTab X all σ0 σ Q rest.length k t bs ss V E F
  | [], k, t, bs, ss, _, h => ⟨fun _ => .junk, fun _ => none, fun _ => none, ⟨fun j o hj => by simp at hj, h, fun j id e hj => by simp at hj, fun j j' x id e hj => by simp at hj, fun j j' id e id' e' hj => by simp at hj, fun j j' id e x e' f hj => by simp at hj, fun j x e f hj => by simp at hj, fun i j x e f e' f' hi => by simp at hi, fun p _ j hj => by simp at hj⟩⟩
  | p :: rest, k, t, bs, ss, ha, h => by
    have hk : all[k]? = some p := by simpa using ha 0 (by simp)
    have hdk : dstAt all k = p.dst := by simp [dstAt, hk]
    have ha' : ∀ j, j < rest.length → all[k + 1 + j]? = rest[j]? := fun j hj => by have := ha (j + 1) (by simp; omega); rw [show k + 1 + j = k + (j + 1) from by omega]; simpa using this
    have hne : ∀ j, k + (j + 1) ≠ k := fun j => by omega
    have hadd : ∀ j, k + (j + 1) = k + 1 + j := fun j => by omega
    have key : ∀ (V0 : AV) (E0 : Option (Nat × Ent)) (F0 : Option (Nat × Ent × Ent)), TStep X all p t σ V0 E0 F0 → dOk p.dst X.N = true → CT X all σ0 σ Q rest (k + 1) (putT p.dst V0 t) (consE k E0 bs) (consF F0 ss) →
        (∀ id e, E0 = some (id, e) → isFresh id t (ss ++ (bsS bs ++ σ0)) X.pin = true) →
        (∀ x e f, F0 = some (x, e, f) → E0 = none ∧ look x σ = none ∧ look x ss = none ∧ ((look x σ0 = some e ∧ ∀ q, q ∈ bs → q.2.1 ≠ x) ∨ (∃ b, (b, x, e) ∈ bs ∧ edge p b = true))) →
        (∀ q, q ∈ bs → (∀ x, p.dst = some x → has2 q.2.1 V0 = false) ∧ (∀ id e, E0 = some (id, e) → id ≠ q.2.1 ∧ entHas q.2.1 e = false) ∧ ∀ x e f, F0 = some (x, e, f) → edge p q.1 = true ∨ (x ≠ q.2.1 ∧ entHas q.2.1 f = false)) →
        ∃ V E F, TTab X all σ0 σ Q (p :: rest).length k t bs ss V E F := by
      intro V0 E0 F0 hB hdok h4 hE0 hF0 hbs
      obtain ⟨V', E', F', tb⟩ := CT.table rest (k + 1) _ _ _ ha' h4
      obtain ⟨i1, ⟨t', i2, i3⟩, i4, i5, i6, i7, i8, i9, i10⟩ := tb
      have hV : ∀ j, statesFrom all (fun i => if i = k then V0 else V' i) t k (j + 1) = statesFrom all V' (putT p.dst V0 t) (k + 1) j := fun j => by
        rw [statesFrom_succ, hdk]
        simp only [if_true]
        exact statesFrom_congr j fun i h7 h8 => if_neg (by omega)
      have hFF : ∀ j, sFrom (fun i => if i = k then F0 else F' i) k ss (j + 1) = sFrom F' (k + 1) (consF F0 ss) j := fun j => by
        rw [sFrom_succ]
        simp only [if_true]
        exact sFrom_congr (F := fun i => if i = k then F0 else F' i) (F' := F') j fun i h7 h8 => if_neg (by omega)
      have hEE : ∀ j, bornFrom (fun i => if i = k then E0 else E' i) k (bsS bs) (j + 1) = bornFrom E' (k + 1) (bsS (consE k E0 bs)) j := fun j => by
        rw [bornFrom_succ, bsS_cons]
        simp only [if_true]
        exact bornFrom_congr (E := fun i => if i = k then E0 else E' i) (E' := E') j fun i h7 h8 => if_neg (by omega)
      -- the head's birth is a member of what is born behind it
      have memE : ∀ q, E0 = some q → (k, q) ∈ consE k E0 bs := fun q e => by rw [e]; simp [consE]
      have memB : ∀ q, q ∈ bs → q ∈ consE k E0 bs := fun q hq => by cases E0 <;> simp [consE, hq]
      have freshL : ∀ id, isFresh id (putT p.dst V0 t) (consF F0 ss ++ (bsS (consE k E0 bs) ++ σ0)) X.pin = true → isFresh id t (ss ++ (bsS bs ++ σ0)) X.pin = true ∧ (∀ x, p.dst = some x → has2 id V0 = false) ∧ (∀ id' e', E0 = some (id', e') → id' ≠ id ∧ entHas id e' = false) ∧ ∀ x e f, F0 = some (x, e, f) → x ≠ id ∧ entHas id f = false := by
        intro id hf
        obtain ⟨g1, g2⟩ := fresh_putT hf
        refine ⟨fresh_less g1 fun q hq => ?_, g2, fun id' e' h => ?_, fun x e f h => ?_⟩
        · rcases List.mem_append.1 hq with h | h
          · exact List.mem_append.2 (.inl (by cases F0 with | none => exact h | some r => exact List.mem_cons.2 (.inr h)))
          · rcases List.mem_append.1 h with h | h
            · refine List.mem_append.2 (.inr (List.mem_append.2 (.inl ?_)))
              rw [bsS_cons]; cases E0 with | none => exact h | some r => exact List.mem_cons.2 (.inr h)
            · exact List.mem_append.2 (.inr (List.mem_append.2 (.inr h)))
        · exact fresh_mem g1 (p := (id', e')) (List.mem_append.2 (.inr (List.mem_append.2 (.inl (by rw [bsS_cons, h]; simp [consO])))))
        · exact fresh_mem g1 (p := (x, f)) (List.mem_append.2 (.inl (by rw [h]; simp [consF])))
      refine ⟨fun i => if i = k then V0 else V' i, fun i => if i = k then E0 else E' i, fun i => if i = k then F0 else F' i, ?_, ⟨t', by rw [List.length_cons, hV]; exact i2, by rw [List.length_cons, hFF, hEE]; exact i3⟩, ?_, ?_, ?_, ?_, ?_, ?_, ?_⟩
      · intro j o hj ho
        cases j with
        | zero =>
          rw [Nat.add_zero, hk] at ho
          simp only [Option.some.injEq] at ho
          subst ho
          simp only [Nat.add_zero, if_true, statesFrom]
          exact ⟨hB, hdok⟩
        | succ j =>
          rw [hV]
          simp only [if_neg (hne j)]
          have := i1 j o (by simpa using hj) (by rw [← hadd j]; exact ho)
          rw [hadd j]; exact this
      · intro j id e hj hE
        cases j with
        | zero => simp only [Nat.add_zero, if_true] at hE; exact hE0 id e hE
        | succ j =>
          simp only [if_neg (hne j)] at hE; rw [hadd j] at hE
          exact (freshL id (i4 j id e (by simpa using hj) hE)).1
      · intro j j' x id e hj hj' hjj hE hx
        cases j with
        | zero =>
          simp only [Nat.add_zero, if_true] at hE
          cases j' with
          | zero => exact absurd rfl hjj
          | succ j' =>
            simp only [if_neg (hne j')] at hx ⊢; rw [hadd j'] at hx ⊢
            exact (i10 _ (memE _ hE) j' (by simpa using hj')).1 x hx
        | succ j =>
          simp only [if_neg (hne j)] at hE; rw [hadd j] at hE
          cases j' with
          | zero =>
            simp only [Nat.add_zero, if_true] at hx ⊢
            exact (freshL id (i4 j id e (by simpa using hj) hE)).2.1 x (by rw [← hdk]; exact hx)
          | succ j' =>
            simp only [if_neg (hne j')] at hx ⊢; rw [hadd j'] at hx ⊢
            exact i5 j j' x id e (by simpa using hj) (by simpa using hj') (by omega) hE hx
      · intro j j' id e id' e' hj hj' hjj hE hE'
        cases j with
        | zero =>
          simp only [Nat.add_zero, if_true] at hE
          cases j' with
          | zero => exact absurd rfl hjj
          | succ j' =>
            simp only [if_neg (hne j')] at hE'; rw [hadd j'] at hE'
            exact (i10 _ (memE _ hE) j' (by simpa using hj')).2.1 id' e' hE'
        | succ j =>
          simp only [if_neg (hne j)] at hE; rw [hadd j] at hE
          cases j' with
          | zero =>
            simp only [Nat.add_zero, if_true] at hE'
            exact (freshL id (i4 j id e (by simpa using hj) hE)).2.2.1 id' e' hE'
          | succ j' =>
            simp only [if_neg (hne j')] at hE'; rw [hadd j'] at hE'
            exact i6 j j' id e id' e' (by simpa using hj) (by simpa using hj') (by omega) hE hE'
      · intro j j' id e x e' f hj hj' hE hF
        cases j with
        | zero =>
          simp only [Nat.add_zero, if_true] at hE
          cases j' with
          | zero =>
            simp only [Nat.add_zero, if_true] at hF
            have := (hF0 x e' f hF).1
            rw [hE] at this; cases this
          | succ j' =>
            simp only [if_neg (hne j')] at hF; rw [hadd j'] at hF
            have := (i10 _ (memE _ hE) j' (by simpa using hj')).2.2 x e' f hF
            rw [hadd j']; exact this
        | succ j =>
          simp only [if_neg (hne j)] at hE; rw [hadd j] at hE
          cases j' with
          | zero =>
            simp only [Nat.add_zero, if_true] at hF
            exact .inr ((freshL id (i4 j id e (by simpa using hj) hE)).2.2.2 x e' f hF)
          | succ j' =>
            simp only [if_neg (hne j')] at hF; rw [hadd j'] at hF
            rw [hadd j, hadd j']
            exact i7 j j' id e x e' f (by simpa using hj) (by simpa using hj') hE hF
      · intro j x e f hj hF
        cases j with
        | zero =>
          simp only [Nat.add_zero, if_true] at hF
          obtain ⟨g0, g1, g2, g3⟩ := hF0 x e f hF
          refine ⟨g1, g2, ?_⟩
          rcases g3 with ⟨g4, g5⟩ | ⟨b, g4, g5⟩
          · refine .inl ⟨g4, g5, fun j' id e' hj' hE => ?_⟩
            cases j' with
            | zero => simp only [Nat.add_zero, if_true] at hE; rw [g0] at hE; cases hE
            | succ j' =>
              simp only [if_neg (hne j')] at hE; rw [hadd j'] at hE
              exact fun e => ((freshL id (i4 j' id e' (by simpa using hj') hE)).2.2.2 _ _ _ hF).1 e.symm
          · exact .inr (.inl ⟨b, g4, fun o ho => by rw [Nat.add_zero, hk] at ho; cases ho; exact g5⟩)
        | succ j =>
          simp only [if_neg (hne j)] at hF; rw [hadd j] at hF
          obtain ⟨g1, g2, g3⟩ := i8 j x e f (by simpa using hj) hF
          refine ⟨g1, ?_, ?_⟩
          · cases F0 with
            | none => exact g2
            | some q =>
              obtain ⟨y, e0, f0⟩ := q
              simp only [consF] at g2
              rw [look_cons] at g2
              split at g2
              · cases g2
              · exact g2
          · rcases g3 with ⟨g4, g5, g6⟩ | ⟨b, g4, g5⟩ | ⟨j', g4, g5, g6⟩
            · refine .inl ⟨g4, fun q hq => g5 q (memB q hq), fun j' id e' hj' hE => ?_⟩
              cases j' with
              | zero => simp only [Nat.add_zero, if_true] at hE; exact g5 _ (memE _ hE)
              | succ j' =>
                simp only [if_neg (hne j')] at hE; rw [hadd j'] at hE
                exact g6 j' id e' (by simpa using hj') hE
            · cases hE : E0 with
              | none => rw [hE] at g4; exact .inr (.inl ⟨b, g4, fun o ho => g5 o (by rw [← hadd j]; exact ho)⟩)
              | some q =>
                rw [hE] at g4
                rcases List.mem_cons.1 g4 with h | h
                · obtain ⟨y, e1⟩ := q
                  simp only [Prod.mk.injEq] at h
                  obtain ⟨rfl, rfl, rfl⟩ := h
                  exact .inr (.inr ⟨0, by simp, by simp [hE], fun o ho => g5 o (by rw [← hadd j]; exact ho)⟩)
                · exact .inr (.inl ⟨b, h, fun o ho => g5 o (by rw [← hadd j]; exact ho)⟩)
            · refine .inr (.inr ⟨j' + 1, by simp; omega, ?_, fun o ho => ?_⟩)
              · simp only [if_neg (hne j')]; rw [hadd j']; exact g5
              · rw [hadd j']; exact g6 o (by rw [← hadd j]; exact ho)
      · have cross : ∀ j x e f e' f', j < rest.length → F0 = some (x, e, f) → F' (k + 1 + j) = some (x, e', f') → False := fun j x e f e' f' hj h1 h2 => by
          obtain ⟨_, g3, _⟩ := i8 j x e' f' hj h2
          rw [h1] at g3
          simp only [consF] at g3
          rw [look_cons, if_pos rfl] at g3; cases g3
        intro i j x e f e' f' hi hj h1 h2
        cases i with
        | zero =>
          simp only [Nat.add_zero, if_true] at h1
          cases j with
          | zero => rfl
          | succ j =>
            simp only [if_neg (hne j)] at h2; rw [hadd j] at h2
            exact (cross j x e f e' f' (by simpa using hj) h1 h2).elim
        | succ i =>
          simp only [if_neg (hne i)] at h1; rw [hadd i] at h1
          cases j with
          | zero =>
            simp only [Nat.add_zero, if_true] at h2
            exact (cross i x e' f' e f (by simpa using hi) h2 h1).elim
          | succ j =>
            simp only [if_neg (hne j)] at h2; rw [hadd j] at h2
            rw [i9 i j x e f e' f' (by simpa using hi) (by simpa using hj) h1 h2]
      · intro q hq j hj
        cases j with
        | zero =>
          simp only [Nat.add_zero, if_true]
          obtain ⟨g1, g2, g3⟩ := hbs q hq
          refine ⟨fun x hx => g1 x (by rw [← hdk]; exact hx), g2, fun x e f hF => ?_⟩
          rcases g3 x e f hF with h | h
          · exact .inl fun o ho => by rw [hk] at ho; cases ho; exact h
          · exact .inr h
        | succ j =>
          simp only [if_neg (hne j)]; rw [hadd j]
          exact i10 q (memB q hq) j (by simpa using hj)
    rcases h with ⟨V0, h1, h2, h3, h4⟩ | ⟨id0, V0, e0, hd, hg, hnj, hN, hf, hb, h4⟩ | ⟨x0, e0, f0, hs, g1, g2, g3, g4, h4⟩
    · exact key V0 none none (.inl ⟨rfl, rfl, h1⟩) h2 h4 (fun id e h => by cases h) (fun x e f h => by cases h) fun q hq => ⟨fun x _ => h3 q hq, fun id e h => (by cases h), fun x e f h => (by cases h)⟩
    · refine key V0 (some (id0, e0)) none (.inr (.inl ⟨id0, e0, rfl, rfl, hg, hnj⟩)) (by rw [hd]; exact hN) (by rw [hd]; exact h4) (fun id e h => by cases h; exact hf) (fun x e f h => by cases h) fun q hq => ⟨fun x _ => (hb q hq).2, fun id e h => ?_, fun x e f h => by cases h⟩
      cases h
      have := fresh_mem (fresh_app (fresh_app hf).2).1 (p := q.2) (List.mem_map.2 ⟨q, hq, rfl⟩)
      exact ⟨fun e => this.1 e.symm, (hb q hq).1⟩
    · have hd0 := hs.2.1
      exact key .junk none (some (x0, e0, f0)) (.inr (.inr ⟨x0, e0, f0, rfl, rfl, hs⟩)) (by rw [hd0]; rfl) (by rw [hd0]; exact h4) (fun id e h => by cases h) (fun x e f h => by cases h; exact ⟨rfl, g1, g2, g3⟩) fun q hq => ⟨fun x hx => (by rw [hd0] at hx; cases hx), fun id e h => (by cases h), fun x e f h => (by cases h; exact g4 q hq)⟩
theorem CT.wk {X : Cx} {all : Array Oper} {σ0 σ : Sg} {Q : T → Sg → Prop} : ∀ (rest : List Oper) (k : Nat) (t t' : T) (bs : Bs) (ss : Sg), Wk t' t → (∀ p, p ∈ t → p ∈ t') → CT X all σ0 σ Q rest k t' bs ss → CT X all σ0 σ Q rest k t bs ss
  | [], k, t, t', bs, ss, hw, _, ⟨t'', h1, h2⟩ => ⟨t'', h1.trans hw, h2⟩
  | o :: rest, k, t, t', bs, ss, hw, hm, h => by
    rcases h with ⟨V, h1, h2, h3, h4⟩ | ⟨id, V, e, hd, hg, hn, hN, hf, hb, h4⟩ | ⟨x, e, f, hs, g1, g2, g3, g4, h4⟩
    · refine .inl ⟨V, h1.wk hw, h2, h3, CT.wk rest _ _ _ bs ss hw.put (fun p hp => ?_) h4⟩
      cases ho : o.dst with
      | none => rw [ho] at hp; exact hm p hp
      | some d =>
        rw [ho] at hp
        rcases List.mem_cons.1 hp with h | h
        · exact List.mem_cons.2 (.inl h)
        · exact List.mem_cons.2 (.inr (hm p h))
    · refine .inr (.inl ⟨id, V, e, hd, hg, hn.wk hw, hN, isFresh_wkT hf hm, hb, CT.wk rest _ _ _ _ ss (fun i a hi => ?_) (fun p hp => ?_) h4⟩)
      · rw [look_cons] at hi ⊢
        split
        · next e => rw [if_pos e] at hi; exact hi
        · next e => rw [if_neg e] at hi; exact hw i a hi
      · rcases List.mem_cons.1 hp with h | h
        · exact List.mem_cons.2 (.inl h)
        · exact List.mem_cons.2 (.inr (hm p h))
    · exact .inr (.inr ⟨x, e, f, hs.wk hw, g1, g2, g3, g4, CT.wk rest _ _ _ bs _ hw hm h4⟩)
end Go.Gv
end
section
open Go Go.Gv
attribute [local irreducible] Go.Gv.WJ Go.Gv.OpJ Go.Gv.QJ Go.Gv.Spl Go.Gv.Req Go.Gv.IdxP Go.Gv.RegP Go.Gv.FinP Go.Gv.CellP Go.Gv.CellsP Go.Gv.ArrP Go.Gv.ArrsP Go.Gv.DropP Go.Gv.ByteP Go.Gv.StoreP
set_option maxRecDepth 100000
namespace Go.Proofs.E
attribute [local irreducible] elems
theorem aw11_a : curAt (rowE pA2.1.l) 1 = (⟨2, 1⟩, 0) := by decide +kernel
theorem aw11_o : pA2.2.1.i = ⟨2, 1⟩ := by decide +kernel
theorem aw11_r : resC (rowE pA3.1.l) ⟨2, 1⟩ = (0, 0) := by decide +kernel
theorem okP2 : okV pA2.1 := (okA1.ins 1 1 98).1
theorem Awake11_c : Cv 26 [] (bv true) := by
  have h1 := InsN_c 1 0 97
  have h2 := VInsert_c okA1.is vA1.R (by have := okA1.len; omega) okA1.ck 1 1 98
  have h3 := VDelete_c okA2.is vA2.R (by have := okA2.len; omega) 0
  have ha := CAt_c okP2.is pA2.1.R 1
  have hr := CResolve_c okA3.is pA3.1.R ⟨2, 1⟩
  rw [aw11_a] at ha
  rw [aw11_r] at hr
  have e1 : insVT vA0 1 0 97 = pA1 := rfl
  have e2 : insVT ⟨vA1.s, vA1.l, vA1.R, []⟩ 1 1 98 = pA2 := rfl
  have e3 : delVT ⟨vA2.s, vA2.l, vA2.R, []⟩ 0 = pA3 := rfl
  rw [e1] at h1
  rw [e2] at h2
  rw [e3] at h3
  have d1 : vA1 = ⟨pA1.1.s, pA1.1.l, pA1.1.R, []⟩ := rfl
  have d2 : vA2 = ⟨pA2.1.s, pA2.1.l, pA2.1.R, []⟩ := rfl
  rw [d1] at h2
  rw [d2] at h3
  have ho := aw11_o
  generalize pA3 = p3 at h3 hr
  generalize pA2 = p2 at h2 h3 ha ho
  generalize pA1 = p1 at h1 h2
  obtain ⟨v3, o3, e3'⟩ := p3
  obtain ⟨v2, ⟨ok, oi, oa, och⟩, e2'⟩ := p2
  obtain ⟨v1, o1, e1'⟩ := p1
  unfold resT at h1 h2 h3
  simp only at h1 h2 h3 ha hr ho
  subst ho
  refine Ct.of_wv Tryz.f26 Tryz.func26 rfl rfl fun w H B g0 => ?_
  try refine WJ.cut ?_
  (first | refine Sq.go ?_ | refine vL_nil (Sq.go ?_) | skip)
  try refine WJ.cut ?_
  refine OpJ.callV h1 (fun _ _ => rfl) rfl rfl rfl ?_
  (repeat (first | refine Spl.t rfl ?_ | refine Spl.f rfl ?_))
  (first | refine Sq.go ?_ | refine vL_nil (Sq.go ?_) | skip)
  try refine WJ.cut ?_
  refine OpJ.callV h2 (fun _ _ => rfl) rfl rfl rfl ?_
  (repeat (first | refine Spl.t rfl ?_ | refine Spl.f rfl ?_))
  (first | refine Sq.go ?_ | refine vL_nil (Sq.go ?_) | skip)
  try refine WJ.cut ?_
  refine OpJ.callV ha (fun _ _ => rfl) rfl rfl rfl ?_
  (repeat (first | refine Spl.t rfl ?_ | refine Spl.f rfl ?_))
  (first | refine Sq.go ?_ | refine vL_nil (Sq.go ?_) | skip)
  try refine WJ.cut ?_
  refine OpJ.callV h3 (fun _ _ => rfl) rfl rfl rfl ?_
  (repeat (first | refine Spl.t rfl ?_ | refine Spl.f rfl ?_))
  (first | refine Sq.go ?_ | refine vL_nil (Sq.go ?_) | skip)
  try refine WJ.cut ?_
  refine OpJ.callV hr (fun _ _ => rfl) rfl rfl rfl ?_
  (repeat (first | refine Spl.t rfl ?_ | refine Spl.f rfl ?_))
  (first | refine Sq.go ?_ | refine vL_nil (Sq.go ?_) | skip)
  try refine vc_sound _ _ _ _ ?_
  refine OpJ.callV Awake8_c (fun _ _ => rfl) rfl rfl rfl ?_
  (repeat (first | refine Spl.t rfl ?_ | refine Spl.f rfl ?_))
  refine OpJ.qu (O.eqT 3 rfl rfl rfl rfl rfl eqI_ok eqI_g (eqI ⟨2, 1⟩ ⟨2, 1⟩)) rfl ?_
  exact FinP.open rfl (congrArg bv (by simp))
end Go.Proofs.E
end
section
namespace Go.Gv
open Go.RowKit
end Go.Gv
end
section
namespace Go.Gv
open Go.RowKit
theorem QJ.callT {X : Cx} {d : Option Nat} {ty : TypeId} {pos : String} {aft : Array Edge} {g : Option (Nat × Bool)} {t : T} {σ : Sg} {f : FuncId} {x : Operand} {av : AV} {args : Array Operand} {tys : Array TypeId} {avs caps : List AV} {r : AV}
    (hx : ge t x = some av) (hf : FnIs av f caps) (hc : Ct X.Λ X.P f (avs ++ caps) [] (fun q _ => q = r)) (hok : callOk X.P f)
    (ha : geAll t args.toList = some avs) (ho : r.open = true) : QJ X ⟨d, .call { callee := .value x, args := args, argTypes := tys }, ty, pos, aft, g⟩ t σ r := by
  intro γ H a w hl so sm next Q' hk
  have hso : ∀ y, y ∈ args.toList → ∀ v, ge t y = some v → Rep γ H v (a.eval y) := fun y hy => so y (by simp [Op.operands, Call.operands] at hy ⊢; exact .inr hy)
  have hsx : Rep γ H av (a.eval x) := so x (by simp [Op.operands, Call.operands]) _ hx
  obtain ⟨us, hu, hul, hur⟩ := hf.rep hsx
  rw [semAt_of (by simp), call_runT hu hok, Oper.uponIn_enter]
  refine ⟨fun h => by simp [Fr] at h, ?_⟩
  have he : blks γ [] = fun _ => False := by
    funext b; simp [blks, look]
  have hal : (args.map a.eval).toList.length = avs.length := by have := congrArg List.length (geAll_map ha); simpa using this
  have := hc X.ro γ H w ((args.map a.eval).toList ++ us) (hl.keep sm.keep (by rw [he]; exact fun b h => h.elim)) (by rw [he]; exact sm.refl γ) (by simp only [List.length_append, hal, hul]) (reps_app hal (by
    have := ge_list hso (geAll_map ha)
    simpa using this) hur)
  rw [show ((args.map a.eval).toList ++ us).toArray = args.map a.eval ++ us.toArray from Array.toList_inj.1 (by simp)] at this
  refine this.mono ?_
  rintro e w' ⟨v, r', σ', γ', H', rfl, rfl, hr, _, _, hm⟩
  rw [he] at hm
  exact hk v γ' σ' H' w' hm (hr.free ho)
end Go.Gv
end
section
open Go Go.Gv
attribute [local irreducible] Go.Gv.WJ Go.Gv.OpJ Go.Gv.QJ Go.Gv.Spl Go.Gv.Req Go.Gv.IdxP Go.Gv.RegP Go.Gv.FinP Go.Gv.CellP Go.Gv.CellsP Go.Gv.ArrP Go.Gv.ArrsP Go.Gv.DropP Go.Gv.ByteP Go.Gv.StoreP
set_option maxRecDepth 100000
namespace Go.Proofs.E
attribute [local irreducible] elems
structure CALL where
  k : Int
  at_ : Int
  ch : Int
  o : OP
  a : ID
structure RS where
  e : Int
  n : Int
  t : List UInt8
  deriving DecidableEq
abbrev callD (c : CALL) : List D := [.v (.int .i64 c.k), .v (.int .i64 c.at_), .v (.int .i32 c.ch), .v (.int .i64 c.o.k), .v (.int .i64 c.o.i.c), .v (.int .i64 c.o.i.s), .v (.int .i64 c.o.a.c), .v (.int .i64 c.o.a.s), .v (.int .i32 c.o.ch), .v (.int .i64 c.a.c), .v (.int .i64 c.a.s)]
abbrev callv (c : CALL) : AV := .agg [iv c.k, iv c.at_, cv' c.ch, iv c.o.k, iv c.o.i.c, iv c.o.i.s, iv c.o.a.c, iv c.o.a.s, cv' c.o.ch, iv c.a.c, iv c.a.s]
abbrev rsv (x : RS) : AV := .agg [iv x.e, iv x.n, sv x.t]
abbrev rcs (site : Int) (s : SS) (l R : List OP) (cl : Bool) : List AV := [iv site, .d s.t.d, .d s.p.d, iv s.n, .d (.sl 6 (R.map opD)), iv (l.length : Nat), iv (sumV l).n, cx (sumV l).a (sumV l).b, cx (sumV l).c (sumV l).d, bv cl]
abbrev rpv (site : Int) (s : SS) (l R : List OP) (cl : Bool) : AV := .agg (rcs site s l R cl)
def cxD (a b : Int) : D := match cx a b with
  | .d x => x
  | _ => .v undef
abbrev rpD (site : Int) (s : SS) (l R : List OP) (cl : Bool) : List D := [.v (.int .i64 site), s.t.d, s.p.d, .v (.int .i64 s.n), .sl 6 (R.map opD), .v (.int .i64 (l.length : Nat)), .v (.int .i64 (sumV l).n), cxD (sumV l).a (sumV l).b, cxD (sumV l).c (sumV l).d, .v (.bool cl)]
def lookC (l : List OP) (c : CALL) : RS :=
  if c.k = 3 then ⟨0, 0, byt (txtZ (rowE l))⟩
  else if c.k = 4 then ⟨0, liveL (rowE l), []⟩
  else if c.k = 5 then (if (curAt (rowE l) c.at_).2 ≠ 0 then ⟨(curAt (rowE l) c.at_).2, 0, []⟩ else ⟨0, 0, textI (curAt (rowE l) c.at_).1⟩)
  else if c.k = 6 then ⟨(resC (rowE l) c.a).2, (resC (rowE l) c.a).1, []⟩
  else ⟨0, l.length, textT (sumV l)⟩
theorem L1_c {s : SS} {l : List OP} (h : isS s l) (site : Int) (R : List OP) (cl : Bool) : Cv 119 [.d (.ptr (rpD site s l R cl))] (rsv ⟨0, 0, byt (txtZ (rowE l))⟩) := by
  have ht := VText_c h R
  refine Ct.of_vc Tryz.f119 Tryz.func119 rfl rfl fun w H B g0 => ?_
  refine OpJ.callV ht (fun _ _ => rfl) rfl rfl rfl ?_
  (repeat (first | refine Spl.t rfl ?_ | refine Spl.f rfl ?_))
  exact FinP.open rfl rfl
theorem L2_c {s : SS} {l : List OP} (h : isS s l) (site : Int) (R : List OP) (cl : Bool) : Cv 120 [.d (.ptr (rpD site s l R cl))] (rsv ⟨0, liveL (rowE l), []⟩) := by
  have ht := VLen_c h R
  refine Ct.of_vc Tryz.f120 Tryz.func120 rfl rfl fun w H B g0 => ?_
  refine OpJ.callV ht (fun _ _ => rfl) rfl rfl rfl ?_
  (repeat (first | refine Spl.t rfl ?_ | refine Spl.f rfl ?_))
  exact FinP.open rfl rfl
theorem L3_c {s : SS} {l : List OP} (h : isS s l) (site : Int) (R : List OP) (cl : Bool) (c : CALL) : Cv 121 [.d (.ptr (rpD site s l R cl)), .d (.ptr (callD c))] (rsv (if (curAt (rowE l) c.at_).2 ≠ 0 then ⟨(curAt (rowE l) c.at_).2, 0, []⟩ else ⟨0, 0, textI (curAt (rowE l) c.at_).1⟩)) := by
  have ht := CAt_c h R c.at_
  generalize curAt (rowE l) c.at_ = p at ht ⊢
  obtain ⟨a, e⟩ := p
  simp only at ht ⊢
  have hs := String_c a
  refine Ct.of_vc Tryz.f121 Tryz.func121 rfl rfl fun w H B g0 => ?_
  refine OpJ.callV ht (fun _ _ => rfl) rfl rfl rfl ?_
  (repeat (first | refine Spl.t rfl ?_ | refine Spl.f rfl ?_))
  refine Spl.of (fun h1 => ?_) (fun h1 => ?_)
  · have h1 : e ≠ 0 := by simpa using h1
    rw [if_pos h1]
    (repeat (first | refine Spl.t rfl ?_ | refine Spl.f rfl ?_))
    exact FinP.open rfl rfl
  · have h1 : ¬ e ≠ 0 := by simpa using h1
    rw [if_neg h1]
    (repeat (first | refine Spl.t rfl ?_ | refine Spl.f rfl ?_))
    refine OpJ.callV hs (fun _ _ => rfl) rfl rfl rfl ?_
    (repeat (first | refine Spl.t rfl ?_ | refine Spl.f rfl ?_))
    exact FinP.open rfl rfl
theorem L4_c {s : SS} {l : List OP} (h : isS s l) (site : Int) (R : List OP) (cl : Bool) (c : CALL) : Cv 123 [.d (.ptr (callD c)), .d (.ptr (rpD site s l R cl))] (rsv ⟨(resC (rowE l) c.a).2, (resC (rowE l) c.a).1, []⟩) := by
  have ht := CResolve_c h R c.a
  refine Ct.of_vc Tryz.f123 Tryz.func123 rfl rfl fun w H B g0 => ?_
  refine OpJ.callV ht (fun _ _ => rfl) rfl rfl rfl ?_
  (repeat (first | refine Spl.t rfl ?_ | refine Spl.f rfl ?_))
  exact FinP.open rfl rfl
theorem L5_c {s : SS} {l : List OP} (h : isS s l) (site : Int) (R : List OP) (cl : Bool) : Cv 124 [.d (.ptr (rpD site s l R cl))] (rsv ⟨0, l.length, textT (sumV l)⟩) := by
  have hq := VSeq_c s l R
  have ht := VTally_c s l R
  have hs := StringT_c (sumV l) (sum_ok h.dn)
  refine Ct.of_vc Tryz.f124 Tryz.func124 rfl rfl fun w H B g0 => ?_
  refine RegP.mixS 8 [] rfl (by decide +kernel) ?_
  refine QuietP.of (QJ.call hq (fun _ _ => rfl) rfl rfl) ?_
  refine QuietP.of (QJ.call ht (fun _ _ => rfl) rfl rfl) ?_
  refine QuietP.of (QJ.call hs (fun _ _ => rfl) rfl rfl) ?_
  (repeat (first | refine Spl.t rfl ?_ | refine Spl.f rfl ?_))
  exact FinP.open rfl rfl
def looksD (r c : List D) : D := .mp false [.int .i64 3, .int .i64 4, .int .i64 5, .int .i64 6, .int .i64 7] [[.fn 119 [.ptr r]], [.fn 120 [.ptr r]], [.fn 121 [.ptr r, .ptr c]], [.fn 123 [.ptr c, .ptr r]], [.fn 124 [.ptr r]]]
theorem keyNo_of {key : Value} {ks : List Value} (h : ks.all (fun x => match cmpK key x with | some false => true | _ => false) = true) : KeyNo key ks := fun i x hx => by
  have := List.all_eq_true.1 h x (List.mem_of_getElem? hx)
  split at this
  · assumption
  · cases this
theorem PutP.new {key : Value} {ks : List Value} {vs : List (List D)} {ds : List D} {K : List Value → List (List D) → Prop} (h : ks.all (fun x => match cmpK key x with | some false => true | _ => false) = true) (k : K (ks ++ [key]) (vs ++ [ds])) : PutP key ks vs ds K := .inr ⟨keyNo_of h, k⟩
attribute [local irreducible] PutP LookP
theorem looks_c (site : Int) (s : SS) (l R : List OP) (cl : Bool) (c : CALL) : Cv 80 [rpv site s l R cl, callv c] (.d (looksD (rpD site s l R cl) (callD c))) := by
  refine Ct.of_wv Tryz.f80 Tryz.func80 rfl rfl fun w H B g0 => ?_
  (try refine WJ.cut ?_)
  (first | refine Sq.go ?_ | refine vL_nil (Sq.go ?_) | skip)
  refine WJ.shift (SJ.pub 2 rfl rfl) ?_
  refine WJ.shift (SJ.pub 3 rfl rfl) ?_
  (try refine vc_sound _ _ _ _ ?_)
  (repeat (first | refine Spl.t rfl ?_ | refine Spl.f rfl ?_))
  refine PutP.new ?_ ?_
  · rfl
  (repeat (first | refine Spl.t rfl ?_ | refine Spl.f rfl ?_))
  refine PutP.new ?_ ?_
  · rfl
  (repeat (first | refine Spl.t rfl ?_ | refine Spl.f rfl ?_))
  refine PutP.new ?_ ?_
  · rfl
  (repeat (first | refine Spl.t rfl ?_ | refine Spl.f rfl ?_))
  refine PutP.new ?_ ?_
  · rfl
  (repeat (first | refine Spl.t rfl ?_ | refine Spl.f rfl ?_))
  refine PutP.new ?_ ?_
  · rfl
  (repeat (first | refine Spl.t rfl ?_ | refine Spl.f rfl ?_))
  exact FinP.pub 5 rfl rfl (FinP.open rfl rfl)
end Go.Proofs.E
end
section
open Go Go.Gv
attribute [local irreducible] Go.Gv.WJ Go.Gv.OpJ Go.Gv.QJ Go.Gv.Spl Go.Gv.Req Go.Gv.IdxP Go.Gv.RegP Go.Gv.FinP Go.Gv.CellP Go.Gv.CellsP Go.Gv.ArrP Go.Gv.ArrsP Go.Gv.DropP Go.Gv.ByteP Go.Gv.StoreP
set_option maxRecDepth 100000
namespace Go.Proofs.E
attribute [local irreducible] elems
def wrI (v0 : VS) (p : VS × OP × Int) : VS × RS := if p.2.2 ≠ 0 then (v0.same, ⟨p.2.2, 0, []⟩) else (p.1, ⟨0, p.1.l.length, textO p.2.1⟩)
def wrR (site : Int) (v : VS) (c : CALL) : VS × RS :=
  if c.k = 0 then wrI v (insVT v site c.at_ c.ch)
  else if c.k = 1 then wrI v (delVT v c.at_)
  else if remE v c.o ≠ 0 then (v.same, ⟨remE v c.o, 0, []⟩) else (remV v c.o, ⟨0, (remV v c.o).out.length, []⟩)
abbrev chgv (site : Int) (v : VS) (cl : Bool) (x : RS) : AV := .tup [rpv site v.s v.l v.R cl, rsv x, .d (chs v.out)]
theorem write_c {s : SS} {l R : List OP} (h : okV ⟨s, l, R, []⟩) (site : Int) (cl : Bool) (c : CALL) (hk : 0 ≤ c.k ∧ c.k ≤ 2) :
    Cv 79 [rpv site s l R cl, callv c] (chgv site (wrR site ⟨s, l, R, []⟩ c).1 cl (wrR site ⟨s, l, R, []⟩ c).2) := by
  have hR := h.len
  simp only at hR
  have his := h.is
  simp only at his
  refine Ct.of_wv Tryz.f79 Tryz.func79 rfl rfl fun w H B g0 => ?_
  (try refine WJ.cut ?_)
  (first | refine Sq.go ?_ | refine vL_nil (Sq.go ?_) | skip)
  (try refine WJ.cut ?_)
  (first | refine Sq.go ?_ | refine vL_nil (Sq.go ?_) | skip)
  (try refine WJ.cut ?_)
  (first | refine Sq.go ?_ | refine vL_nil (Sq.go ?_) | skip)
  (try refine WJ.cut ?_)
  (first | refine Sq.go ?_ | refine vL_nil (Sq.go ?_) | skip)
  (try refine WJ.cut ?_)
  (first | refine Sq.go ?_ | refine vL_nil (Sq.go ?_) | skip)
  (try refine WJ.cut ?_)
  (first | refine Sq.go ?_ | refine vL_nil (Sq.go ?_) | skip)
  (try refine WJ.cut ?_)
  by_cases c0 : c.k = 0
  · have eD : wrR site ⟨s, l, R, []⟩ c = wrI ⟨s, l, R, []⟩ (insVT ⟨s, l, R, []⟩ site c.at_ c.ch) := if_pos c0
    have hp := VInsert_c his R (by omega) h.ck site c.at_ c.ch
    rw [eD]
    generalize insVT ⟨s, l, R, []⟩ site c.at_ c.ch = p at hp ⊢
    obtain ⟨v, o, e⟩ := p
    unfold resT at hp
    unfold wrI
    simp only at hp ⊢
    have hq := VSeq_c v.s v.l v.R
    have hs := String5_c o
    refine Spl.t (decide_eq_true c0) ?_
    (repeat (first | refine Spl.t rfl ?_ | refine Spl.f rfl ?_))
    refine OpJ.callV hp (fun _ _ => rfl) rfl rfl rfl ?_
    (repeat (first | refine Spl.t rfl ?_ | refine Spl.f rfl ?_))
    (first | refine Sq.go ?_ | refine vL_nil (Sq.go ?_) | skip)
    (try refine WJ.cut ?_)
    refine Spl.of (fun h1 => ?_) (fun h1 => ?_)
    · have h1 : e ≠ 0 := by simpa using h1
      rw [if_pos h1]
      (repeat (first | refine Spl.t rfl ?_ | refine Spl.f rfl ?_))
      refine .out (by simp) ?_
      refine FinP.viewTup 2 rfl (fun _ _ _ h => nil_sl 6 h) ?_
      exact FinP.open rfl rfl
    · have h1 : ¬ e ≠ 0 := by simpa using h1
      rw [if_neg h1]
      (repeat (first | refine Spl.t rfl ?_ | refine Spl.f rfl ?_))
      (first | refine Sq.go ?_ | refine vL_nil (Sq.go ?_) | skip)
      (try refine WJ.cut ?_)
      (first | refine Sq.go ?_ | refine vL_nil (Sq.go ?_) | skip)
      (try refine WJ.cut ?_)
      refine Spl.f (decide_eq_false (by omega)) ?_
      (repeat (first | refine Spl.t rfl ?_ | refine Spl.f rfl ?_))
      (first | refine Sq.go ?_ | refine vL_nil (Sq.go ?_) | skip)
      (try refine vc_sound _ _ _ _ ?_)
      refine RegP.mixS 10 [4, 5] rfl (by decide +kernel) ?_
      refine QuietP.of (QJ.call hq (fun _ _ => rfl) rfl rfl) ?_
      refine QuietP.of (QJ.call hs (fun _ _ => rfl) rfl rfl) ?_
      (repeat (first | refine Spl.t rfl ?_ | refine Spl.f rfl ?_))
      exact FinP.open rfl rfl
  · refine Spl.f (decide_eq_false c0) ?_
    (repeat (first | refine Spl.t rfl ?_ | refine Spl.f rfl ?_))
    by_cases c1 : c.k = 1
    · have eD : wrR site ⟨s, l, R, []⟩ c = wrI ⟨s, l, R, []⟩ (delVT ⟨s, l, R, []⟩ c.at_) := (if_neg c0).trans (if_pos c1)
      have hp := VDelete_c his R (by omega) c.at_
      rw [eD]
      generalize delVT ⟨s, l, R, []⟩ c.at_ = p at hp ⊢
      obtain ⟨v, o, e⟩ := p
      unfold resT at hp
      unfold wrI
      simp only at hp ⊢
      have hq := VSeq_c v.s v.l v.R
      have hs := String5_c o
      refine Spl.t (decide_eq_true c1) ?_
      (repeat (first | refine Spl.t rfl ?_ | refine Spl.f rfl ?_))
      refine OpJ.callV hp (fun _ _ => rfl) rfl rfl rfl ?_
      (repeat (first | refine Spl.t rfl ?_ | refine Spl.f rfl ?_))
      (first | refine Sq.go ?_ | refine vL_nil (Sq.go ?_) | skip)
      (try refine WJ.cut ?_)
      refine Spl.of (fun h1 => ?_) (fun h1 => ?_)
      · have h1 : e ≠ 0 := by simpa using h1
        rw [if_pos h1]
        (repeat (first | refine Spl.t rfl ?_ | refine Spl.f rfl ?_))
        refine .out (by simp) ?_
        refine FinP.viewTup 2 rfl (fun _ _ _ h => nil_sl 6 h) ?_
        exact FinP.open rfl rfl
      · have h1 : ¬ e ≠ 0 := by simpa using h1
        rw [if_neg h1]
        (repeat (first | refine Spl.t rfl ?_ | refine Spl.f rfl ?_))
        (first | refine Sq.go ?_ | refine vL_nil (Sq.go ?_) | skip)
        (try refine WJ.cut ?_)
        (first | refine Sq.go ?_ | refine vL_nil (Sq.go ?_) | skip)
        (try refine WJ.cut ?_)
        refine Spl.f (decide_eq_false (by omega)) ?_
        (repeat (first | refine Spl.t rfl ?_ | refine Spl.f rfl ?_))
        (first | refine Sq.go ?_ | refine vL_nil (Sq.go ?_) | skip)
        (try refine vc_sound _ _ _ _ ?_)
        refine RegP.mixS 10 [4, 5] rfl (by decide +kernel) ?_
        refine QuietP.of (QJ.call hq (fun _ _ => rfl) rfl rfl) ?_
        refine QuietP.of (QJ.call hs (fun _ _ => rfl) rfl rfl) ?_
        (repeat (first | refine Spl.t rfl ?_ | refine Spl.f rfl ?_))
        exact FinP.open rfl rfl
    · refine Spl.f (decide_eq_false c1) ?_
      (repeat (first | refine Spl.t rfl ?_ | refine Spl.f rfl ?_))
      have eD : wrR site ⟨s, l, R, []⟩ c = if remE ⟨s, l, R, []⟩ c.o ≠ 0 then (⟨s, l, R, []⟩, ⟨remE ⟨s, l, R, []⟩ c.o, 0, []⟩) else (remV ⟨s, l, R, []⟩ c.o, ⟨0, (remV ⟨s, l, R, []⟩ c.o).out.length, []⟩) := (if_neg c0).trans (if_neg c1)
      have hp := Remote_c his R [] c.o (by omega)
      rw [eD]
      generalize remE ⟨s, l, R, []⟩ c.o = e at hp ⊢
      generalize remV ⟨s, l, R, []⟩ c.o = v at hp ⊢
      obtain ⟨vs1, vl, vR, vo⟩ := v
      simp only at hp ⊢
      have hlo : (vo.map chD).length = vo.length := List.length_map ..
      refine OpJ.callV hp (fun _ _ => rfl) rfl rfl rfl ?_
      (repeat (first | refine Spl.t rfl ?_ | refine Spl.f rfl ?_))
      (first | refine Sq.go ?_ | refine vL_nil (Sq.go ?_) | skip)
      (try refine WJ.cut ?_)
      refine Spl.of (fun h1 => ?_) (fun h1 => ?_)
      · have h1 : e ≠ 0 := by simpa using h1
        rw [if_pos h1]
        (repeat (first | refine Spl.t rfl ?_ | refine Spl.f rfl ?_))
        refine .out (by simp) ?_
        refine FinP.viewTup 2 rfl (fun _ _ _ h => nil_sl 6 h) ?_
        exact FinP.open rfl rfl
      · have h1 : ¬ e ≠ 0 := by simpa using h1
        rw [if_neg h1]
        (repeat (first | refine Spl.t rfl ?_ | refine Spl.f rfl ?_))
        (first | refine Sq.go ?_ | refine vL_nil (Sq.go ?_) | skip)
        (try refine WJ.cut ?_)
        (first | refine Sq.go ?_ | refine vL_nil (Sq.go ?_) | skip)
        (try refine WJ.cut ?_)
        refine Spl.t (decide_eq_true (by omega)) ?_
        (repeat (first | refine Spl.t rfl ?_ | refine Spl.f rfl ?_))
        refine .out (by simp) ?_
        rw [hlo]
        exact FinP.open rfl rfl
theorem Writes_c (k : Int) : Cv 43 [iv k] (bv (decide (0 ≤ k ∧ k ≤ 2))) := by
  refine Ct.of_vc Tryz.f43 Tryz.func43 rfl rfl fun w H B g0 => ?_
  (repeat' (first | refine Spl.t rfl ?_ | refine Spl.f rfl ?_ | refine Spl.of (fun h => ?_) (fun h => ?_)))
  all_goals refine FinP.open rfl (congrArg bv ?_)
  all_goals simp_all
  all_goals omega
theorem RClosed_c (site : Int) (s : SS) (l R : List OP) (cl : Bool) : Cv 44 [rpv site s l R cl] (bv (cl || decide (site = 0))) := by
  cases cl
  all_goals refine Ct.of_vc Tryz.f44 Tryz.func44 rfl rfl fun w H B g0 => ?_
  all_goals (repeat' (first | refine Spl.t rfl ?_ | refine Spl.f rfl ?_ | refine Spl.of (fun h => ?_) (fun h => ?_)))
  all_goals refine FinP.open rfl (congrArg bv ?_)
  all_goals simp_all
end Go.Proofs.E
end
section
open Go Go.Gv
attribute [local irreducible] Go.Gv.WJ Go.Gv.OpJ Go.Gv.QJ Go.Gv.Spl Go.Gv.Req Go.Gv.IdxP Go.Gv.RegP Go.Gv.FinP Go.Gv.CellP Go.Gv.CellsP Go.Gv.ArrP Go.Gv.ArrsP Go.Gv.DropP Go.Gv.ByteP Go.Gv.StoreP
set_option maxRecDepth 100000
namespace Go.Proofs.E
attribute [local irreducible] elems
def chgR (site : Int) (v : VS) (cl : Bool) (c : CALL) : VS × Bool × RS :=
  if c.k < 0 ∨ c.k > 8 then (v.same, cl, ⟨1, 0, []⟩)
  else if (cl || decide (site = 0)) = true then (v.same, cl, ⟨9, 0, []⟩)
  else if c.k = 8 then (v.same, true, ⟨0, 0, []⟩)
  else if c.k ≤ 2 then ((wrR site v c).1, cl, (wrR site v c).2)
  else (v.same, cl, lookC v.l c)
theorem LookP.at_ {key : Value} {ks : List Value} {vs : List (List D)} {A : List D → Prop} {B : Prop} (j : Nat) {cs : List D} (h : ((match ks[j]? with | some x => (match cmpK key x with | some true => true | _ => false) | none => false) && (ks.take j).all (fun x => match cmpK key x with | some false => true | _ => false)) = true) (hv : vs[j]? = some cs) (k : A cs) : LookP key ks vs A B := by
  obtain ⟨h1, h2⟩ := Bool.and_eq_true_iff.1 h
  refine .inl ⟨j, cs, ⟨?_, fun i x hi hx => keyNo_of h2 i x (by rw [List.getElem?_take, if_pos hi]; exact hx)⟩, hv, k⟩
  split at h1
  · next x hx =>
    split at h1
    · exact ⟨x, hx, by assumption⟩
    · cases h1
  · cases h1
attribute [local irreducible] PutP LookP
theorem Changes12_c {s : SS} {l R : List OP} (h : okV ⟨s, l, R, []⟩) (site : Int) (cl : Bool) (c : CALL) :
    Cv 45 [rpv site s l R cl, callv c] (chgv site (chgR site ⟨s, l, R, []⟩ cl c).1 (chgR site ⟨s, l, R, []⟩ cl c).2.1 (chgR site ⟨s, l, R, []⟩ cl c).2.2) := by
  have his := h.is
  simp only at his
  have hcl := RClosed_c site s l R cl
  have hwr := Writes_c c.k
  by_cases c1 : c.k < 0 ∨ c.k > 8
  · have eD : chgR site ⟨s, l, R, []⟩ cl c = (⟨s, l, R, []⟩, cl, ⟨1, 0, []⟩) := if_pos c1
    rw [eD]
    refine Ct.of_vc Tryz.f45 Tryz.func45 rfl rfl fun w H B g0 => ?_
    refine Spl.of (fun h1 => ?_) (fun h1 => ?_)
    · (repeat (first | refine Spl.t rfl ?_ | refine Spl.f rfl ?_))
      refine FinP.viewTup 2 rfl (fun _ _ _ h => nil_sl 6 h) ?_
      exact FinP.open rfl rfl
    · (repeat (first | refine Spl.t rfl ?_ | refine Spl.f rfl ?_))
      refine Spl.t (decide_eq_true (by have := of_decide_eq_false h1; omega)) ?_
      (repeat (first | refine Spl.t rfl ?_ | refine Spl.f rfl ?_))
      refine FinP.viewTup 2 rfl (fun _ _ _ h => nil_sl 6 h) ?_
      exact FinP.open rfl rfl
  by_cases c2 : (cl || decide (site = 0)) = true
  · have eD : chgR site ⟨s, l, R, []⟩ cl c = (⟨s, l, R, []⟩, cl, ⟨9, 0, []⟩) := (if_neg c1).trans (if_pos c2)
    rw [eD]
    rw [c2] at hcl
    refine Ct.of_vc Tryz.f45 Tryz.func45 rfl rfl fun w H B g0 => ?_
    refine Spl.f (decide_eq_false (by omega)) ?_
    (repeat (first | refine Spl.t rfl ?_ | refine Spl.f rfl ?_))
    refine Spl.f (decide_eq_false (by omega)) ?_
    (repeat (first | refine Spl.t rfl ?_ | refine Spl.f rfl ?_))
    refine OpJ.callV hcl (fun _ _ => rfl) rfl rfl rfl ?_
    (repeat (first | refine Spl.t rfl ?_ | refine Spl.f rfl ?_))
    refine FinP.viewTup 2 rfl (fun _ _ _ h => nil_sl 6 h) ?_
    exact FinP.open rfl rfl
  have c2' : (cl || decide (site = 0)) = false := by cases hh : (cl || decide (site = 0)) with | true => exact absurd hh c2 | false => rfl
  rw [c2'] at hcl
  by_cases c3 : c.k = 8
  · have eD : chgR site ⟨s, l, R, []⟩ cl c = (⟨s, l, R, []⟩, true, ⟨0, 0, []⟩) := (if_neg c1).trans ((if_neg c2).trans (if_pos c3))
    rw [eD]
    refine Ct.of_vc Tryz.f45 Tryz.func45 rfl rfl fun w H B g0 => ?_
    refine Spl.f (decide_eq_false (by omega)) ?_
    (repeat (first | refine Spl.t rfl ?_ | refine Spl.f rfl ?_))
    refine Spl.f (decide_eq_false (by omega)) ?_
    (repeat (first | refine Spl.t rfl ?_ | refine Spl.f rfl ?_))
    refine OpJ.callV hcl (fun _ _ => rfl) rfl rfl rfl ?_
    (repeat (first | refine Spl.t rfl ?_ | refine Spl.f rfl ?_))
    refine Spl.t (decide_eq_true c3) ?_
    (repeat (first | refine Spl.t rfl ?_ | refine Spl.f rfl ?_))
    refine FinP.viewTup 2 rfl (fun _ _ _ h => nil_sl 6 h) ?_
    exact FinP.open rfl rfl
  by_cases c4 : c.k ≤ 2
  · have eD : chgR site ⟨s, l, R, []⟩ cl c = ((wrR site ⟨s, l, R, []⟩ c).1, cl, (wrR site ⟨s, l, R, []⟩ c).2) := (if_neg c1).trans ((if_neg c2).trans ((if_neg c3).trans (if_pos c4)))
    rw [eD]
    have hw := write_c h site cl c (by omega)
    generalize wrR site ⟨s, l, R, []⟩ c = p at hw ⊢
    obtain ⟨⟨v1, v2, v3, v4⟩, x⟩ := p
    simp only at hw ⊢
    rw [decide_eq_true (show 0 ≤ c.k ∧ c.k ≤ 2 by omega)] at hwr
    refine Ct.of_vc Tryz.f45 Tryz.func45 rfl rfl fun w H B g0 => ?_
    refine Spl.f (decide_eq_false (by omega)) ?_
    (repeat (first | refine Spl.t rfl ?_ | refine Spl.f rfl ?_))
    refine Spl.f (decide_eq_false (by omega)) ?_
    (repeat (first | refine Spl.t rfl ?_ | refine Spl.f rfl ?_))
    refine OpJ.callV hcl (fun _ _ => rfl) rfl rfl rfl ?_
    (repeat (first | refine Spl.t rfl ?_ | refine Spl.f rfl ?_))
    refine Spl.f (decide_eq_false c3) ?_
    (repeat (first | refine Spl.t rfl ?_ | refine Spl.f rfl ?_))
    refine OpJ.callV hwr (fun _ _ => rfl) rfl rfl rfl ?_
    (repeat (first | refine Spl.t rfl ?_ | refine Spl.f rfl ?_))
    refine OpJ.callV hw (fun _ _ => rfl) rfl rfl rfl ?_
    (repeat (first | refine Spl.t rfl ?_ | refine Spl.f rfl ?_))
    exact FinP.open rfl rfl
  · have eD : chgR site ⟨s, l, R, []⟩ cl c = (⟨s, l, R, []⟩, cl, lookC l c) := (if_neg c1).trans ((if_neg c2).trans ((if_neg c3).trans (if_neg c4)))
    rw [eD]
    rw [decide_eq_false (show ¬ (0 ≤ c.k ∧ c.k ≤ 2) by omega)] at hwr
    have hk : c.k = 3 ∨ c.k = 4 ∨ c.k = 5 ∨ c.k = 6 ∨ c.k = 7 := by omega
    clear eD
    obtain ⟨k, at_, ch, o, a⟩ := c
    simp only at hk hwr
    clear c1 c2 c3 c4
    rcases hk with hk | hk | hk | hk | hk
    · subst hk
      have hlk := looks_c site s l R cl ⟨3, at_, ch, o, a⟩
      have kj := L1_c his site R cl
      have eL : lookC l ⟨3, at_, ch, o, a⟩ = (⟨0, 0, byt (txtZ (rowE l))⟩ : RS) := rfl
      rw [eL]
      generalize hg : (⟨0, 0, byt (txtZ (rowE l))⟩ : RS) = x at kj ⊢
      refine Ct.of_vc Tryz.f45 Tryz.func45 rfl rfl fun w H B g0 => ?_
      (repeat (first | refine Spl.t rfl ?_ | refine Spl.f rfl ?_))
      refine OpJ.callV hcl (fun _ _ => rfl) rfl rfl rfl ?_
      (repeat (first | refine Spl.t rfl ?_ | refine Spl.f rfl ?_))
      refine OpJ.callV hwr (fun _ _ => rfl) rfl rfl rfl ?_
      (repeat (first | refine Spl.t rfl ?_ | refine Spl.f rfl ?_))
      refine RegP.mixS 11 [4, 5] rfl (by decide +kernel) ?_
      refine QuietP.of (QJ.call hlk (fun _ _ => rfl) rfl rfl) ?_
      (repeat (first | refine Spl.t rfl ?_ | refine Spl.f rfl ?_))
      refine LookP.at_ 0 rfl rfl ?_
      (repeat (first | refine Spl.t rfl ?_ | refine Spl.f rfl ?_))
      refine QuietP.of (QJ.callT rfl (.fn _ _) kj (fun _ _ => rfl) rfl rfl) ?_
      (repeat (first | refine Spl.t rfl ?_ | refine Spl.f rfl ?_))
      refine FinP.viewTup 2 rfl (fun _ _ _ h => nil_sl 6 h) ?_
      exact FinP.open rfl rfl
    · subst hk
      have hlk := looks_c site s l R cl ⟨4, at_, ch, o, a⟩
      have kj := L2_c his site R cl
      have eL : lookC l ⟨4, at_, ch, o, a⟩ = (⟨0, liveL (rowE l), []⟩ : RS) := rfl
      rw [eL]
      generalize hg : (⟨0, liveL (rowE l), []⟩ : RS) = x at kj ⊢
      refine Ct.of_vc Tryz.f45 Tryz.func45 rfl rfl fun w H B g0 => ?_
      (repeat (first | refine Spl.t rfl ?_ | refine Spl.f rfl ?_))
      refine OpJ.callV hcl (fun _ _ => rfl) rfl rfl rfl ?_
      (repeat (first | refine Spl.t rfl ?_ | refine Spl.f rfl ?_))
      refine OpJ.callV hwr (fun _ _ => rfl) rfl rfl rfl ?_
      (repeat (first | refine Spl.t rfl ?_ | refine Spl.f rfl ?_))
      refine RegP.mixS 11 [4, 5] rfl (by decide +kernel) ?_
      refine QuietP.of (QJ.call hlk (fun _ _ => rfl) rfl rfl) ?_
      (repeat (first | refine Spl.t rfl ?_ | refine Spl.f rfl ?_))
      refine LookP.at_ 1 rfl rfl ?_
      (repeat (first | refine Spl.t rfl ?_ | refine Spl.f rfl ?_))
      refine QuietP.of (QJ.callT rfl (.fn _ _) kj (fun _ _ => rfl) rfl rfl) ?_
      (repeat (first | refine Spl.t rfl ?_ | refine Spl.f rfl ?_))
      refine FinP.viewTup 2 rfl (fun _ _ _ h => nil_sl 6 h) ?_
      exact FinP.open rfl rfl
    · subst hk
      have hlk := looks_c site s l R cl ⟨5, at_, ch, o, a⟩
      have kj := L3_c his site R cl ⟨5, at_, ch, o, a⟩
      have eL : lookC l ⟨5, at_, ch, o, a⟩ = (if (curAt (rowE l) at_).2 ≠ 0 then ⟨(curAt (rowE l) at_).2, 0, []⟩ else ⟨0, 0, textI (curAt (rowE l) at_).1⟩ : RS) := rfl
      rw [eL]
      generalize hg : (if (curAt (rowE l) at_).2 ≠ 0 then ⟨(curAt (rowE l) at_).2, 0, []⟩ else ⟨0, 0, textI (curAt (rowE l) at_).1⟩ : RS) = x at kj ⊢
      refine Ct.of_vc Tryz.f45 Tryz.func45 rfl rfl fun w H B g0 => ?_
      (repeat (first | refine Spl.t rfl ?_ | refine Spl.f rfl ?_))
      refine OpJ.callV hcl (fun _ _ => rfl) rfl rfl rfl ?_
      (repeat (first | refine Spl.t rfl ?_ | refine Spl.f rfl ?_))
      refine OpJ.callV hwr (fun _ _ => rfl) rfl rfl rfl ?_
      (repeat (first | refine Spl.t rfl ?_ | refine Spl.f rfl ?_))
      refine RegP.mixS 11 [4, 5] rfl (by decide +kernel) ?_
      refine QuietP.of (QJ.call hlk (fun _ _ => rfl) rfl rfl) ?_
      (repeat (first | refine Spl.t rfl ?_ | refine Spl.f rfl ?_))
      refine LookP.at_ 2 rfl rfl ?_
      (repeat (first | refine Spl.t rfl ?_ | refine Spl.f rfl ?_))
      refine QuietP.of (QJ.callT rfl (.fn _ _) kj (fun _ _ => rfl) rfl rfl) ?_
      (repeat (first | refine Spl.t rfl ?_ | refine Spl.f rfl ?_))
      refine FinP.viewTup 2 rfl (fun _ _ _ h => nil_sl 6 h) ?_
      exact FinP.open rfl rfl
    · subst hk
      have hlk := looks_c site s l R cl ⟨6, at_, ch, o, a⟩
      have kj := L4_c his site R cl ⟨6, at_, ch, o, a⟩
      have eL : lookC l ⟨6, at_, ch, o, a⟩ = (⟨(resC (rowE l) a).2, (resC (rowE l) a).1, []⟩ : RS) := rfl
      rw [eL]
      generalize hg : (⟨(resC (rowE l) a).2, (resC (rowE l) a).1, []⟩ : RS) = x at kj ⊢
      refine Ct.of_vc Tryz.f45 Tryz.func45 rfl rfl fun w H B g0 => ?_
      (repeat (first | refine Spl.t rfl ?_ | refine Spl.f rfl ?_))
      refine OpJ.callV hcl (fun _ _ => rfl) rfl rfl rfl ?_
      (repeat (first | refine Spl.t rfl ?_ | refine Spl.f rfl ?_))
      refine OpJ.callV hwr (fun _ _ => rfl) rfl rfl rfl ?_
      (repeat (first | refine Spl.t rfl ?_ | refine Spl.f rfl ?_))
      refine RegP.mixS 11 [4, 5] rfl (by decide +kernel) ?_
      refine QuietP.of (QJ.call hlk (fun _ _ => rfl) rfl rfl) ?_
      (repeat (first | refine Spl.t rfl ?_ | refine Spl.f rfl ?_))
      refine LookP.at_ 3 rfl rfl ?_
      (repeat (first | refine Spl.t rfl ?_ | refine Spl.f rfl ?_))
      refine QuietP.of (QJ.callT rfl (.fn _ _) kj (fun _ _ => rfl) rfl rfl) ?_
      (repeat (first | refine Spl.t rfl ?_ | refine Spl.f rfl ?_))
      refine FinP.viewTup 2 rfl (fun _ _ _ h => nil_sl 6 h) ?_
      exact FinP.open rfl rfl
    · subst hk
      have hlk := looks_c site s l R cl ⟨7, at_, ch, o, a⟩
      have kj := L5_c his site R cl
      have eL : lookC l ⟨7, at_, ch, o, a⟩ = (⟨0, l.length, textT (sumV l)⟩ : RS) := rfl
      rw [eL]
      generalize hg : (⟨0, l.length, textT (sumV l)⟩ : RS) = x at kj ⊢
      refine Ct.of_vc Tryz.f45 Tryz.func45 rfl rfl fun w H B g0 => ?_
      (repeat (first | refine Spl.t rfl ?_ | refine Spl.f rfl ?_))
      refine OpJ.callV hcl (fun _ _ => rfl) rfl rfl rfl ?_
      (repeat (first | refine Spl.t rfl ?_ | refine Spl.f rfl ?_))
      refine OpJ.callV hwr (fun _ _ => rfl) rfl rfl rfl ?_
      (repeat (first | refine Spl.t rfl ?_ | refine Spl.f rfl ?_))
      refine RegP.mixS 11 [4, 5] rfl (by decide +kernel) ?_
      refine QuietP.of (QJ.call hlk (fun _ _ => rfl) rfl rfl) ?_
      (repeat (first | refine Spl.t rfl ?_ | refine Spl.f rfl ?_))
      refine LookP.at_ 4 rfl rfl ?_
      (repeat (first | refine Spl.t rfl ?_ | refine Spl.f rfl ?_))
      refine QuietP.of (QJ.callT rfl (.fn _ _) kj (fun _ _ => rfl) rfl rfl) ?_
      (repeat (first | refine Spl.t rfl ?_ | refine Spl.f rfl ?_))
      refine FinP.viewTup 2 rfl (fun _ _ _ h => nil_sl 6 h) ?_
      exact FinP.open rfl rfl
end Go.Proofs.E
end
section
open Go Go.Gv
attribute [local irreducible] Go.Gv.WJ Go.Gv.OpJ Go.Gv.QJ Go.Gv.Spl Go.Gv.Req Go.Gv.IdxP Go.Gv.RegP Go.Gv.FinP Go.Gv.CellP Go.Gv.CellsP Go.Gv.ArrP Go.Gv.ArrsP Go.Gv.DropP Go.Gv.ByteP Go.Gv.StoreP
set_option maxRecDepth 100000
namespace Go.Proofs.E
attribute [local irreducible] elems
theorem RDo_c {s : SS} {l R : List OP} (h : okV ⟨s, l, R, []⟩) (site : Int) (cl : Bool) (c : CALL) :
    Cv 41 [rpv site s l R cl, callv c] (.tup [rpv site (chgR site ⟨s, l, R, []⟩ cl c).1.s (chgR site ⟨s, l, R, []⟩ cl c).1.l (chgR site ⟨s, l, R, []⟩ cl c).1.R (chgR site ⟨s, l, R, []⟩ cl c).2.1, rsv (chgR site ⟨s, l, R, []⟩ cl c).2.2]) := by
  have hw := Changes12_c h site cl c
  generalize chgR site ⟨s, l, R, []⟩ cl c = p at hw ⊢
  obtain ⟨⟨v1, v2, v3, v4⟩, cl', x⟩ := p
  simp only at hw ⊢
  refine Ct.of_vc Tryz.f41 Tryz.func41 rfl rfl fun w H B g0 => ?_
  refine OpJ.callV hw (fun _ _ => rfl) rfl rfl rfl ?_
  (repeat (first | refine Spl.t rfl ?_ | refine Spl.f rfl ?_))
  refine RegP.mixS 4 [4, 5] rfl (by decide +kernel) ?_
  exact FinP.open rfl rfl
theorem RLook_c {s : SS} {l R : List OP} (h : okV ⟨s, l, R, []⟩) (site : Int) (cl : Bool) (c : CALL) :
    Cv 42 [rpv site s l R cl, callv c] (rsv (chgR site ⟨s, l, R, []⟩ cl c).2.2) := by
  have hw := RDo_c h site cl c
  generalize chgR site ⟨s, l, R, []⟩ cl c = p at hw ⊢
  obtain ⟨⟨v1, v2, v3, v4⟩, cl', x⟩ := p
  simp only at hw ⊢
  refine Ct.of_vc Tryz.f42 Tryz.func42 rfl rfl fun w H B g0 => ?_
  refine OpJ.callV hw (fun _ _ => rfl) rfl rfl rfl ?_
  (repeat (first | refine Spl.t rfl ?_ | refine Spl.f rfl ?_))
  exact FinP.open rfl rfl
theorem nilR {γ : Ids} {H : HF} {u : Value} {t p : D} {k0 n m k : Int} {z1 z2 z3 : AV} (r : Rep γ H (.agg [iv k0, .d t, .d p, iv n, .d (.v (.slice none 0 0)), iv m, iv k, z1, z2, z3]) u) : Rep γ H (.agg [iv k0, .d t, .d p, iv n, .d (.sl 6 []), iv m, iv k, z1, z2, z3]) u := rep_agg_set (j := 4) r rfl fun _ h => nil_sl 6 h
theorem New_c (site : Int) : Cv 40 [iv site] (.tup [rpv (if site < 1 ∨ site > 1000 then 0 else site) vA0.s vA0.l vA0.R false, iv (if site < 1 ∨ site > 1000 then 2 else 0)]) := by
  by_cases c1 : site < 1 ∨ site > 1000
  · rw [if_pos c1, if_pos c1]
    refine Ct.of_vc Tryz.f40 Tryz.func40 rfl rfl fun w H B g0 => ?_
    refine Spl.of (fun h1 => ?_) (fun h1 => ?_)
    · (repeat (first | refine Spl.t rfl ?_ | refine Spl.f rfl ?_))
      refine FinP.viewTup 0 rfl (fun _ _ _ h => nilR h) ?_
      exact FinP.open rfl rfl
    · (repeat (first | refine Spl.t rfl ?_ | refine Spl.f rfl ?_))
      refine Spl.t (decide_eq_true (by have := of_decide_eq_false h1; omega)) ?_
      (repeat (first | refine Spl.t rfl ?_ | refine Spl.f rfl ?_))
      refine FinP.viewTup 0 rfl (fun _ _ _ h => nilR h) ?_
      exact FinP.open rfl rfl
  · rw [if_neg c1, if_neg c1]
    refine Ct.of_vc Tryz.f40 Tryz.func40 rfl rfl fun w H B g0 => ?_
    refine Spl.f (decide_eq_false (by omega)) ?_
    (repeat (first | refine Spl.t rfl ?_ | refine Spl.f rfl ?_))
    refine Spl.f (decide_eq_false (by omega)) ?_
    (repeat (first | refine Spl.t rfl ?_ | refine Spl.f rfl ?_))
    refine FinP.viewTup 0 rfl (fun _ _ _ h => nilR h) ?_
    exact FinP.open rfl rfl
end Go.Proofs.E
end
section
open Go Go.Gv
attribute [local irreducible] Go.Gv.WJ Go.Gv.OpJ Go.Gv.QJ Go.Gv.Spl Go.Gv.Req Go.Gv.IdxP Go.Gv.RegP Go.Gv.FinP Go.Gv.CellP Go.Gv.CellsP Go.Gv.ArrP Go.Gv.ArrsP Go.Gv.DropP Go.Gv.ByteP Go.Gv.StoreP
set_option maxRecDepth 100000
namespace Go.Proofs.E
attribute [local irreducible] elems
end Go.Proofs.E
end
section
open Go Go.Gv
attribute [local irreducible] Go.Gv.WJ Go.Gv.OpJ Go.Gv.QJ Go.Gv.Spl Go.Gv.Req Go.Gv.IdxP Go.Gv.RegP Go.Gv.FinP Go.Gv.CellP Go.Gv.CellsP Go.Gv.ArrP Go.Gv.ArrsP Go.Gv.DropP Go.Gv.ByteP Go.Gv.StoreP
set_option maxRecDepth 100000
namespace Go.Proofs.E
attribute [local irreducible] elems
theorem okV.wr {v : VS} (h : okV v) (site : Int) (c : CALL) : okV (wrR site v c).1 ∧ (wrR site v c).1.out.length ≤ 17 := by
  have hs : okV v.same ∧ v.same.out.length ≤ 17 := ⟨h.same, by simp [VS.same]⟩
  unfold wrR
  split
  · unfold wrI
    split
    · exact hs
    · exact h.ins site c.at_ c.ch
  · split
    · unfold wrI
      split
      · exact hs
      · exact h.del c.at_
    · split
      · exact hs
      · exact ⟨h.rem c.o, rem_out h c.o⟩
theorem okV.chg {v : VS} (h : okV v) (site : Int) (cl : Bool) (c : CALL) : okV (chgR site v cl c).1 ∧ (chgR site v cl c).1.out.length ≤ 17 := by
  have hs : okV v.same ∧ v.same.out.length ≤ 17 := ⟨h.same, by simp [VS.same]⟩
  unfold chgR
  split
  · exact hs
  · split
    · exact hs
    · split
      · exact hs
      · split
        · exact h.wr site c
        · exact hs
theorem eqRS (a b : RS) : eqT Tryz.prog 3 110 [.int .i64 a.e, .int .i64 a.n, .string ⟨⟨a.t⟩⟩] [.int .i64 b.e, .int .i64 b.n, .string ⟨⟨b.t⟩⟩] = some (decide (a = b)) := by
  show some (decide (a.e = b.e) && (decide (a.n = b.n) && (((⟨⟨a.t⟩⟩ : ByteArray).toList == (⟨⟨b.t⟩⟩ : ByteArray).toList) && true))) = _
  rw [ByteArray.toList_eq, ByteArray.toList_eq]
  obtain ⟨a1, a2, a3⟩ := a
  obtain ⟨b1, b2, b3⟩ := b
  by_cases h3 : a3 = b3 <;> simp [h3]
theorem eqRS_ok : eqOk Tryz.prog 3 110 = true := by kernel_rfl
theorem eqRS_g : Tryz.prog.eqGuardType Tryz.prog.depth 110 = false := by kernel_rfl
def callA : CALL := ⟨0, 0, 97, OP0, ⟨0, 0⟩⟩
def kindC (k : Int) : CALL := ⟨k, 0, 0, OP0, ⟨0, 0⟩⟩
def rA : VS × Bool × RS := chgR 1 vA0 false callA
theorem okRA : okV rA.1 := (okA0.chg 1 false callA).1
theorem aw12_x : rA.2.2 = ⟨0, 1, [43, 49, 46, 49, 32, 45, 32, 54, 49]⟩ := by decide +kernel
theorem aw12_cl : rA.2.1 = false := by decide +kernel
theorem aw12_t : (chgR 1 ⟨rA.1.s, rA.1.l, rA.1.R, []⟩ false (kindC 3)).2.2 = ⟨0, 0, [97]⟩ := by decide +kernel
theorem Awake12_c : Cv 39 [] (bv true) := by
  have hn : Cv 40 [iv 1] (.tup [rpv 1 vA0.s vA0.l vA0.R false, iv 0]) := New_c 1
  have hd := RDo_c (s := vA0.s) (l := vA0.l) (R := vA0.R) okA0 1 false callA
  have hl := RLook_c okRA.out 1 false (kindC 3)
  rw [aw12_t] at hl
  have e1 : chgR 1 ⟨vA0.s, vA0.l, vA0.R, []⟩ false callA = rA := rfl
  rw [e1] at hd
  rw [aw12_x, aw12_cl] at hd
  generalize rA = p at hd hl
  obtain ⟨⟨v1, v2, v3, v4⟩, cl, x⟩ := p
  simp only at hd hl
  refine Ct.of_wv Tryz.f39 Tryz.func39 rfl rfl fun w H B g0 => ?_
  (try refine WJ.cut ?_)
  (first | refine Sq.go ?_ | refine vL_nil (Sq.go ?_) | skip)
  (try refine WJ.cut ?_)
  refine OpJ.callV hn (fun _ _ => rfl) rfl rfl rfl ?_
  (repeat (first | refine Spl.t rfl ?_ | refine Spl.f rfl ?_))
  (first | refine Sq.go ?_ | refine vL_nil (Sq.go ?_) | skip)
  (try refine WJ.cut ?_)
  refine OpJ.callV hd (fun _ _ => rfl) rfl rfl rfl ?_
  (repeat (first | refine Spl.t rfl ?_ | refine Spl.f rfl ?_))
  (first | refine Sq.go ?_ | refine vL_nil (Sq.go ?_) | skip)
  (try refine vc_sound _ _ _ _ ?_)
  refine OpJ.callV Awake11_c (fun _ _ => rfl) rfl rfl rfl ?_
  (repeat (first | refine Spl.t rfl ?_ | refine Spl.f rfl ?_))
  refine OpJ.qu (O.eqT 3 rfl rfl rfl rfl rfl eqRS_ok eqRS_g (eqRS ⟨0, 1, [43, 49, 46, 49, 32, 45, 32, 54, 49]⟩ ⟨0, 1, [43, 49, 46, 49, 32, 45, 32, 54, 49]⟩)) rfl ?_
  refine Spl.t (by simp) ?_
  (repeat (first | refine Spl.t rfl ?_ | refine Spl.f rfl ?_))
  refine OpJ.callV hl (fun _ _ => rfl) rfl rfl rfl ?_
  (repeat (first | refine Spl.t rfl ?_ | refine Spl.f rfl ?_))
  exact FinP.open rfl (congrArg bv (by simp))
end Go.Proofs.E
end
section
open Go Go.Gv
attribute [local irreducible] Go.Gv.WJ Go.Gv.OpJ Go.Gv.QJ Go.Gv.Spl Go.Gv.Req Go.Gv.IdxP Go.Gv.RegP Go.Gv.FinP Go.Gv.CellP Go.Gv.CellsP Go.Gv.ArrP Go.Gv.ArrsP Go.Gv.DropP Go.Gv.ByteP Go.Gv.StoreP
set_option maxRecDepth 100000
namespace Go.Proofs.E
attribute [local irreducible] elems
def okCall (c : CALL) : Prop := -9223372036854775808 ≤ c.at_ ∧ c.at_ ≤ 9223372036854775807
theorem callRow (cs : List D) (h : (Ty.st [.int .i64, .int .i64, .int .i32, .st [.int .i64, .st [.int .i64, .int .i64], .st [.int .i64, .int .i64], .int .i32], .st [.int .i64, .int .i64]]).ok cs) : ∃ x : CALL, cs = callD x ∧ okCall x := by
  obtain ⟨_, _, rfl, ⟨k, rfl, _⟩, ⟨_, _, rfl, ⟨at_, rfl, w⟩, ⟨_, _, rfl, ⟨ch, rfl, _⟩, ⟨_, _, rfl, ⟨_, _, rfl, ⟨a0, rfl, _⟩, ⟨_, _, rfl, ⟨_, _, rfl, ⟨a1, rfl, _⟩, ⟨_, _, rfl, ⟨a2, rfl, _⟩, rfl⟩⟩, ⟨_, _, rfl, ⟨_, _, rfl, ⟨a3, rfl, _⟩, ⟨_, _, rfl, ⟨a4, rfl, _⟩, rfl⟩⟩, ⟨_, _, rfl, ⟨a5, rfl, _⟩, rfl⟩⟩⟩⟩, ⟨_, _, rfl, ⟨_, _, rfl, ⟨c0, rfl, _⟩, ⟨_, _, rfl, ⟨c1, rfl, _⟩, rfl⟩⟩, rfl⟩⟩⟩⟩⟩ := h
  exact ⟨⟨k, at_, ch, ⟨a0, ⟨a1, a2⟩, ⟨a3, a4⟩, a5⟩, ⟨c0, c1⟩⟩, rfl, i64_rng w⟩
end Go.Proofs.E
end
section
open Go Go.Gv
attribute [local irreducible] Go.Gv.WJ Go.Gv.OpJ Go.Gv.QJ Go.Gv.Spl Go.Gv.Req Go.Gv.IdxP Go.Gv.RegP Go.Gv.FinP Go.Gv.CellP Go.Gv.CellsP Go.Gv.ArrP Go.Gv.ArrsP Go.Gv.DropP Go.Gv.ByteP Go.Gv.StoreP
set_option maxRecDepth 100000
namespace Go.Proofs.E
attribute [local irreducible] elems
theorem chg_same {site : Int} {v : VS} {cl : Bool} {c : CALL} (h : ¬ (0 ≤ c.k ∧ c.k ≤ 2) ∧ c.k ≠ 8 ∨ (chgR site v cl c).2.2.e ≠ 0) : chgR site v cl c = (v.same, cl, (chgR site v cl c).2.2) := by
  unfold chgR at h ⊢
  split
  · rfl
  · split
    · rfl
    · split
      · next h1 h2 h3 =>
        rw [if_neg h1, if_neg h2, if_pos h3] at h
        rcases h with h | h
        · exact absurd h3 h.2
        · exact absurd rfl h
      · split
        · next h1 h2 h3 h4 =>
          rw [if_neg h1, if_neg h2, if_neg h3, if_pos h4] at h
          rcases h with h | h
          · exact absurd ⟨by omega, h4⟩ h.1
          · have : (wrR site v c).1 = v.same := by
              simp only at h
              unfold wrR at h ⊢
              unfold wrI at h ⊢
              split
              · next k0 =>
                rw [if_pos k0] at h
                split
                · rfl
                · next h5 => rw [if_neg h5] at h; exact absurd rfl h
              · next k0 =>
                rw [if_neg k0] at h
                split
                · next k1 =>
                  rw [if_pos k1] at h
                  split
                  · rfl
                  · next h5 => rw [if_neg h5] at h; exact absurd rfl h
                · next k1 =>
                  rw [if_neg k1] at h
                  split
                  · rfl
                  · next h5 => rw [if_neg h5] at h; exact absurd rfl h
            rw [this]
        · rfl
theorem wrI_err (v : VS) (p : VS × OP × Int) (h : (wrI v p).2.e ≠ 0) : (wrI v p).2 = ⟨(wrI v p).2.e, 0, []⟩ := by
  unfold wrI at h ⊢
  split
  · rfl
  · next h5 => rw [if_neg h5] at h; exact absurd rfl h
theorem chg_err {site : Int} {v : VS} {cl : Bool} {c : CALL} (h : (chgR site v cl c).2.2.e ≠ 0) : (chgR site v cl c).2.2 = ⟨(chgR site v cl c).2.2.e, 0, []⟩ := by
  unfold chgR at h ⊢
  split
  · rfl
  · next h1 =>
    rw [if_neg h1] at h
    split
    · rfl
    · next h2 =>
      rw [if_neg h2] at h
      split
      · rfl
      · next h3 =>
        rw [if_neg h3] at h
        split
        · next h4 =>
          rw [if_pos h4] at h
          simp only at h ⊢
          unfold wrR at h ⊢
          split
          · next k0 => rw [if_pos k0] at h; exact wrI_err _ _ h
          · next k0 =>
            rw [if_neg k0] at h
            split
            · next k1 => rw [if_pos k1] at h; exact wrI_err _ _ h
            · next k1 =>
              rw [if_neg k1] at h
              split
              · rfl
              · next h5 => rw [if_neg h5] at h; exact absurd rfl h
        · next h4 =>
          rw [if_neg h4] at h
          simp only at h ⊢
          unfold lookC at h ⊢
          split
          · next k0 => rw [if_pos k0] at h; exact absurd rfl h
          · next k0 =>
            rw [if_neg k0] at h
            split
            · next k1 => rw [if_pos k1] at h; exact absurd rfl h
            · next k1 =>
              rw [if_neg k1] at h
              split
              · next k2 =>
                rw [if_pos k2] at h
                split
                · rfl
                · next h5 => rw [if_neg h5] at h; exact absurd rfl h
              · next k2 =>
                rw [if_neg k2] at h
                split
                · next k3 =>
                  rw [if_pos k3] at h
                  simp only at h ⊢
                  unfold resC at h ⊢
                  split
                  · next q => rw [if_pos q] at h; exact absurd rfl h
                  · next q =>
                    rw [if_neg q] at h
                    split
                    · next q2 => rw [if_pos q2] at h; exact absurd rfl h
                    · rfl
                · next k3 => rw [if_neg k3] at h; exact absurd rfl h
theorem chg_shut (site : Int) (v : VS) (cl : Bool) (hs : site ≠ 0) : (chgR site v cl (kindC 8)).2.1 = true := by
  unfold chgR
  rw [if_neg (by unfold kindC; simp)]
  cases cl with
  | true => rfl
  | false => rw [if_neg (by simpa using hs)]; rfl
theorem chg_closed (site : Int) (v : VS) (c : CALL) : (chgR site v true c).2.2.e = if c.k < 0 ∨ c.k > 8 then 1 else 9 := by
  unfold chgR
  split
  · rfl
  · rfl
set_option maxHeartbeats 4000000 in
theorem ReplicaLooks_c (acts : List CALL) (c : CALL) : Cv 8 [.d (.sl 11 (acts.map callD)), callv c] (bv true) := by
  have hn : Cv 40 [iv 1] (.tup [rpv 1 vA0.s vA0.l vA0.R false, iv 0]) := New_c 1
  refine Ct.of_wv Tryz.f8 Tryz.func8 rfl rfl fun w H B g0 => ?_
  (try refine WJ.cut ?_)
  (first | refine Sq.go ?_ | refine vL_nil (Sq.go ?_) | skip)
  (try refine WJ.cut ?_)
  refine Spl.of (fun g1 => ?_) (fun g1 => ?_)
  · (repeat (first | refine Spl.t rfl ?_ | refine Spl.f rfl ?_))
    refine OpJ.callV Awake12_c (fun _ _ => rfl) rfl rfl rfl ?_
    (repeat (first | refine Spl.t rfl ?_ | refine Spl.f rfl ?_))
    refine .out (by simp) ?_
    exact FinP.open rfl rfl
  have hw : acts.length ≤ 40 := by have := of_decide_eq_false g1; simp at this; omega
  (repeat (first | refine Spl.t rfl ?_ | refine Spl.f rfl ?_))
  (first | refine Sq.go ?_ | refine vL_nil (Sq.go ?_) | skip)
  (try refine WJ.cut ?_)
  refine OpJ.callV hn (fun _ _ => rfl) rfl rfl rfl ?_
  (repeat (first | refine Spl.t rfl ?_ | refine Spl.f rfl ?_))
  (first | refine Sq.go ?_ | refine vL_nil (Sq.go ?_) | skip)
  (try refine WJ.cut ?_)
  (repeat (first | refine Spl.t rfl ?_ | refine Spl.f rfl ?_))
  (first | refine Sq.go ?_ | refine vL_nil (Sq.go ?_) | skip)
  (try refine WJ.cut ?_)
  (first | refine Sq.go ?_ | refine vL_nil (Sq.go ?_) | skip)
  (try refine WJ.cut ?_)
  refine WJ.loopK (V := Nat × VS × Bool) (fun v => [(29, iv v.1)]) (fun v => [(5, .cells (rcs 1 v.2.1.s v.2.1.l v.2.1.R v.2.2))]) [5] (fun v => acts.length - v.1) (fun v => v.1 ≤ acts.length ∧ okV ⟨v.2.1.s, v.2.1.l, v.2.1.R, []⟩) (0, vA0, false) ⟨by simp, okA0⟩ (by repeat' (first | exact trivial | exact rfl | refine And.intro ?_ ?_)) (by repeat' (first | exact trivial | exact rfl | refine And.intro ?_ ?_)) ?_
  rintro ⟨i, ⟨s, l, R, out⟩, cl⟩ ⟨hi, hv⟩
  simp only at hi hv
  refine Spl.of (fun h1 => ?_) (fun h1 => ?_)
  · have hlt : i < acts.length := by have := of_decide_eq_true h1; simp at this; omega
    have hx : acts[i]? = some acts[i] := by simp
    generalize acts[i] = c at hx
    have hdo := RDo_c hv 1 cl c
    obtain ⟨hok, _⟩ := hv.chg 1 cl c
    generalize chgR 1 ⟨s, l, R, []⟩ cl c = p at hdo hok
    obtain ⟨⟨v1, v2, v3, v4⟩, cl', x⟩ := p
    simp only at hdo hok
    have hok' := hok.out
    simp only at hok'
    (repeat (first | refine Spl.t rfl ?_ | refine Spl.f rfl ?_))
    refine IdxP.of (callD c) (by omega) (by simp [hx]) ?_
    (repeat (first | refine Spl.t rfl ?_ | refine Spl.f rfl ?_))
    refine OpJ.callV hdo (fun _ _ => rfl) rfl rfl rfl ?_
    (repeat (first | refine Spl.t rfl ?_ | refine Spl.f rfl ?_))
    exact ⟨(i + 1, ⟨v1, v2, v3, []⟩, cl'), ⟨by simp only; omega, hok'⟩, by simp only; omega, ⟨some_iv (wrap_id _ (by omega) (by omega)), trivial⟩, (by repeat' (first | exact trivial | exact rfl | refine And.intro ?_ ?_)), (by repeat' (first | exact trivial | exact rfl | refine And.intro ?_ ?_)), (by repeat' (first | exact trivial | exact rfl | refine And.intro ?_ ?_))⟩
  clear hi h1
  have hl1 := RLook_c hv 1 cl (kindC 7)
  have hl2 := RLook_c hv 1 cl (kindC 3)
  have hl3 := RLook_c hv 1 cl c
  have hdo := RDo_c hv 1 cl c
  have hwr := Writes_c c.k
  have fs := @chg_same 1 ⟨s, l, R, []⟩ cl c
  have fe := @chg_err 1 ⟨s, l, R, []⟩ cl c
  obtain ⟨hok, _⟩ := hv.chg 1 cl c
  (repeat (first | refine Spl.t rfl ?_ | refine Spl.f rfl ?_))
  (first | refine Sq.go ?_ | refine vL_nil (Sq.go ?_) | skip)
  (try refine WJ.cut ?_)
  refine OpJ.callV hl1 (fun _ _ => rfl) rfl rfl rfl ?_
  (repeat (first | refine Spl.t rfl ?_ | refine Spl.f rfl ?_))
  (first | refine Sq.go ?_ | refine vL_nil (Sq.go ?_) | skip)
  (try refine WJ.cut ?_)
  refine OpJ.callV hl2 (fun _ _ => rfl) rfl rfl rfl ?_
  (repeat (first | refine Spl.t rfl ?_ | refine Spl.f rfl ?_))
  (first | refine Sq.go ?_ | refine vL_nil (Sq.go ?_) | skip)
  (try refine WJ.cut ?_)
  generalize (chgR 1 ⟨s, l, R, []⟩ cl (kindC 7)).2.2 = K7 at hl1 ⊢
  generalize (chgR 1 ⟨s, l, R, []⟩ cl (kindC 3)).2.2 = K3 at hl2 ⊢
  generalize chgR 1 ⟨s, l, R, []⟩ cl c = p at hdo hl3 fs fe hok
  obtain ⟨⟨v1, v2, v3, v4⟩, cl', x⟩ := p
  simp only at hdo hl3 fs fe hok
  have hok' := hok.out
  simp only at hok'
  have hsd := RDo_c hok' 1 cl' (kindC 8)
  have fsh := chg_shut 1 ⟨v1, v2, v3, []⟩ cl' (by decide)
  obtain ⟨hok3, _⟩ := hok'.chg 1 cl' (kindC 8)
  generalize chgR 1 ⟨v1, v2, v3, []⟩ cl' (kindC 8) = p3 at hsd fsh hok3
  obtain ⟨⟨w1, w2, w3, w4⟩, cl3, x3⟩ := p3
  simp only at hsd fsh hok3
  subst fsh
  have hok4 := hok3.out
  simp only at hok4
  have hy := RLook_c hok4 1 true c
  have fy := chg_closed 1 ⟨w1, w2, w3, []⟩ c
  generalize (chgR 1 ⟨w1, w2, w3, []⟩ true c).2.2 = y at hy fy
  have hcl3 := RClosed_c 1 w1 w2 w3 true
  by_cases hW1 : 0 ≤ c.k ∧ c.k ≤ 2
  · rw [decide_eq_true hW1] at hwr
    by_cases he : x.e = 0
    · have : True := trivial
      refine OpJ.callV hdo (fun _ _ => rfl) rfl rfl rfl ?_
      (repeat (first | refine Spl.t rfl ?_ | refine Spl.f rfl ?_))
      (first | refine Sq.go ?_ | refine vL_nil (Sq.go ?_) | skip)
      (try refine WJ.cut ?_)
      refine RegP.of rfl (by decide +kernel) ?_
      refine QuietP.of (QJ.call hwr (fun _ _ => rfl) rfl rfl) ?_
      (repeat (first | refine Spl.t rfl ?_ | refine Spl.f rfl ?_))
      (first | refine Sq.go ?_ | refine vL_nil (Sq.go ?_) | skip)
      (try refine WJ.cut ?_)
      refine RegP.of rfl (by decide +kernel) ?_
      refine Spl.f (by simp [he]) ?_
      (repeat (first | refine Spl.t rfl ?_ | refine Spl.f rfl ?_))
      (first | refine Sq.go ?_ | refine vL_nil (Sq.go ?_) | skip)
      (try refine WJ.cut ?_)
      refine OpJ.callV hsd (fun _ _ => rfl) rfl rfl rfl ?_
      (repeat (first | refine Spl.t rfl ?_ | refine Spl.f rfl ?_))
      (first | refine Sq.go ?_ | refine vL_nil (Sq.go ?_) | skip)
      (try refine WJ.cut ?_)
      refine OpJ.callV hy (fun _ _ => rfl) rfl rfl rfl ?_
      (repeat (first | refine Spl.t rfl ?_ | refine Spl.f rfl ?_))
      (first | refine Sq.go ?_ | refine vL_nil (Sq.go ?_) | skip)
      (try refine WJ.cut ?_)
      obtain ⟨ye, yn, yt⟩ := y
      simp only at fy
      by_cases hm : c.k < 0
      · rw [if_pos (.inl hm)] at fy
        subst fy
        refine Spl.f (decide_eq_false (by omega)) ?_
        (repeat (first | refine Spl.t rfl ?_ | refine Spl.f rfl ?_))
        (first | refine Sq.go ?_ | refine vL_nil (Sq.go ?_) | skip)
        (try refine vc_sound _ _ _ _ ?_)
        refine OpJ.callV Awake12_c (fun _ _ => rfl) rfl rfl rfl ?_
        (repeat (first | refine Spl.t rfl ?_ | refine Spl.f rfl ?_))
        refine OpJ.callV hcl3 (fun _ _ => rfl) rfl rfl rfl ?_
        (repeat (first | refine Spl.t rfl ?_ | refine Spl.f rfl ?_))
        exact FinP.open rfl rfl
      refine Spl.t (decide_eq_true (by omega)) ?_
      (repeat (first | refine Spl.t rfl ?_ | refine Spl.f rfl ?_))
      (first | refine Sq.go ?_ | refine vL_nil (Sq.go ?_) | skip)
      (try refine vc_sound _ _ _ _ ?_)
      refine OpJ.callV Awake12_c (fun _ _ => rfl) rfl rfl rfl ?_
      (repeat (first | refine Spl.t rfl ?_ | refine Spl.f rfl ?_))
      refine OpJ.callV hcl3 (fun _ _ => rfl) rfl rfl rfl ?_
      (repeat (first | refine Spl.t rfl ?_ | refine Spl.f rfl ?_))
      by_cases hm2 : c.k > 8
      · rw [if_pos (.inr hm2)] at fy
        subst fy
        refine Spl.t (by simp <;> omega) ?_
        (repeat (first | refine Spl.t rfl ?_ | refine Spl.f rfl ?_))
        refine Spl.f (decide_eq_false (by omega)) ?_
        (repeat (first | refine Spl.t rfl ?_ | refine Spl.f rfl ?_))
        exact FinP.open rfl (congrArg bv (by simp))
      rw [if_neg (by omega)] at fy
      subst fy
      refine Spl.t (by simp <;> omega) ?_
      (repeat (first | refine Spl.t rfl ?_ | refine Spl.f rfl ?_))
      refine Spl.t (decide_eq_true (by omega)) ?_
      (repeat (first | refine Spl.t rfl ?_ | refine Spl.f rfl ?_))
      exact FinP.open rfl (congrArg bv (by simp <;> omega))
    · have f1 := fs (.inr he)
      have f2 := fe he
      simp only [VS.same, Prod.mk.injEq, VS.mk.injEq] at f1
      obtain ⟨⟨rfl, rfl, rfl, rfl⟩, rfl, _⟩ := f1
      obtain ⟨xe, xn, xt⟩ := x
      simp only [RS.mk.injEq, true_and] at f2
      obtain ⟨rfl, rfl⟩ := f2
      simp only at he
      refine OpJ.callV hdo (fun _ _ => rfl) rfl rfl rfl ?_
      (repeat (first | refine Spl.t rfl ?_ | refine Spl.f rfl ?_))
      (first | refine Sq.go ?_ | refine vL_nil (Sq.go ?_) | skip)
      (try refine WJ.cut ?_)
      refine RegP.of rfl (by decide +kernel) ?_
      refine QuietP.of (QJ.call hwr (fun _ _ => rfl) rfl rfl) ?_
      (repeat (first | refine Spl.t rfl ?_ | refine Spl.f rfl ?_))
      (first | refine Sq.go ?_ | refine vL_nil (Sq.go ?_) | skip)
      (try refine WJ.cut ?_)
      refine RegP.of rfl (by decide +kernel) ?_
      refine Spl.t (by simp [he]) ?_
      (repeat (first | refine Spl.t rfl ?_ | refine Spl.f rfl ?_))
      refine QuietP.of (QJ.call hl1 (fun _ _ => rfl) rfl rfl) ?_
      (repeat (first | refine Spl.t rfl ?_ | refine Spl.f rfl ?_))
      refine QuietP.of (O.neT 3 rfl rfl rfl rfl rfl eqRS_ok eqRS_g (eqRS K7 K7)) ?_
      (repeat (first | refine Spl.t rfl ?_ | refine Spl.f rfl ?_))
      refine Spl.f (by simp) ?_
      (repeat (first | refine Spl.t rfl ?_ | refine Spl.f rfl ?_))
      (first | refine Sq.go ?_ | refine vL_nil (Sq.go ?_) | skip)
      (try refine WJ.cut ?_)
      refine OpJ.callV hsd (fun _ _ => rfl) rfl rfl rfl ?_
      (repeat (first | refine Spl.t rfl ?_ | refine Spl.f rfl ?_))
      (first | refine Sq.go ?_ | refine vL_nil (Sq.go ?_) | skip)
      (try refine WJ.cut ?_)
      refine OpJ.callV hy (fun _ _ => rfl) rfl rfl rfl ?_
      (repeat (first | refine Spl.t rfl ?_ | refine Spl.f rfl ?_))
      (first | refine Sq.go ?_ | refine vL_nil (Sq.go ?_) | skip)
      (try refine WJ.cut ?_)
      obtain ⟨ye, yn, yt⟩ := y
      simp only at fy
      by_cases hm : c.k < 0
      · rw [if_pos (.inl hm)] at fy
        subst fy
        refine Spl.f (decide_eq_false (by omega)) ?_
        (repeat (first | refine Spl.t rfl ?_ | refine Spl.f rfl ?_))
        (first | refine Sq.go ?_ | refine vL_nil (Sq.go ?_) | skip)
        (try refine vc_sound _ _ _ _ ?_)
        refine OpJ.callV Awake12_c (fun _ _ => rfl) rfl rfl rfl ?_
        (repeat (first | refine Spl.t rfl ?_ | refine Spl.f rfl ?_))
        refine OpJ.callV hcl3 (fun _ _ => rfl) rfl rfl rfl ?_
        (repeat (first | refine Spl.t rfl ?_ | refine Spl.f rfl ?_))
        exact FinP.open rfl rfl
      refine Spl.t (decide_eq_true (by omega)) ?_
      (repeat (first | refine Spl.t rfl ?_ | refine Spl.f rfl ?_))
      (first | refine Sq.go ?_ | refine vL_nil (Sq.go ?_) | skip)
      (try refine vc_sound _ _ _ _ ?_)
      refine OpJ.callV Awake12_c (fun _ _ => rfl) rfl rfl rfl ?_
      (repeat (first | refine Spl.t rfl ?_ | refine Spl.f rfl ?_))
      refine OpJ.callV hcl3 (fun _ _ => rfl) rfl rfl rfl ?_
      (repeat (first | refine Spl.t rfl ?_ | refine Spl.f rfl ?_))
      by_cases hm2 : c.k > 8
      · rw [if_pos (.inr hm2)] at fy
        subst fy
        refine Spl.t (by simp <;> omega) ?_
        (repeat (first | refine Spl.t rfl ?_ | refine Spl.f rfl ?_))
        refine Spl.f (decide_eq_false (by omega)) ?_
        (repeat (first | refine Spl.t rfl ?_ | refine Spl.f rfl ?_))
        exact FinP.open rfl (congrArg bv (by simp))
      rw [if_neg (by omega)] at fy
      subst fy
      refine Spl.t (by simp <;> omega) ?_
      (repeat (first | refine Spl.t rfl ?_ | refine Spl.f rfl ?_))
      refine Spl.t (decide_eq_true (by omega)) ?_
      (repeat (first | refine Spl.t rfl ?_ | refine Spl.f rfl ?_))
      exact FinP.open rfl (congrArg bv (by simp <;> omega))
  rw [decide_eq_false hW1] at hwr
  by_cases hk8 : c.k = 8
  · by_cases he : x.e = 0
    · have : True := trivial
      refine OpJ.callV hdo (fun _ _ => rfl) rfl rfl rfl ?_
      (repeat (first | refine Spl.t rfl ?_ | refine Spl.f rfl ?_))
      (first | refine Sq.go ?_ | refine vL_nil (Sq.go ?_) | skip)
      (try refine WJ.cut ?_)
      refine RegP.of rfl (by decide +kernel) ?_
      refine QuietP.of (QJ.call hwr (fun _ _ => rfl) rfl rfl) ?_
      (repeat (first | refine Spl.t rfl ?_ | refine Spl.f rfl ?_))
      refine Spl.f (by simp [hk8]) ?_
      (repeat (first | refine Spl.t rfl ?_ | refine Spl.f rfl ?_))
      (first | refine Sq.go ?_ | refine vL_nil (Sq.go ?_) | skip)
      (try refine WJ.cut ?_)
      refine RegP.of rfl (by decide +kernel) ?_
      refine Spl.f (by simp [he]) ?_
      (repeat (first | refine Spl.t rfl ?_ | refine Spl.f rfl ?_))
      (first | refine Sq.go ?_ | refine vL_nil (Sq.go ?_) | skip)
      (try refine WJ.cut ?_)
      refine OpJ.callV hsd (fun _ _ => rfl) rfl rfl rfl ?_
      (repeat (first | refine Spl.t rfl ?_ | refine Spl.f rfl ?_))
      (first | refine Sq.go ?_ | refine vL_nil (Sq.go ?_) | skip)
      (try refine WJ.cut ?_)
      refine OpJ.callV hy (fun _ _ => rfl) rfl rfl rfl ?_
      (repeat (first | refine Spl.t rfl ?_ | refine Spl.f rfl ?_))
      (first | refine Sq.go ?_ | refine vL_nil (Sq.go ?_) | skip)
      (try refine WJ.cut ?_)
      obtain ⟨ye, yn, yt⟩ := y
      simp only at fy
      by_cases hm : c.k < 0
      · rw [if_pos (.inl hm)] at fy
        subst fy
        refine Spl.f (decide_eq_false (by omega)) ?_
        (repeat (first | refine Spl.t rfl ?_ | refine Spl.f rfl ?_))
        (first | refine Sq.go ?_ | refine vL_nil (Sq.go ?_) | skip)
        (try refine vc_sound _ _ _ _ ?_)
        refine OpJ.callV Awake12_c (fun _ _ => rfl) rfl rfl rfl ?_
        (repeat (first | refine Spl.t rfl ?_ | refine Spl.f rfl ?_))
        refine OpJ.callV hcl3 (fun _ _ => rfl) rfl rfl rfl ?_
        (repeat (first | refine Spl.t rfl ?_ | refine Spl.f rfl ?_))
        exact FinP.open rfl rfl
      refine Spl.t (decide_eq_true (by omega)) ?_
      (repeat (first | refine Spl.t rfl ?_ | refine Spl.f rfl ?_))
      (first | refine Sq.go ?_ | refine vL_nil (Sq.go ?_) | skip)
      (try refine vc_sound _ _ _ _ ?_)
      refine OpJ.callV Awake12_c (fun _ _ => rfl) rfl rfl rfl ?_
      (repeat (first | refine Spl.t rfl ?_ | refine Spl.f rfl ?_))
      refine OpJ.callV hcl3 (fun _ _ => rfl) rfl rfl rfl ?_
      (repeat (first | refine Spl.t rfl ?_ | refine Spl.f rfl ?_))
      by_cases hm2 : c.k > 8
      · rw [if_pos (.inr hm2)] at fy
        subst fy
        refine Spl.t (by simp <;> omega) ?_
        (repeat (first | refine Spl.t rfl ?_ | refine Spl.f rfl ?_))
        refine Spl.f (decide_eq_false (by omega)) ?_
        (repeat (first | refine Spl.t rfl ?_ | refine Spl.f rfl ?_))
        exact FinP.open rfl (congrArg bv (by simp))
      rw [if_neg (by omega)] at fy
      subst fy
      refine Spl.t (by simp <;> omega) ?_
      (repeat (first | refine Spl.t rfl ?_ | refine Spl.f rfl ?_))
      refine Spl.t (decide_eq_true (by omega)) ?_
      (repeat (first | refine Spl.t rfl ?_ | refine Spl.f rfl ?_))
      exact FinP.open rfl (congrArg bv (by simp <;> omega))
    · have f1 := fs (.inr he)
      have f2 := fe he
      simp only [VS.same, Prod.mk.injEq, VS.mk.injEq] at f1
      obtain ⟨⟨rfl, rfl, rfl, rfl⟩, rfl, _⟩ := f1
      obtain ⟨xe, xn, xt⟩ := x
      simp only [RS.mk.injEq, true_and] at f2
      obtain ⟨rfl, rfl⟩ := f2
      simp only at he
      refine OpJ.callV hdo (fun _ _ => rfl) rfl rfl rfl ?_
      (repeat (first | refine Spl.t rfl ?_ | refine Spl.f rfl ?_))
      (first | refine Sq.go ?_ | refine vL_nil (Sq.go ?_) | skip)
      (try refine WJ.cut ?_)
      refine RegP.of rfl (by decide +kernel) ?_
      refine QuietP.of (QJ.call hwr (fun _ _ => rfl) rfl rfl) ?_
      (repeat (first | refine Spl.t rfl ?_ | refine Spl.f rfl ?_))
      refine Spl.f (by simp [hk8]) ?_
      (repeat (first | refine Spl.t rfl ?_ | refine Spl.f rfl ?_))
      (first | refine Sq.go ?_ | refine vL_nil (Sq.go ?_) | skip)
      (try refine WJ.cut ?_)
      refine RegP.of rfl (by decide +kernel) ?_
      refine Spl.t (by simp [he]) ?_
      (repeat (first | refine Spl.t rfl ?_ | refine Spl.f rfl ?_))
      refine QuietP.of (QJ.call hl1 (fun _ _ => rfl) rfl rfl) ?_
      (repeat (first | refine Spl.t rfl ?_ | refine Spl.f rfl ?_))
      refine QuietP.of (O.neT 3 rfl rfl rfl rfl rfl eqRS_ok eqRS_g (eqRS K7 K7)) ?_
      (repeat (first | refine Spl.t rfl ?_ | refine Spl.f rfl ?_))
      refine Spl.f (by simp) ?_
      (repeat (first | refine Spl.t rfl ?_ | refine Spl.f rfl ?_))
      (first | refine Sq.go ?_ | refine vL_nil (Sq.go ?_) | skip)
      (try refine WJ.cut ?_)
      refine OpJ.callV hsd (fun _ _ => rfl) rfl rfl rfl ?_
      (repeat (first | refine Spl.t rfl ?_ | refine Spl.f rfl ?_))
      (first | refine Sq.go ?_ | refine vL_nil (Sq.go ?_) | skip)
      (try refine WJ.cut ?_)
      refine OpJ.callV hy (fun _ _ => rfl) rfl rfl rfl ?_
      (repeat (first | refine Spl.t rfl ?_ | refine Spl.f rfl ?_))
      (first | refine Sq.go ?_ | refine vL_nil (Sq.go ?_) | skip)
      (try refine WJ.cut ?_)
      obtain ⟨ye, yn, yt⟩ := y
      simp only at fy
      by_cases hm : c.k < 0
      · rw [if_pos (.inl hm)] at fy
        subst fy
        refine Spl.f (decide_eq_false (by omega)) ?_
        (repeat (first | refine Spl.t rfl ?_ | refine Spl.f rfl ?_))
        (first | refine Sq.go ?_ | refine vL_nil (Sq.go ?_) | skip)
        (try refine vc_sound _ _ _ _ ?_)
        refine OpJ.callV Awake12_c (fun _ _ => rfl) rfl rfl rfl ?_
        (repeat (first | refine Spl.t rfl ?_ | refine Spl.f rfl ?_))
        refine OpJ.callV hcl3 (fun _ _ => rfl) rfl rfl rfl ?_
        (repeat (first | refine Spl.t rfl ?_ | refine Spl.f rfl ?_))
        exact FinP.open rfl rfl
      refine Spl.t (decide_eq_true (by omega)) ?_
      (repeat (first | refine Spl.t rfl ?_ | refine Spl.f rfl ?_))
      (first | refine Sq.go ?_ | refine vL_nil (Sq.go ?_) | skip)
      (try refine vc_sound _ _ _ _ ?_)
      refine OpJ.callV Awake12_c (fun _ _ => rfl) rfl rfl rfl ?_
      (repeat (first | refine Spl.t rfl ?_ | refine Spl.f rfl ?_))
      refine OpJ.callV hcl3 (fun _ _ => rfl) rfl rfl rfl ?_
      (repeat (first | refine Spl.t rfl ?_ | refine Spl.f rfl ?_))
      by_cases hm2 : c.k > 8
      · rw [if_pos (.inr hm2)] at fy
        subst fy
        refine Spl.t (by simp <;> omega) ?_
        (repeat (first | refine Spl.t rfl ?_ | refine Spl.f rfl ?_))
        refine Spl.f (decide_eq_false (by omega)) ?_
        (repeat (first | refine Spl.t rfl ?_ | refine Spl.f rfl ?_))
        exact FinP.open rfl (congrArg bv (by simp))
      rw [if_neg (by omega)] at fy
      subst fy
      refine Spl.t (by simp <;> omega) ?_
      (repeat (first | refine Spl.t rfl ?_ | refine Spl.f rfl ?_))
      refine Spl.t (decide_eq_true (by omega)) ?_
      (repeat (first | refine Spl.t rfl ?_ | refine Spl.f rfl ?_))
      exact FinP.open rfl (congrArg bv (by simp <;> omega))
  have f1 := fs (.inl ⟨hW1, hk8⟩)
  by_cases he : x.e = 0
  · simp only [VS.same, Prod.mk.injEq, VS.mk.injEq] at f1
    obtain ⟨⟨rfl, rfl, rfl, rfl⟩, rfl, _⟩ := f1
    refine OpJ.callV hdo (fun _ _ => rfl) rfl rfl rfl ?_
    (repeat (first | refine Spl.t rfl ?_ | refine Spl.f rfl ?_))
    (first | refine Sq.go ?_ | refine vL_nil (Sq.go ?_) | skip)
    (try refine WJ.cut ?_)
    refine RegP.of rfl (by decide +kernel) ?_
    refine QuietP.of (QJ.call hwr (fun _ _ => rfl) rfl rfl) ?_
    (repeat (first | refine Spl.t rfl ?_ | refine Spl.f rfl ?_))
    refine Spl.t (by simp [hk8]) ?_
    (repeat (first | refine Spl.t rfl ?_ | refine Spl.f rfl ?_))
    refine QuietP.of (QJ.call hl3 (fun _ _ => rfl) rfl rfl) ?_
    (repeat (first | refine Spl.t rfl ?_ | refine Spl.f rfl ?_))
    refine QuietP.of (O.neT 3 rfl rfl rfl rfl rfl eqRS_ok eqRS_g (eqRS _ _)) ?_
    (repeat (first | refine Spl.t rfl ?_ | refine Spl.f rfl ?_))
    refine Spl.f (by simp) ?_
    (repeat (first | refine Spl.t rfl ?_ | refine Spl.f rfl ?_))
    refine QuietP.of (QJ.call hl1 (fun _ _ => rfl) rfl rfl) ?_
    (repeat (first | refine Spl.t rfl ?_ | refine Spl.f rfl ?_))
    refine QuietP.of (O.neT 3 rfl rfl rfl rfl rfl eqRS_ok eqRS_g (eqRS K7 K7)) ?_
    (repeat (first | refine Spl.t rfl ?_ | refine Spl.f rfl ?_))
    refine Spl.f (by simp) ?_
    (repeat (first | refine Spl.t rfl ?_ | refine Spl.f rfl ?_))
    refine QuietP.of (QJ.call hl2 (fun _ _ => rfl) rfl rfl) ?_
    (repeat (first | refine Spl.t rfl ?_ | refine Spl.f rfl ?_))
    refine QuietP.of (O.neT 3 rfl rfl rfl rfl rfl eqRS_ok eqRS_g (eqRS K3 K3)) ?_
    (repeat (first | refine Spl.t rfl ?_ | refine Spl.f rfl ?_))
    refine Spl.f (by simp) ?_
    (repeat (first | refine Spl.t rfl ?_ | refine Spl.f rfl ?_))
    (first | refine Sq.go ?_ | refine vL_nil (Sq.go ?_) | skip)
    (try refine WJ.cut ?_)
    refine RegP.of rfl (by decide +kernel) ?_
    refine Spl.f (by simp [he]) ?_
    (repeat (first | refine Spl.t rfl ?_ | refine Spl.f rfl ?_))
    (first | refine Sq.go ?_ | refine vL_nil (Sq.go ?_) | skip)
    (try refine WJ.cut ?_)
    refine OpJ.callV hsd (fun _ _ => rfl) rfl rfl rfl ?_
    (repeat (first | refine Spl.t rfl ?_ | refine Spl.f rfl ?_))
    (first | refine Sq.go ?_ | refine vL_nil (Sq.go ?_) | skip)
    (try refine WJ.cut ?_)
    refine OpJ.callV hy (fun _ _ => rfl) rfl rfl rfl ?_
    (repeat (first | refine Spl.t rfl ?_ | refine Spl.f rfl ?_))
    (first | refine Sq.go ?_ | refine vL_nil (Sq.go ?_) | skip)
    (try refine WJ.cut ?_)
    obtain ⟨ye, yn, yt⟩ := y
    simp only at fy
    by_cases hm : c.k < 0
    · rw [if_pos (.inl hm)] at fy
      subst fy
      refine Spl.f (decide_eq_false (by omega)) ?_
      (repeat (first | refine Spl.t rfl ?_ | refine Spl.f rfl ?_))
      (first | refine Sq.go ?_ | refine vL_nil (Sq.go ?_) | skip)
      (try refine vc_sound _ _ _ _ ?_)
      refine OpJ.callV Awake12_c (fun _ _ => rfl) rfl rfl rfl ?_
      (repeat (first | refine Spl.t rfl ?_ | refine Spl.f rfl ?_))
      refine OpJ.callV hcl3 (fun _ _ => rfl) rfl rfl rfl ?_
      (repeat (first | refine Spl.t rfl ?_ | refine Spl.f rfl ?_))
      exact FinP.open rfl rfl
    refine Spl.t (decide_eq_true (by omega)) ?_
    (repeat (first | refine Spl.t rfl ?_ | refine Spl.f rfl ?_))
    (first | refine Sq.go ?_ | refine vL_nil (Sq.go ?_) | skip)
    (try refine vc_sound _ _ _ _ ?_)
    refine OpJ.callV Awake12_c (fun _ _ => rfl) rfl rfl rfl ?_
    (repeat (first | refine Spl.t rfl ?_ | refine Spl.f rfl ?_))
    refine OpJ.callV hcl3 (fun _ _ => rfl) rfl rfl rfl ?_
    (repeat (first | refine Spl.t rfl ?_ | refine Spl.f rfl ?_))
    by_cases hm2 : c.k > 8
    · rw [if_pos (.inr hm2)] at fy
      subst fy
      refine Spl.t (by simp <;> omega) ?_
      (repeat (first | refine Spl.t rfl ?_ | refine Spl.f rfl ?_))
      refine Spl.f (decide_eq_false (by omega)) ?_
      (repeat (first | refine Spl.t rfl ?_ | refine Spl.f rfl ?_))
      exact FinP.open rfl (congrArg bv (by simp))
    rw [if_neg (by omega)] at fy
    subst fy
    refine Spl.t (by simp <;> omega) ?_
    (repeat (first | refine Spl.t rfl ?_ | refine Spl.f rfl ?_))
    refine Spl.t (decide_eq_true (by omega)) ?_
    (repeat (first | refine Spl.t rfl ?_ | refine Spl.f rfl ?_))
    exact FinP.open rfl (congrArg bv (by simp <;> omega))
  · have f2 := fe he
    simp only [VS.same, Prod.mk.injEq, VS.mk.injEq] at f1
    obtain ⟨⟨rfl, rfl, rfl, rfl⟩, rfl, _⟩ := f1
    obtain ⟨xe, xn, xt⟩ := x
    simp only [RS.mk.injEq, true_and] at f2
    obtain ⟨rfl, rfl⟩ := f2
    simp only at he
    refine OpJ.callV hdo (fun _ _ => rfl) rfl rfl rfl ?_
    (repeat (first | refine Spl.t rfl ?_ | refine Spl.f rfl ?_))
    (first | refine Sq.go ?_ | refine vL_nil (Sq.go ?_) | skip)
    (try refine WJ.cut ?_)
    refine RegP.of rfl (by decide +kernel) ?_
    refine QuietP.of (QJ.call hwr (fun _ _ => rfl) rfl rfl) ?_
    (repeat (first | refine Spl.t rfl ?_ | refine Spl.f rfl ?_))
    refine Spl.t (by simp [hk8]) ?_
    (repeat (first | refine Spl.t rfl ?_ | refine Spl.f rfl ?_))
    refine QuietP.of (QJ.call hl3 (fun _ _ => rfl) rfl rfl) ?_
    (repeat (first | refine Spl.t rfl ?_ | refine Spl.f rfl ?_))
    refine QuietP.of (O.neT 3 rfl rfl rfl rfl rfl eqRS_ok eqRS_g (eqRS _ _)) ?_
    (repeat (first | refine Spl.t rfl ?_ | refine Spl.f rfl ?_))
    refine Spl.f (by simp) ?_
    (repeat (first | refine Spl.t rfl ?_ | refine Spl.f rfl ?_))
    refine QuietP.of (QJ.call hl1 (fun _ _ => rfl) rfl rfl) ?_
    (repeat (first | refine Spl.t rfl ?_ | refine Spl.f rfl ?_))
    refine QuietP.of (O.neT 3 rfl rfl rfl rfl rfl eqRS_ok eqRS_g (eqRS K7 K7)) ?_
    (repeat (first | refine Spl.t rfl ?_ | refine Spl.f rfl ?_))
    refine Spl.f (by simp) ?_
    (repeat (first | refine Spl.t rfl ?_ | refine Spl.f rfl ?_))
    refine QuietP.of (QJ.call hl2 (fun _ _ => rfl) rfl rfl) ?_
    (repeat (first | refine Spl.t rfl ?_ | refine Spl.f rfl ?_))
    refine QuietP.of (O.neT 3 rfl rfl rfl rfl rfl eqRS_ok eqRS_g (eqRS K3 K3)) ?_
    (repeat (first | refine Spl.t rfl ?_ | refine Spl.f rfl ?_))
    refine Spl.f (by simp) ?_
    (repeat (first | refine Spl.t rfl ?_ | refine Spl.f rfl ?_))
    (first | refine Sq.go ?_ | refine vL_nil (Sq.go ?_) | skip)
    (try refine WJ.cut ?_)
    refine RegP.of rfl (by decide +kernel) ?_
    refine Spl.t (by simp [he]) ?_
    (repeat (first | refine Spl.t rfl ?_ | refine Spl.f rfl ?_))
    refine QuietP.of (QJ.call hl1 (fun _ _ => rfl) rfl rfl) ?_
    (repeat (first | refine Spl.t rfl ?_ | refine Spl.f rfl ?_))
    refine QuietP.of (O.neT 3 rfl rfl rfl rfl rfl eqRS_ok eqRS_g (eqRS K7 K7)) ?_
    (repeat (first | refine Spl.t rfl ?_ | refine Spl.f rfl ?_))
    refine Spl.f (by simp) ?_
    (repeat (first | refine Spl.t rfl ?_ | refine Spl.f rfl ?_))
    (first | refine Sq.go ?_ | refine vL_nil (Sq.go ?_) | skip)
    (try refine WJ.cut ?_)
    refine OpJ.callV hsd (fun _ _ => rfl) rfl rfl rfl ?_
    (repeat (first | refine Spl.t rfl ?_ | refine Spl.f rfl ?_))
    (first | refine Sq.go ?_ | refine vL_nil (Sq.go ?_) | skip)
    (try refine WJ.cut ?_)
    refine OpJ.callV hy (fun _ _ => rfl) rfl rfl rfl ?_
    (repeat (first | refine Spl.t rfl ?_ | refine Spl.f rfl ?_))
    (first | refine Sq.go ?_ | refine vL_nil (Sq.go ?_) | skip)
    (try refine WJ.cut ?_)
    obtain ⟨ye, yn, yt⟩ := y
    simp only at fy
    by_cases hm : c.k < 0
    · rw [if_pos (.inl hm)] at fy
      subst fy
      refine Spl.f (decide_eq_false (by omega)) ?_
      (repeat (first | refine Spl.t rfl ?_ | refine Spl.f rfl ?_))
      (first | refine Sq.go ?_ | refine vL_nil (Sq.go ?_) | skip)
      (try refine vc_sound _ _ _ _ ?_)
      refine OpJ.callV Awake12_c (fun _ _ => rfl) rfl rfl rfl ?_
      (repeat (first | refine Spl.t rfl ?_ | refine Spl.f rfl ?_))
      refine OpJ.callV hcl3 (fun _ _ => rfl) rfl rfl rfl ?_
      (repeat (first | refine Spl.t rfl ?_ | refine Spl.f rfl ?_))
      exact FinP.open rfl rfl
    refine Spl.t (decide_eq_true (by omega)) ?_
    (repeat (first | refine Spl.t rfl ?_ | refine Spl.f rfl ?_))
    (first | refine Sq.go ?_ | refine vL_nil (Sq.go ?_) | skip)
    (try refine vc_sound _ _ _ _ ?_)
    refine OpJ.callV Awake12_c (fun _ _ => rfl) rfl rfl rfl ?_
    (repeat (first | refine Spl.t rfl ?_ | refine Spl.f rfl ?_))
    refine OpJ.callV hcl3 (fun _ _ => rfl) rfl rfl rfl ?_
    (repeat (first | refine Spl.t rfl ?_ | refine Spl.f rfl ?_))
    by_cases hm2 : c.k > 8
    · rw [if_pos (.inr hm2)] at fy
      subst fy
      refine Spl.t (by simp <;> omega) ?_
      (repeat (first | refine Spl.t rfl ?_ | refine Spl.f rfl ?_))
      refine Spl.f (decide_eq_false (by omega)) ?_
      (repeat (first | refine Spl.t rfl ?_ | refine Spl.f rfl ?_))
      exact FinP.open rfl (congrArg bv (by simp))
    rw [if_neg (by omega)] at fy
    subst fy
    refine Spl.t (by simp <;> omega) ?_
    (repeat (first | refine Spl.t rfl ?_ | refine Spl.f rfl ?_))
    refine Spl.t (decide_eq_true (by omega)) ?_
    (repeat (first | refine Spl.t rfl ?_ | refine Spl.f rfl ?_))
    exact FinP.open rfl (congrArg bv (by simp <;> omega))
end Go.Proofs.E
end
