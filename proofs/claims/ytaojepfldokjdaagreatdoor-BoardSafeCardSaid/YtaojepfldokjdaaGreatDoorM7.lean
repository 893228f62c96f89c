/- Laws that the claim's text stands on: A region that draws its order, in which some stores into private variables do not wait for what stands ahead of them; A version: an operation that can be applied is taken in; A version: an operation of another replica, by the closure that takes it in; A version: an operation of another replica; A version, as the document has it: an operation of another replica; A version: Insert and Delete of this replica; A version, as the document has it: Insert and Delete of this replica; A version: the law's comparisons; A version: an act, by the program and by the document; A room of operations that wait: the law's example; A version: the law's example; A version: the law VersionPlays; A cursor: what its calls answer, and the document's; A cursor, as the document has it; the law's versions; A region that draws its order: quiet operations, births, and stores into private variables that do not wait for what stands ahead of them; A cursor: the law's example; the law CursorTells; A private row is given up, and begun anew; A quiet call of a function's value; A replica: what its looks answer; A replica: its calls; A replica: Changes, Do, Look; the law's comparisons; A replica: Do, Look, New, the kinds' words, the example; the document's sum; A replica, as the document has it; the example; A replica: the law's example; the law ReplicaPlays; A replica: the law ReplicaPlays; A replica: the law ReplicaLooks; Traces: what happens ahead of what, and the clocks that tell it; Clocks: what the functions that read and widen them answer; Clocks: what ticks, and is joined, and compared. -/
import Derived.Test.YtaojepfldokjdaaGreatDoorM1
import Derived.Test.YtaojepfldokjdaaGreatDoorM2
import Derived.Test.YtaojepfldokjdaaGreatDoorM3
import Derived.Test.YtaojepfldokjdaaGreatDoorDShelf
import Derived.Test.YtaojepfldokjdaaGreatDoorM4
import Derived.Test.YtaojepfldokjdaaGreatDoorM5
import Derived.Test.YtaojepfldokjdaaGreatDoorM6
set_option linter.unusedVariables false
set_option linter.unusedSimpArgs false
section
namespace Go.Gv
open Go.RowKit
/-- What is private, some of the variables stored into anew. -/
def sAt (F : Nat → Option (Nat × Ent × Ent)) (S : Nat → Bool) (σ : Sg) : Nat → Sg
  | 0 => σ
  | k + 1 => match F k with
    | some (i, e, f) => (i, match S k with | true => f | false => e) :: sAt F S σ k
    | none => sAt F S σ k
theorem sAt_congr {F : Nat → Option (Nat × Ent × Ent)} {S S' : Nat → Bool} {σ : Sg} : ∀ k, (∀ j, j < k → F j ≠ none → S j = S' j) → sAt F S σ k = sAt F S' σ k
  | 0, _ => rfl
  | k + 1, h => by
    simp only [sAt]
    rw [sAt_congr k fun j hj => h j (by omega)]
    cases hE : F k with
    | none => rfl
    | some p => simp only [h k (by omega) (by rw [hE]; exact fun h => by cases h)]
theorem sAt_old {F : Nat → Option (Nat × Ent × Ent)} {S : Nat → Bool} {σ : Sg} {x : Nat} {a : Ent} {m : Nat} (hx : look x σ = some a) (hn : ∀ i y e f, i < m → F i = some (y, e, f) → y ≠ x) : ∀ k, k ≤ m → look x (sAt F S σ k) = some a
  | 0, _ => hx
  | k + 1, hk => by
    have ih := sAt_old (S := S) hx hn k (by omega)
    simp only [sAt]
    cases hF : F k with
    | none => exact ih
    | some q =>
      obtain ⟨y, e, f⟩ := q
      simp only
      rw [look_cons, if_neg (fun h => hn k y e f (by omega) hF h.symm)]
      exact ih
theorem sAt_is {F : Nat → Option (Nat × Ent × Ent)} {S : Nat → Bool} {σ : Sg} {m : Nat} (hd : ∀ i j x e f e' f', i < m → j < m → F i = some (x, e, f) → F j = some (x, e', f') → i = j) {i x : Nat} {e f : Ent} (him : i < m) (hE : F i = some (x, e, f)) :
    ∀ k, k ≤ m → i < k → look x (sAt F S σ k) = some (match S i with | true => f | false => e)
  | 0, _, h => by omega
  | k + 1, hk, h => by
    by_cases hik : i = k
    · subst hik
      simp only [sAt, hE, look_cons, if_true]
    · have ih := sAt_is (S := S) (σ := σ) hd him hE k (by omega) (by omega)
      simp only [sAt]
      cases hF : F k with
      | none => exact ih
      | some q =>
        obtain ⟨y, e', f'⟩ := q
        simp only
        rw [look_cons, if_neg (fun h => hik (by subst h; exact hd i k _ _ _ _ _ him (by omega) hE hF))]
        exact ih
theorem sAt_step {F : Nat → Option (Nat × Ent × Ent)} {S : Nat → Bool} {σ : Sg} {m : Nat} (hd : ∀ i j x e f e' f', i < m → j < m → F i = some (x, e, f) → F j = some (x, e', f') → i = j) {i x : Nat} {e f : Ent} (him : i < m) (hE : F i = some (x, e, f)) {y : Nat} :
    ∀ k, k ≤ m → i < k → look y (sAt F (fun j => if j = i then true else S j) σ k) = if y = x then some f else look y (sAt F S σ k) := by
  have same : ∀ k, k ≤ i → sAt F (fun j => if j = i then true else S j) σ k = sAt F S σ k := fun k hk => sAt_congr k fun j hj _ => if_neg (by omega)
  intro k
  induction k with
  | zero => intro _ h; omega
  | succ k ih =>
    intro hk h
    by_cases hik : i = k
    · subst hik
      simp only [sAt, hE, if_true, look_cons]
      split
      · rfl
      · rw [same i (Nat.le_refl _)]
    · have ih := ih (by omega) (by omega)
      simp only [sAt]
      cases hF : F k with
      | none => exact ih
      | some q =>
        obtain ⟨z, e', f'⟩ := q
        have hz : z ≠ x := fun h => hik (by subst h; exact hd i k _ _ _ _ _ him (by omega) hE hF)
        have hki : (if k = i then true else S k) = S k := if_neg (fun h => hik h.symm)
        simp only [hki]
        rw [look_cons, look_cons]
        by_cases hy : y = z
        · rw [if_pos hy, if_pos hy, if_neg (fun h => hz (hy.symm.trans h))]
        · rw [if_neg hy, if_neg hy]; exact ih
theorem listT (f : Nat → Option AV) : ∀ n, ∃ t : T, ∀ x, look x t = if x < n then f x else none
  | 0 => ⟨[], fun x => by rw [if_neg (by omega)]; rfl⟩
  | n + 1 => by
    obtain ⟨t, ht⟩ := listT f n
    cases hf : f n with
    | none =>
      refine ⟨t, fun x => ?_⟩
      rw [ht]
      by_cases e : x = n
      · subst e; rw [if_neg (by omega), if_pos (by omega), hf]
      · by_cases h : x < n
        · rw [if_pos h, if_pos (by omega)]
        · rw [if_neg h, if_neg (by omega)]
    | some v =>
      refine ⟨(n, v) :: t, fun x => ?_⟩
      rw [look_cons]
      by_cases e : x = n
      · subst e; rw [if_pos rfl, if_pos (by omega), hf]
      · rw [if_neg e, ht]
        by_cases h : x < n
        · rw [if_pos h, if_pos (by omega)]
        · rw [if_neg h, if_neg (by omega)]
/-- A store into a private variable, whenever it is done. -/
def StoreJ (X : Cx) (o : Oper) (t : T) (id : Nat) (e f : Ent) : Prop :=
  o.guard = none ∧ o.dst = none ∧ ∀ (t' : T) (σ' : Sg), (∀ x, x ∈ o.op.operands → ∀ v, ge t x = some v → ge t' x = some v) → look id σ' = some e → OpJ X o t' σ' (fun t2 σ2 => t2 = t' ∧ σ2 = (id, f) :: σ')
def SStep (X : Cx) (all : Array Oper) (o : Oper) (t : T) (σ : Sg) (V : AV) (F : Option (Nat × Ent × Ent)) : Prop :=
  (F = none ∧ OStep X all o t σ V) ∨ (∃ id e f, F = some (id, e, f) ∧ StoreJ X o t id e f)
theorem calm_anyS {X : Cx} {all : Array Oper} {m : Nat} {t0 : T} {σ : Sg} {V : Nat → AV} {F : Nat → Option (Nat × Ent × Ent)} {Q' : Exit → Act → World → Prop} (hc : CalmR all m) (hm : m ≤ all.size)
    (hstep : ∀ i o, i < m → all[i]? = some o → SStep X all o (states all V t0 i) σ (V i) (F i) ∧ dOk o.dst X.N = true)
    (hds : ∀ i j x e f e' f', i < m → j < m → F i = some (x, e, f) → F j = some (x, e', f') → i = j) (hout : ∀ i x e f, i < m → F i = some (x, e, f) → look x σ = none)
    (hend : ∀ γ H a w listed, St X γ H (states all V t0 m) (sAt F (fun _ => true) σ m) a w → listed.size = all.size → (∀ j, j < all.size → listed.getD j false = decide (j < m)) → wpAnyIn (Fr X.ro) 0 X.P .any all Q' (all.size - m) listed a w) :
    ∀ (fuel : Nat) (listed : Array Bool) (γ : Ids) (H : HF) (a : Act) (w : World), listed.size = all.size →
      (∀ j, m ≤ j → listed.getD j false = false) → (∀ i o, listed.getD i false = true → all[i]? = some o → ∀ e, e ∈ o.after → Region.binds .any e = true → listed.getD e.on false = true) →
      ((List.range m).filter fun j => !listed.getD j false).length + (all.size - m) = fuel →
      TabOk γ H (tabAt all V t0 (fun j => listed.getD j false) m) a.tmps → St X γ H [] (sAt F (fun j => listed.getD j false) σ m) a w →
      wpAnyIn (Fr X.ro) 0 X.P .any all Q' fuel listed a w := by
  intro fuel
  induction fuel with
  | zero =>
    intro listed γ H a w hs htail hclosed hcount htab sst
    have hall : ∀ j, j < m → listed.getD j false = true := fun j hj => by
      have h0 : ((List.range m).filter fun j => !listed.getD j false) = [] := List.length_eq_zero_iff.1 (by omega)
      have := List.filter_eq_nil_iff.1 h0 j (List.mem_range.2 hj)
      simpa using this
    have hmn : m = all.size := by omega
    have hst : St X γ H (states all V t0 m) (sAt F (fun _ => true) σ m) a w := St.withT (by have h9 := sst; rw [sAt_congr (S' := fun _ => true) m (fun j hj _ => hall j hj)] at h9; exact h9) (fun i b hi => htab i b (by
      rw [look_states] at hi
      rw [← hi]
      simp only [tabAt]
      rw [lastW_congr m (fun j hj _ => hall j hj)]))
    have := hend γ H a w listed hst hs (fun j hj => by rw [hall j (by omega)]; simp; omega)
    rw [show all.size - m = 0 from by omega] at this; exact this
  | succ fuel ih =>
    intro listed γ H a w hs htail hclosed hcount htab sst
    by_cases hall : ∀ j, j < m → listed.getD j false = true
    · -- the calm part is over
      have hst : St X γ H (states all V t0 m) (sAt F (fun _ => true) σ m) a w := St.withT (by have h9 := sst; rw [sAt_congr (S' := fun _ => true) m (fun j hj _ => hall j hj)] at h9; exact h9) (fun i b hi => htab i b (by
        rw [look_states] at hi
        rw [← hi]
        simp only [tabAt]
        rw [lastW_congr m (fun j hj _ => hall j hj)]))
      have h0 : ((List.range m).filter fun j => !listed.getD j false) = [] := List.filter_eq_nil_iff.2 fun j hj => by simp only [hall j (List.mem_range.1 hj)]; simp
      rw [h0] at hcount
      simp only [List.length_nil, Nat.zero_add] at hcount
      have := hend γ H a w listed hst hs (fun j hj => by
        by_cases hj' : j < m
        · rw [hall j hj']; simp [hj']
        · rw [htail j (by omega)]; simp; omega)
      rw [hcount] at this
      exact this
    · refine ⟨fun hn => ?_, fun i hi => ?_⟩
      · -- the least that is not listed is ready
        exfalso
        have hex : ∃ j, j < m ∧ listed.getD j false = false := by
          refine Classical.byContradiction fun hno => hall fun j hj => ?_
          cases hx : listed.getD j false with
          | true => rfl
          | false => exact absurd ⟨j, hj, hx⟩ hno
        have hmin : ∃ j, j < m ∧ listed.getD j false = false ∧ ∀ i, i < j → listed.getD i false = true := by
          obtain ⟨j, hj⟩ := hex
          induction j using Nat.strongRecOn with
          | _ j ihj =>
            by_cases hlow : ∀ i, i < j → listed.getD i false = true
            · exact ⟨j, hj.1, hj.2, hlow⟩
            · have : ∃ i, i < j ∧ listed.getD i false = false := by
                refine Classical.byContradiction fun hno => hlow fun i hi => ?_
                cases hx : listed.getD i false with
                | true => rfl
                | false => exact absurd ⟨i, hi, hx⟩ hno
              obtain ⟨i, hi, hx⟩ := this
              exact ihj i hi ⟨by omega, hx⟩
        obtain ⟨j, hj, hjl, hlow⟩ := hmin
        have hjn : j < all.size := by omega
        have hmem' : j ∈ Region.ready .any all listed := by
          rw [mem_ready]
          refine ⟨?_, all[j], by simp [hjn], fun e he hb => hlow _ (hc.back j all[j] (by simp [hjn]) e he hb)⟩
          rw [Array.getD_eq_getD_getElem?] at hjl ⊢
          rw [Array.getElem?_eq_getElem (by omega)] at hjl ⊢
          simpa using hjl
        rw [hn] at hmem'; cases hmem'
      · obtain ⟨h1, o, ho, h2⟩ := ready_sound hi
        obtain ⟨hil, hif⟩ := getD_of h1
        have hin : i < all.size := (Array.getElem?_eq_some_iff.1 ho).1
        have him : i < m := by
          refine Classical.byContradiction fun hge => hall fun j hj => ?_
          exact anc_listed hclosed (hc.tail i o ho (by omega) j hj) ho h2
        -- who writes what i names: listed just if it stands ahead
        have hwr : ∀ x, namesT all o x = true → ∀ j, j < m → dstAt all j = some x → listed.getD j false = decide (j < i) := by
          intro x hx j hj hd'
          cases hp : all[j]? with
          | none => simp [dstAt, hp] at hd'
          | some p =>
            simp only [dstAt, hp, Option.bind_some] at hd'
            by_cases hji : j < i
            · rcases hc.names i o (by omega) ho j p hji hp with h3 | ⟨h3, _⟩
              · rw [edge_listed h3 h2]; simp [hji]
              · rw [h3 x hd'] at hx; cases hx
            · by_cases e : j = i
              · subst e; rw [hif]; simp
              · rcases hc.names j p (by omega) hp i o (by omega) ho with h3 | ⟨_, h3⟩
                · cases hlj : listed.getD j false with
                  | false => simp; omega
                  | true =>
                    have := edge_listed h3 (hclosed j p hlj hp)
                    rw [hif] at this; cases this
                · rw [h3 x hd'] at hx; cases hx
        have htab_i : ∀ x, namesT all o x = true → tabAt all V t0 (fun j => listed.getD j false) m x = look x (states all V t0 i) := by
          intro x hx
          rw [look_states]
          simp only [tabAt]
          rw [lastW_congr m (fun j hj hd' => hwr x hx j hj hd'), lastW_top m (by omega)]
        have hopnd : ∀ x, x ∈ o.op.operands → ∀ v, ge (states all V t0 i) x = some v → Rep γ H v (a.eval x) := by
          intro x hx v hv
          cases x with
          | tmp y =>
            have hy : namesT all o y = true := by
              simp only [namesT, Bool.or_eq_true]
              exact .inl (.inr (List.any_eq_true.2 ⟨_, Array.mem_toList_iff.2 hx, by simp [hasT]⟩))
            obtain ⟨u, hu, hr⟩ := htab y v (by rw [htab_i y hy]; exact hv)
            simp only [Act.eval, Array.getD_eq_getD_getElem?, hu, Option.getD_some]
            exact hr
          | const c => simp only [ge, Option.some.injEq] at hv; subst hv; exact rep_const γ H c
          | func f => simp only [ge, Option.some.injEq] at hv; subst hv; exact .d _ _ (.fn f [] [] rfl (fun j a u h1 => by simp at h1))
          | global g => simp [ge] at hv
        obtain ⟨hos, hdok⟩ := hstep i o him ho
        -- how many are left
        have hleft : ((List.range m).filter fun j => !(listed.setIfInBounds i true).getD j false).length + (all.size - m) = fuel := by
          have hf : ((List.range m).filter fun j => !listed.getD j false).length = ((List.range m).filter fun j => !(listed.setIfInBounds i true).getD j false).length + 1 := by
            have h5 : ∀ (l : List Nat), l.Nodup → i ∈ l → (l.filter fun j => !listed.getD j false).length = (l.filter fun j => !(listed.setIfInBounds i true).getD j false).length + 1 := by
              intro l
              induction l with
              | nil => intro _ h; cases h
              | cons b l ihl =>
                intro hnd hmem'
                rw [List.nodup_cons] at hnd
                by_cases e : i = b
                · subst e
                  have h6 : (listed.setIfInBounds i true).getD i false = true := by
                    rw [Array.getD_eq_getD_getElem?]; simp [hil]
                  have h7 : (l.filter fun j => !listed.getD j false) = (l.filter fun j => !(listed.setIfInBounds i true).getD j false) := by
                    refine List.filter_congr fun j hj => ?_
                    have hne : i ≠ j := fun e => hnd.1 (e ▸ hj)
                    rw [getD_set_ne false hne]
                  simp only [List.filter_cons, hif, h6, Bool.not_false, Bool.not_true, if_true, h7, List.length_cons, Bool.false_eq_true, if_false]
                · have h6 := getD_set_ne (listed := listed) false e
                  have h7 := ihl hnd.2 (by rcases List.mem_cons.1 hmem' with h | h; exact absurd h e; exact h)
                  simp only [List.filter_cons, h6]
                  split <;> simp only [List.length_cons, h7]
            exact h5 _ List.nodup_range (List.mem_range.2 him)
          omega
        have hclosed' : ∀ j p, (listed.setIfInBounds i true).getD j false = true → all[j]? = some p → ∀ e, e ∈ p.after → Region.binds .any e = true → (listed.setIfInBounds i true).getD e.on false = true := fun j p hj hp e he hb => by
          by_cases e' : i = j
          · subst e'
            rw [ho] at hp; simp only [Option.some.injEq] at hp; subst hp
            exact getD_set_true (h2 e he hb)
          · rw [getD_set_ne false e'] at hj
            exact getD_set_true (hclosed j p hj hp e he hb)
        have htail' : ∀ j, m ≤ j → (listed.setIfInBounds i true).getD j false = false := fun j hj => by
          rw [getD_set_ne false (by omega)]; exact htail j hj
        have hset : (fun j => (listed.setIfInBounds i true).getD j false) = fun j => if j = i then true else listed.getD j false := funext fun j => by
          by_cases e : j = i
          · subst e; rw [if_pos rfl, Array.getD_eq_getD_getElem?]; simp [hil]
          · rw [if_neg e, getD_set_ne false (fun h => e h.symm)]
        -- behind a quiet one
        have hnext : F i = none → ∀ v γ' σ' H' w', Mem w H (fun _ => False) γ' H' σ' w' → Rep γ H' (V i) v → wpAnyIn (Fr X.ro) 0 X.P .any all Q' fuel (listed.setIfInBounds i true) (a.put o.dst v) w' := by
          intro hE v γ' σ' H' w' hm' hr
          have sst' : St X γ H' [] (sAt F (fun j => (listed.setIfInBounds i true).getD j false) σ m) (a.put o.dst v) w' := by
            have h9 := sst.calm (d := o.dst) hm' hdok hr
            rw [sAt_congr (S' := fun j => listed.getD j false) m (fun j hj hne => by
              have e' : i ≠ j := fun e => by subst e; exact hne hE
              exact getD_set_ne false e')]
            exact h9.wk (Wk.nil _) (Wk.refl _)
          refine ih _ γ H' _ w' (by simpa using hs) htail' hclosed' hleft ?_ sst'
          · -- the table
            intro x b hx
            by_cases hxd : o.dst = some x
            · have hlw : tabAt all V t0 (fun j => (listed.setIfInBounds i true).getD j false) m x = some (V i) := by
                have hnx : namesT all o x = true := by simp [namesT, hxd]
                simp only [tabAt]
                have : lastW all (fun j => (listed.setIfInBounds i true).getD j false) x m = lastW all (fun j => decide (j < i + 1)) x m := by
                  refine lastW_congr m fun j hj hd' => ?_
                  by_cases e : i = j
                  · subst e; rw [Array.getD_eq_getD_getElem?]; simp [hil]
                  · show (listed.setIfInBounds i true).getD j false = _
                    rw [getD_set_ne false e, hwr x hnx j hj hd']
                    simp; omega
                rw [this, lastW_top m (by omega)]
                have hda : dstAt all i = some x := by simp [dstAt, ho, hxd]
                simp [lastW, hda]
              rw [hlw] at hx
              simp only [Option.some.injEq] at hx
              subst hx
              have hlt : x < a.tmps.size := by have := sst.size; rw [hxd] at hdok; simp only [dOk, Nat.blt_eq] at hdok; omega
              exact ⟨v, by rw [hxd]; simp [Act.put, hlt], hr⟩
            · have hlw : tabAt all V t0 (fun j => (listed.setIfInBounds i true).getD j false) m x = tabAt all V t0 (fun j => listed.getD j false) m x := by
                simp only [tabAt]
                rw [lastW_congr m fun j hj hd' => ?_]
                have e : i ≠ j := fun e => by subst e; simp [dstAt, ho] at hd'; exact hxd hd'
                exact getD_set_ne false e
              rw [hlw] at hx
              obtain ⟨u, hu, hr'⟩ := htab x b hx
              refine ⟨u, ?_, hr'.mono hm'.hle⟩
              cases hod : o.dst with
              | none => simpa [Act.put, hod] using hu
              | some d =>
                have hne : d ≠ x := fun e => hxd (by rw [hod, e])
                simp only [Act.put]
                rw [Array.getElem?_setIfInBounds, if_neg hne]; exact hu
        have hmemσ : Mem X.w0 X.H0 X.B γ H σ w := sst.mem.wk (fun x e hx => sAt_old hx (fun j y e' f' hj hF hyx => by
          subst hyx
          rw [hout j _ _ _ hj hF] at hx; cases hx) m (Nat.le_refl _))
        -- its guard
        have hguard : ∀ j b' d b, o.guard = some (j, b') → ((all[j]?).bind (·.dst)) = some d → look d (states all V t0 i) = some (.d (.v (.bool b))) → yielded all a.tmps j = some b := by
          intro j b' d b hg hd' hl
          have hnd : namesT all o d = true := by simp [namesT, hg, hd']
          obtain ⟨u, hu, hr⟩ := htab d _ (by rw [htab_i d hnd]; exact hl)
          have := rep_v hr
          subst this
          simp [yielded, hd', hu]
        have hguardU : ∀ j b' d, o.guard = some (j, b') → ((all[j]?).bind (·.dst)) = some d → look d (states all V t0 i) = some (.tup []) → yielded all a.tmps j = none := by
          intro j b' d hg hd' hl
          have hnd : namesT all o d = true := by simp [namesT, hg, hd']
          obtain ⟨u, hu, hr⟩ := htab d _ (by rw [htab_i d hnd]; exact hl)
          have := rep_undef_eq hr
          subst this
          simp [yielded, hd', hu, undef]
        unfold wpOpIn
        simp only [ho]
        rcases hos with ⟨hE, ⟨hg, hq⟩ | ⟨j, b, d, hg, hd', hl, hq⟩ | ⟨j, b, b', d, hg, hd', hl, hne, hV⟩ | ⟨j, b, d, hg, hd', hl, hV⟩⟩ | ⟨id, en, en', hE, hst⟩
        · have hw : Region.wanted o (yielded all a.tmps) = true := by simp [Region.wanted, hg]
          rw [if_pos hw]
          exact ⟨fun _ _ => trivial, hq γ H a w sst.lam hopnd hmemσ _ _ (hnext hE)⟩
        · have hw : Region.wanted o (yielded all a.tmps) = true := by simp [Region.wanted, hg, hguard j b d b hg hd' hl]
          rw [if_pos hw]
          exact ⟨fun _ _ => trivial, hq γ H a w sst.lam hopnd hmemσ _ _ (hnext hE)⟩
        · have hw : Region.wanted o (yielded all a.tmps) = false := by simp [Region.wanted, hg, hguard j b d b' hg hd' hl, hne]
          simp only [hw, Bool.false_eq_true, if_false]
          exact ⟨fun _ _ => trivial, hnext hE undef γ [] H w (sst.mem.refl γ) (by rw [hV]; exact rep_undef)⟩
        · have hw : Region.wanted o (yielded all a.tmps) = false := by simp [Region.wanted, hg, hguardU j b d hg hd' hl]
          simp only [hw, Bool.false_eq_true, if_false]
          exact ⟨fun _ _ => trivial, hnext hE undef γ [] H w (sst.mem.refl γ) (by rw [hV]; exact rep_undef)⟩
        · obtain ⟨hg, hd0, hj⟩ := hst
          have hw : Region.wanted o (yielded all a.tmps) = true := by simp [Region.wanted, hg]
          rw [if_pos hw]
          refine ⟨fun _ _ => trivial, ?_⟩
          -- all temporaries, told asz a list
          obtain ⟨tc, htc⟩ : ∃ tc : T, ∀ x, look x tc = tabAt all V t0 (fun j => listed.getD j false) m x := by
            obtain ⟨tc, h5⟩ := listT (fun x => tabAt all V t0 (fun j => listed.getD j false) m x) a.tmps.size
            refine ⟨tc, fun x => ?_⟩
            rw [h5]
            split
            · rfl
            · next hx =>
              cases hv : tabAt all V t0 (fun j => listed.getD j false) m x with
              | none => rfl
              | some b =>
                obtain ⟨u, hu, _⟩ := htab x b hv
                exact absurd (Array.getElem?_eq_some_iff.1 hu).1 hx
          have hsc : St X γ H tc (sAt F (fun j => listed.getD j false) σ m) a w := St.withT sst (fun x b hx => htab x b (by rw [← htc]; exact hx))
          have hlk : look id (sAt F (fun j => listed.getD j false) σ m) = some en := by
            rw [sAt_is (fun i j x e f e' f' hi hj h1 h2 => hds i j x e f e' f' hi hj h1 h2) him hE m (Nat.le_refl _) him]
            simp only [hif]
          have key := hj tc (sAt F (fun j => listed.getD j false) σ m) (fun x hx v hv => by
            cases x with
            | tmp y =>
              have hy : namesT all o y = true := by
                simp only [namesT, Bool.or_eq_true]
                exact .inl (.inr (List.any_eq_true.2 ⟨_, Array.mem_toList_iff.2 hx, by simp [hasT]⟩))
              show look y tc = some v
              rw [htc, htab_i y hy]; exact hv
            | const c => exact hv
            | func f => exact hv
            | global g => exact hv) hlk
          refine key γ H a w hsc _ _ ?_
          rintro γ' H' t' σ' a' w' s' ⟨rfl, rfl⟩
          refine ih _ γ' H' a' w' (by simpa using hs) htail' hclosed' hleft (fun x b hx => ?_) ?_
          · refine s'.tmp x b ?_
            rw [htc, ← hx]
            simp only [tabAt]
            rw [lastW_congr m fun j hj hd' => ?_]
            have e : i ≠ j := fun e => by subst e; simp [dstAt, ho, hd0] at hd'
            exact (getD_set_ne false e).symm
          · rw [hset]
            refine s'.wk (Wk.nil _) fun x e hx => ?_
            rw [sAt_step (fun i j x e f e' f' hi hj h1 h2 => hds i j x e f e' f' hi hj h1 h2) him hE m (Nat.le_refl _) him] at hx
            rw [look_cons]; exact hx

def CS (X : Cx) (all : Array Oper) (σ0 σ : Sg) (Q : T → Sg → Prop) : List Oper → T → Sg → Prop
  | [], t, ss => ∃ t', Wk t' t ∧ Q t' ss
  | o :: rest, t, ss =>
    (∃ V, OStep X all o t σ V ∧ dOk o.dst X.N = true ∧ CS X all σ0 σ Q rest (putT o.dst V t) ss) ∨
    (∃ id e f, StoreJ X o t id e f ∧ look id σ0 = some e ∧ look id σ = none ∧ look id ss = none ∧ CS X all σ0 σ Q rest t ((id, f) :: ss))
def consF : Option (Nat × Ent × Ent) → Sg → Sg
  | some (i, _, f), ss => (i, f) :: ss
  | none, ss => ss
def sFrom (F : Nat → Option (Nat × Ent × Ent)) (k : Nat) (ss : Sg) : Nat → Sg
  | 0 => ss
  | j + 1 => consF (F (k + j)) (sFrom F k ss j)
theorem sFrom_congr {F F' : Nat → Option (Nat × Ent × Ent)} {k : Nat} {ss : Sg} : ∀ j, (∀ i, k ≤ i → i < k + j → F i = F' i) → sFrom F k ss j = sFrom F' k ss j
  | 0, _ => rfl
  | j + 1, h => by
    simp only [sFrom]
    rw [h (k + j) (by omega) (by omega), sFrom_congr j (fun i h1 h2 => h i h1 (by omega))]
theorem sFrom_succ {F : Nat → Option (Nat × Ent × Ent)} {k : Nat} {ss : Sg} : ∀ j, sFrom F k ss (j + 1) = sFrom F (k + 1) (consF (F k) ss) j
  | 0 => rfl
  | j + 1 => by
    rw [sFrom, sFrom_succ j, sFrom]
    rw [show k + (j + 1) = k + 1 + j from by omega]
theorem sAt_all {F : Nat → Option (Nat × Ent × Ent)} {σ : Sg} : ∀ j, sAt F (fun _ => true) σ j = sFrom F 0 [] j ++ σ
  | 0 => rfl
  | j + 1 => by
    simp only [sAt, sFrom, Nat.zero_add]
    rw [sAt_all j]
    cases F j <;> rfl
def STab (X : Cx) (all : Array Oper) (σ0 σ : Sg) (Q : T → Sg → Prop) (rest : List Oper) (k : Nat) (t : T) (ss : Sg) : Prop :=
    ∃ (V : Nat → AV) (F : Nat → Option (Nat × Ent × Ent)), (∀ j o, j < rest.length → all[k + j]? = some o → SStep X all o (statesFrom all V t k j) σ (V (k + j)) (F (k + j)) ∧ dOk o.dst X.N = true) ∧
      (∃ t', Wk t' (statesFrom all V t k rest.length) ∧ Q t' (sFrom F k ss rest.length)) ∧
      (∀ j x e f, j < rest.length → F (k + j) = some (x, e, f) → look x σ0 = some e ∧ look x σ = none ∧ look x ss = none) ∧
      (∀ i j x e f e' f', i < rest.length → j < rest.length → F (k + i) = some (x, e, f) → F (k + j) = some (x, e', f') → i = j)
theorem CS.table {X : Cx} {all : Array Oper} {σ0 σ : Sg} {Q : T → Sg → Prop} : ∀ (rest : List Oper) (k : Nat) (t : T) (ss : Sg), (∀ j, j < rest.length → all[k + j]? = rest[j]?) → CS X all σ0 σ Q rest t ss → STab X all σ0 σ Q rest k t ss
  | [], k, t, ss, _, h => ⟨fun _ => .junk, fun _ => none, fun j o hj => by simp at hj, h, fun j x e f hj => by simp at hj, fun i j x e f e' f' hi => by simp at hi⟩
  | p :: rest, k, t, ss, ha, h => by
    have hk : all[k]? = some p := by simpa using ha 0 (by simp)
    have hdk : dstAt all k = p.dst := by simp [dstAt, hk]
    have ha' : ∀ j, j < rest.length → all[k + 1 + j]? = rest[j]? := fun j hj => by have := ha (j + 1) (by simp; omega); rw [show k + 1 + j = k + (j + 1) from by omega]; simpa using this
    have hne : ∀ j, k + (j + 1) ≠ k := fun j => by omega
    have hadd : ∀ j, k + (j + 1) = k + 1 + j := fun j => by omega
    have key : ∀ (V0 : AV) (F0 : Option (Nat × Ent × Ent)), SStep X all p t σ V0 F0 → dOk p.dst X.N = true → CS X all σ0 σ Q rest (putT p.dst V0 t) (consF F0 ss) →
        (∀ x e f, F0 = some (x, e, f) → look x σ0 = some e ∧ look x σ = none ∧ look x ss = none) → STab X all σ0 σ Q (p :: rest) k t ss := by
      intro V0 F0 hB hdok h4 hF0
      obtain ⟨V', F', i1, ⟨t', i2, i3⟩, ia, ib⟩ := CS.table rest (k + 1) _ _ ha' h4
      have hV : ∀ j, statesFrom all (fun i => if i = k then V0 else V' i) t k (j + 1) = statesFrom all V' (putT p.dst V0 t) (k + 1) j := fun j => by
        rw [statesFrom_succ, hdk]
        simp only [if_true]
        exact statesFrom_congr j fun i h7 h8 => if_neg (by omega)
      have hFF : ∀ j, sFrom (fun i => if i = k then F0 else F' i) k ss (j + 1) = sFrom F' (k + 1) (consF F0 ss) j := fun j => by
        rw [sFrom_succ]
        simp only [if_true]
        exact sFrom_congr (F := fun i => if i = k then F0 else F' i) (F' := F') j fun i h7 h8 => if_neg (by omega)
      refine ⟨fun i => if i = k then V0 else V' i, fun i => if i = k then F0 else F' i, ?_, ⟨t', by rw [List.length_cons, hV]; exact i2, by rw [List.length_cons, hFF]; exact i3⟩, ?_, ?_⟩
      · intro j o hj ho
        cases j with
        | zero =>
          rw [Nat.add_zero, hk] at ho
          simp only [Option.some.injEq] at ho
          subst ho
          simp only [Nat.add_zero, if_true, statesFrom]
          exact ⟨hB, hdok⟩
        | succ j =>
          rw [hV]
          simp only [if_neg (hne j)]
          have := i1 j o (by simpa using hj) (by rw [← hadd j]; exact ho)
          rw [hadd j]; exact this
      · intro j x e f hj hF
        cases j with
        | zero =>
          simp only [Nat.add_zero, if_true] at hF
          exact hF0 x e f hF
        | succ j =>
          simp only [if_neg (hne j)] at hF; rw [hadd j] at hF
          obtain ⟨g1, g2, g3⟩ := ia j x e f (by simpa using hj) hF
          refine ⟨g1, g2, ?_⟩
          cases F0 with
          | none => exact g3
          | some q =>
            obtain ⟨y, e0, f0⟩ := q
            simp only [consF] at g3
            rw [look_cons] at g3
            split at g3
            · cases g3
            · exact g3
      · have cross : ∀ j x e f e' f', j < rest.length → F0 = some (x, e, f) → F' (k + 1 + j) = some (x, e', f') → False := fun j x e f e' f' hj h1 h2 => by
          obtain ⟨_, _, g3⟩ := ia j x e' f' hj h2
          rw [h1] at g3
          simp only [consF] at g3
          rw [look_cons, if_pos rfl] at g3; cases g3
        intro i j x e f e' f' hi hj h1 h2
        cases i with
        | zero =>
          simp only [Nat.add_zero, if_true] at h1
          cases j with
          | zero => rfl
          | succ j =>
            simp only [if_neg (hne j)] at h2; rw [hadd j] at h2
            exact (cross j x e f e' f' (by simpa using hj) h1 h2).elim
        | succ i =>
          simp only [if_neg (hne i)] at h1; rw [hadd i] at h1
          cases j with
          | zero =>
            simp only [Nat.add_zero, if_true] at h2
            exact (cross i x e' f' e f (by simpa using hi) h2 h1).elim
          | succ j =>
            simp only [if_neg (hne j)] at h2; rw [hadd j] at h2
            rw [ib i j x e f e' f' (by simpa using hi) (by simpa using hj) h1 h2]
    rcases h with ⟨V0, h1, h2, h4⟩ | ⟨id0, e0, f0, hs, g1, g2, g3, h4⟩
    · exact key V0 none (.inl ⟨rfl, h1⟩) h2 h4 (fun x e f h => by cases h)
    · have hd0 := hs.2.1
      exact key .junk (some (id0, e0, f0)) (.inr ⟨id0, e0, f0, rfl, hs⟩) (by rw [hd0]; rfl) (by rw [hd0]; exact h4) (fun x e f h => by cases h; exact ⟨g1, g2, g3⟩)
theorem WJ.calmS {X : Cx} {id : Nat} {ops : Array Oper} {t : T} {σ0 σ : Sg} {R : T → Sg → Prop} {Q' : Exit → Act → World → Prop} (m : Nat) (hm : X.P.follows .mixedOrders = true) (hc : CalmR ops m) (hle : m ≤ ops.size) (hσ : Wk σ σ0)
    (hend : ∀ t ss, R t ss → ∀ γ H a w listed, St X γ H t (ss ++ σ) a w → listed.size = ops.size → (∀ j, j < ops.size → listed.getD j false = decide (j < m)) → wpAnyIn (Fr X.ro) 0 X.P .any ops Q' (ops.size - m) listed a w)
    (h : CS X ops σ0 σ R (ops.toList.take m) t []) : ∀ γ H a w, St X γ H t σ0 a w → (Code.region id ops true).wpIn (Fr X.ro) 0 X.P Q' a w := by
  intro γ H a w s
  refine wpIn_region_any hm ?_
  have hlen : (ops.toList.take m).length = m := by simp; omega
  obtain ⟨V, F, h1, ⟨t', h2, h3⟩, ha, hb⟩ := CS.table (ops.toList.take m) 0 t [] (fun j hj => by rw [hlen] at hj; rw [Nat.zero_add, List.getElem?_take, if_pos hj]; simp) h
  simp only [hlen, Nat.zero_add] at h1 h2 h3 ha hb
  have s' : St X γ H t σ0 a { w with drawn := w.drawn + 1 } := ⟨s.lam, s.round, s.defers, s.size, s.pinned, s.tmp, s.mem.drew⟩
  have hall : ∀ j, (Array.replicate ops.size false).getD j false = false := fun j => by
    rw [Array.getD_eq_getD_getElem?, Array.getElem?_replicate]; split <;> rfl
  refine calm_anyS hc hle (V := V) (F := F) (σ := σ) (fun i o hi ho => by
    have := h1 i o hi ho
    rw [statesFrom_zero] at this
    exact this) (fun i j x e f e' f' hi hj h1 h2 => hb i j x e f e' f' hi hj h1 h2) (fun i x e f hi hF => (ha i x e f hi hF).2.1) (fun γ H a w lst st hls hlst => ?_) ops.size _ γ H a _ (by simp) (fun j _ => hall j) (fun i o hi => by rw [hall i] at hi; cases hi) ?_ ?_ ?_
  · rw [sAt_all] at st
    exact hend _ _ h3 γ H a w lst (st.wk (by rw [statesFrom_zero] at h2; exact h2) (Wk.refl _)) hls hlst
  · have : ((List.range m).filter fun j => !(Array.replicate ops.size false).getD j false) = List.range m := List.filter_eq_self.2 fun j _ => by rw [hall j]; rfl
    rw [this, List.length_range]; omega
  · intro x b hx
    have : lastW ops (fun j => (Array.replicate ops.size false).getD j false) x m = none := by
      have h0 : ∀ k, lastW ops (fun _ => false) x k = none := fun k => by
        induction k with
        | zero => rfl
        | succ k ih => simp [lastW, ih]
      rw [lastW_congr (S' := fun _ => false) m (fun j _ _ => hall j)]; exact h0 m
    simp only [tabAt, this] at hx
    exact s.tmp x b hx
  · have e0 : sAt F (fun j => (Array.replicate ops.size false).getD j false) σ m = sAt F (fun _ => false) σ m := sAt_congr m fun j _ _ => hall j
    rw [e0]
    refine s'.wk (Wk.nil _) fun x e hx => ?_
    have up : ∀ k, k ≤ m → look x (sAt F (fun _ => false) σ k) = some e → look x σ0 = some e := fun k => by
      induction k with
      | zero => exact fun _ h => hσ x e h
      | succ k ih =>
        intro hk h
        simp only [sAt] at h
        cases hF : F k with
        | none => rw [hF] at h; exact ih (by omega) h
        | some q =>
          obtain ⟨y, e1, f1⟩ := q
          rw [hF] at h
          simp only at h
          rw [look_cons] at h
          split at h
          · next hy =>
            subst hy
            cases h
            exact (ha k _ _ _ (by omega) hF).1
          · exact ih (by omega) h
    exact up m (Nat.le_refl _) hx
/-! ### The reckoning -/
def inN (i : Nat) : List Nat → Bool
  | [] => false
  | j :: r => match Nat.beq i j with | true => true | false => inN i r
def hideS (ks : List Nat) : Sg → Sg
  | [] => []
  | (i, e) :: σ => match inN i ks with | true => hideS ks σ | false => (i, e) :: hideS ks σ
theorem hideS_wk (ks : List Nat) : ∀ σ : Sg, Wk (hideS ks σ) σ ∧ ∀ i, inN i ks = true → look i (hideS ks σ) = none
  | [] => ⟨Wk.nil _, fun _ _ => rfl⟩
  | (j, e) :: σ => by
    obtain ⟨h1, h2⟩ := hideS_wk ks σ
    have go : ∀ i a, inN i ks = false → look i (hideS ks σ) = some a → look i σ = some a := fun i a _ h => h1 i a h
    refine ⟨fun i a hi => ?_, fun i hi => ?_⟩
    · have hn : inN i ks = false := by
        cases h : inN i ks with
        | false => rfl
        | true =>
          have : look i (hideS ks ((j, e) :: σ)) = none := by
            simp only [hideS]
            split
            · exact h2 i h
            · next hj =>
              rw [look_cons, if_neg (fun e => by subst e; rw [h] at hj; cases hj)]
              exact h2 i h
          rw [this] at hi; cases hi
      simp only [hideS] at hi
      split at hi
      · next hj =>
        rw [look_cons, if_neg (fun e => by subst e; rw [hn] at hj; cases hj)]
        exact h1 i a hi
      · rw [look_cons] at hi ⊢
        split
        · next e => rw [if_pos e] at hi; exact hi
        · next e => rw [if_neg e] at hi; exact h1 i a hi
    · simp only [hideS]
      split
      · exact h2 i hi
      · next hj =>
        rw [look_cons, if_neg (fun e => by subst e; rw [hi] at hj; cases hj)]
        exact h2 i hi
/-- A store of the head. -/
def stS (X : Cx) (e : TypeId) (x y : Operand) (t : T) (σ0 σ ss : Sg) (K : Nat → Ent → Prop) : Prop := match szOf X.P e, ge t x, ge t y with
  | some n, some (.box i off), some v => (match look i σ0, look i σ, look i ss with
    | some (.cells cs), none, none => (match oneAV v && oneAll (avCells v) && Nat.beq (avCells v).length n && Nat.ble (off + n) cs.length with
      | true => frcN (off + n) (setF cs off (avCells v)) fun cs' => K i (.cells cs')
      | false => False)
    | _, _, _ => False)
  | _, _, _ => False
def stepS (X : Cx) (o : Oper) (t : T) (σ : Sg) (K : T → Prop) : Prop :=
  qw X o t σ (fun V => match dOk o.dst X.N with | true => K (putT o.dst V t) | false => False) (QuietP X o t σ (fun V => match dOk o.dst X.N with | true => K (putT o.dst V t) | false => False) fun _ _ _ => False)
def vS (X : Cx) (all : Array Oper) (σ0 σ : Sg) (Q : T → Sg → Prop) : List Oper → T → Sg → Prop
  | [], t, ss => Q t ss
  | o :: rest, t, ss => match o.op, o.dst, o.guard with
    | .store e x y, none, none => stS X e x y t σ0 σ ss fun i f => vS X all σ0 σ Q rest t ((i, f) :: ss)
    | _, _, none => stepS X o t σ fun t => vS X all σ0 σ Q rest t ss
    | _, _, some (j, b0) => match dstOf all j, dOk o.dst X.N with
      | some d, true => (match look d t with
        | some (.d (.v (.bool b))) => grd b0 b d t (fun t => stepS X o t σ fun t => vS X all σ0 σ Q rest t ss) (fun t => vS X all σ0 σ Q rest (putT o.dst (.tup []) t) ss)
        | some (.tup []) => vS X all σ0 σ Q rest (putT o.dst (.tup []) t) ss
        | _ => False)
      | _, _ => False
theorem StoreJ.wk {X : Cx} {o : Oper} {t t' : T} {id : Nat} {e f : Ent} (hw : Wk t' t) (h : StoreJ X o t' id e f) : StoreJ X o t id e f :=
  ⟨h.1, h.2.1, fun t2 σ2 hx hl => h.2.2 t2 σ2 (fun x hx2 v hv => hx x hx2 v (by
    cases x with
    | tmp i => exact hw i v hv
    | const c => exact hv
    | func f => exact hv
    | global g => exact hv)) hl⟩
theorem CS.wk {X : Cx} {all : Array Oper} {σ0 σ : Sg} {Q : T → Sg → Prop} : ∀ (rest : List Oper) (t t' : T) (ss : Sg), Wk t' t → CS X all σ0 σ Q rest t' ss → CS X all σ0 σ Q rest t ss
  | [], t, t', ss, hw, ⟨t'', h1, h2⟩ => ⟨t'', h1.trans hw, h2⟩
  | o :: rest, t, t', ss, hw, h => by
    rcases h with ⟨V, h1, h2, h4⟩ | ⟨id, e, f, hs, g1, g2, g3, h4⟩
    · exact .inl ⟨V, h1.wk hw, h2, CS.wk rest _ _ ss hw.put h4⟩
    · exact .inr ⟨id, e, f, hs.wk hw, g1, g2, g3, CS.wk rest _ _ _ hw h4⟩
theorem stepS_sound {X : Cx} {all : Array Oper} {o : Oper} {t : T} {σ0 σ ss : Sg} {rest : List Oper} {Q : T → Sg → Prop} {K : T → Prop} (hK : ∀ t, K t → CS X all σ0 σ Q rest t ss)
    (hg : o.guard = none ∨ ∃ j b d, o.guard = some (j, b) ∧ ((all[j]?).bind (·.dst)) = some d ∧ look d t = some (.d (.v (.bool b)))) (h : stepS X o t σ K) : CS X all σ0 σ Q (o :: rest) t ss := by
  have fin : ∀ V, QJ X o t σ V → (match dOk o.dst X.N with | true => K (putT o.dst V t) | false => False) → CS X all σ0 σ Q (o :: rest) t ss := fun V hq hk => by
    split at hk
    · next hb =>
      rcases hg with hg | ⟨j, b, d, h1, h2, h3⟩
      · exact .inl ⟨V, .inl ⟨hg, hq⟩, hb, hK _ hk⟩
      · exact .inl ⟨V, .inr (.inl ⟨j, b, d, h1, h2, h3, hq⟩), hb, hK _ hk⟩
    · exact hk.elim
  unfold stepS at h
  rcases qw_sound h with ⟨V, hq, hk⟩ | h
  · exact fin V hq hk
  · cases h with
    | of hq hk => exact fin _ hq hk
    | born hb hk => exact hk.elim
theorem stS_sound {X : Cx} {o : Oper} {e : TypeId} {x y : Operand} {t : T} {σ0 σ ss : Sg} {K : Nat → Ent → Prop} (ho : o.op = .store e x y) (hd : o.dst = none) (hg : o.guard = none) (h : stS X e x y t σ0 σ ss K) :
    ∃ id en f, StoreJ X o t id en f ∧ look id σ0 = some en ∧ look id σ = none ∧ look id ss = none ∧ K id f := by
  unfold stS at h
  split at h
  · next n i off v hs hx hy =>
    split at h
    · next cs h1 h2 h3 =>
      split at h
      · next hb =>
        simp only [Bool.and_eq_true, Nat.ble_eq, Nat.beq_eq] at hb
        rw [frcN_eq, setF_eq] at h
        obtain ⟨d, op, ty, pos, aft, g⟩ := o
        simp only at ho hd hg
        subst ho; subst hd; subst hg
        refine ⟨i, _, _, ⟨rfl, rfl, fun t' σ' hop hl => ?_⟩, h1, h2, h3, h⟩
        exact O.store (hop x (by simp [Op.operands]) _ hx) rfl (hop y (by simp [Op.operands]) _ hy) hl hb.1.1.1 hb.1.1.2 (szOf_run hs) hb.1.2 hb.2 rfl ⟨rfl, rfl⟩
      · exact h.elim
    · exact h.elim
  · exact h.elim
theorem vS_sound {X : Cx} {all : Array Oper} {σ0 σ : Sg} {Q : T → Sg → Prop} : ∀ (rest : List Oper) (t : T) (ss : Sg), vS X all σ0 σ Q rest t ss → CS X all σ0 σ Q rest t ss
  | [], t, ss, h => ⟨t, Wk.refl t, h⟩
  | o :: rest, t, ss, h => by
    unfold vS at h
    split at h
    · next e x y ho hd hg =>
      obtain ⟨id, en, f, h1, h2, h3, h4, h5⟩ := stS_sound ho hd hg h
      exact .inr ⟨id, en, f, h1, h2, h3, h4, vS_sound rest t _ h5⟩
    · next hg _ => exact stepS_sound (fun t h => vS_sound rest t ss h) (.inl hg) h
    · next j b0 hg =>
      split at h
      · next d hd hN =>
        have hd' : ((all[j]?).bind (·.dst)) = some d := by rw [dstOf_eq]; exact hd
        split at h
        · next b hb =>
          have yes : ∀ c, b = c → stepS X o ((d, .d (.v (.bool c))) :: t) σ (fun t => vS X all σ0 σ Q rest t ss) → c = b0 → CS X all σ0 σ Q (o :: rest) t ss := fun c hc he hcb => by
            subst hc; subst hcb
            exact CS.wk _ _ _ _ (Wk.cons hb (Wk.refl t)) (stepS_sound (fun t h => vS_sound rest t ss h) (.inr ⟨j, b, d, hg, hd', by rw [look_cons, if_pos rfl]⟩) he)
          have no : ∀ c, b = c → vS X all σ0 σ Q rest (putT o.dst (.tup []) ((d, .d (.v (.bool c))) :: t)) ss → c ≠ b0 → CS X all σ0 σ Q (o :: rest) t ss := fun c hc he hcb => by
            subst hc
            exact CS.wk _ _ _ _ (Wk.cons hb (Wk.refl t)) (.inl ⟨.tup [], .inr (.inr (.inl ⟨j, b0, b, d, hg, hd', by rw [look_cons, if_pos rfl], hcb, rfl⟩)), hN, vS_sound rest _ ss he⟩)
          cases b0 with
          | true => cases b with
            | true => exact yes true rfl (h.1 rfl) rfl
            | false => exact no false rfl (h.2 rfl) (by simp)
          | false => cases b with
            | true => exact no true rfl (h.1 rfl) (by simp)
            | false => exact yes false rfl (h.2 rfl) rfl
        · next hb => exact .inl ⟨.tup [], .inr (.inr (.inr ⟨j, b0, d, hg, hd', hb, rfl⟩)), hN, vS_sound rest _ ss h⟩
        · exact h.elim
      · exact h.elim
/-- **A region that draws its order: quiet operations ahead, and stores into the variables ks, in any order, the rest by all orders.** -/
theorem RegP.mixS {X : Cx} {id : Nat} {ops : Array Oper} {t : T} {σ : Sg} {Q : T → Sg → Prop} (m : Nat) (ks : List Nat) (hm : X.P.follows .mixedOrders = true) (hc : (calmB2 ops m && Nat.ble m ops.size) = true)
    (h : vS X ops σ (hideS ks σ) (fun t ss => vO X ops Q (ops.size - m) (trues m (falses (ops.size - m))) t (ss ++ hideS ks σ)) (ops.toList.take m) t []) : RegP X id ops t σ Q := by
  intro Q' hQ
  simp only [Bool.and_eq_true, Nat.ble_eq] at hc
  refine WJ.calmS m hm (calmB2_R hc.1) hc.2 (hideS_wk ks σ).1 (fun t σ h3 γ H a w lst hst hls hlst => ?_) (vS_sound _ _ _ h)
  have e : lst = (trues m (falses (ops.size - m))).toArray := by
    rw [trues_eq, falses_eq]
    apply Array.ext
    · simp [hls]; omega
    · intro j h1 h2
      have hj := hlst j (by omega)
      rw [Array.getD_eq_getD_getElem?, Array.getElem?_eq_getElem h1, Option.getD_some] at hj
      rw [hj, List.getElem_toArray, List.getElem_append]
      split
      · next h3 => simp at h3; simp [h3]
      · next h3 => simp at h3; simp; omega
  rw [e]
  exact vO_sound (Q := Q) (Q' := Post X Q') (fun γ H t σ a w s q => ⟨γ, H, t, σ, s, hQ t σ q⟩) (ops.size - m) _ t _ h3 γ H a w hst
end Go.Gv
end
section
open Go Go.Gv
attribute [local irreducible] Go.Gv.WJ Go.Gv.OpJ Go.Gv.QJ Go.Gv.Spl Go.Gv.Req Go.Gv.IdxP Go.Gv.RegP Go.Gv.FinP Go.Gv.CellP Go.Gv.CellsP Go.Gv.ArrP Go.Gv.ArrsP Go.Gv.DropP Go.Gv.ByteP Go.Gv.StoreP
set_option maxRecDepth 100000
namespace Go.Proofs.E
attribute [local irreducible] elems
theorem Take_c {s : SS} {l : List OP} (h : isS s l) (R : List OP) {o : OP} (hw : wrongO l o = 0) : Cv 242 [vv s l R, opv o, stv (appS s l o), iv (atO l o)] (.tup [vv (appS s l o) (l ++ [o]) R, chv (chO l o)]) := by
  have hd : Dn (l ++ [o]) := .snoc h.dn hw
  have hs := appS_is h o
  rw [show appL l o = l ++ [o] from if_pos hw] at hs
  have hsm := hs.small
  obtain ⟨n, e, hat, _, hget, hid⟩ := at_get h.dn hw
  have hlen := h.dn.len2
  have hoc := (wrong_0 hw).1
  have hch : chO l o = ⟨((l ++ [o]).length : Nat), rankL (rowE (l ++ [o])) (n : Nat), e.id, e.ch, decide (o.k = 1)⟩ := by
    unfold chO
    rw [hat, Int.toNat_natCast, hget, hid]; rfl
  have hatc := At_c (appS s l o).t (n : Nat) (by omega)
  rw [atT_row hs, hget] at hatc
  have hrk := Rank_c (appS s l o).t (n : Nat) (by omega) (by omega) (by have := (List.getElem?_eq_some_iff.1 hget).1; have := row_le hd; omega)
  rw [hs.els] at hrk
  rw [hat, hch]
  have hwr : IntKind.i64.wrap ((l.length : Nat) + 1) = ((l ++ [o]).length : Nat) := by rw [wrap_id _ (by omega) (by omega)]; simp
  have hput : o.k = 0 → Cv 247 [tlv (sumV l), idv o.i] (.tup [tlv (sumV (l ++ [o])), iv 0]) := fun hk => by
    rw [sumV_snoc0 hk]
    refine PutOk_c (sumV l) o.i (sum_ok h.dn) (checkO_may hoc) ?_
    have h1 := hd.is.len
    rw [insL_snoc0 hk, List.length_append] at h1
    rw [sumV_n]; simp at h1; omega
  have hsame : o.k ≠ 0 → sumV (l ++ [o]) = sumV l := sumV_snoc1
  generalize appS s l o = s' at *
  generalize rankL (rowE (l ++ [o])) (n : Nat) = rk at *
  refine Ct.of_vc Tryz.f242 Tryz.func242 rfl rfl fun w H B g0 => ?_
  refine OpJ.callV hatc (fun _ _ => rfl) rfl rfl rfl ?_
  (repeat (first | refine Spl.t rfl ?_ | refine Spl.f rfl ?_))
  refine Spl.of (fun h1 => ?_) (fun h1 => ?_)
  · have h1 : o.k = 0 := of_decide_eq_true h1
    have hput := hput h1
    rw [show vv s' (l ++ [o]) R = .agg [.d s'.t.d, .d s'.p.d, iv s'.n, .d (.sl 6 (R.map opD)), iv (IntKind.i64.wrap ((l.length : Nat) + 1)), iv (sumV (l ++ [o])).n, cx (sumV (l ++ [o])).a (sumV (l ++ [o])).b, cx (sumV (l ++ [o])).c (sumV (l ++ [o])).d] by rw [hwr], ← hwr]
    generalize sumV (l ++ [o]) = T at hput
    (repeat (first | refine Spl.t rfl ?_ | refine Spl.f rfl ?_))
    refine OpJ.callV hput (fun _ _ => rfl) rfl rfl rfl ?_
    (repeat (first | refine Spl.t rfl ?_ | refine Spl.f rfl ?_))
    refine RegP.mixS 17 [8, 9] rfl (by decide +kernel) ?_
    refine QuietP.of (QJ.call hrk (fun _ _ => rfl) rfl rfl) ?_
    exact FinP.open rfl rfl
  · have h1 := hsame (of_decide_eq_false h1)
    rw [show vv s' (l ++ [o]) R = .agg [.d s'.t.d, .d s'.p.d, iv s'.n, .d (.sl 6 (R.map opD)), iv (IntKind.i64.wrap ((l.length : Nat) + 1)), iv (sumV l).n, cx (sumV l).a (sumV l).b, cx (sumV l).c (sumV l).d] by rw [hwr, ← h1], ← hwr]
    (repeat (first | refine Spl.t rfl ?_ | refine Spl.f rfl ?_))
    refine RegP.mixS 17 [8, 9] rfl (by decide +kernel) ?_
    refine QuietP.of (QJ.call hrk (fun _ _ => rfl) rfl rfl) ?_
    exact FinP.open rfl rfl
end Go.Proofs.E
end
section
open Go Go.Gv
attribute [local irreducible] Go.Gv.WJ Go.Gv.OpJ Go.Gv.QJ Go.Gv.Spl Go.Gv.Req Go.Gv.IdxP Go.Gv.RegP Go.Gv.FinP Go.Gv.CellP Go.Gv.CellsP Go.Gv.ArrP Go.Gv.ArrsP Go.Gv.DropP Go.Gv.ByteP Go.Gv.StoreP
set_option maxRecDepth 100000
namespace Go.Proofs.E
attribute [local irreducible] elems
def outV (out : List CH) (l : List OP) (o : OP) : List CH := if wrongO l o = 0 then out ++ [chO l o] else out
theorem out_row (out : List CH) (c : CH) : out.map chD ++ [chD c] = (out ++ [c]).map chD := by simp
theorem In_c {s : SS} {l : List OP} (h : isS s l) (R : List OP) (o : OP) (out : List CH) (hn : out.length ≤ 900000) :
    Ct tab Tryz.prog 240 [opv o, .box 2 0, .box 8 0] [(2, .cells (vcs s l R)), (8, .cells [.arr 1000 6 out.length]), (1000, .arr 6 (out.map chD))]
      (fun q σ' => q = iv (wrongO l o) ∧ σ' = [(2, .cells (vcs (appS s l o) (appL l o) R)), (8, .cells [.arr 1000 6 (outV out l o).length]), (1000, .arr 6 ((outV out l o).map chD))]) := by
  have hap := Apply_c h o
  refine Ct.of_wv Tryz.f240 Tryz.func240 rfl rfl fun w H B g0 => ?_
  (try refine WJ.cut ?_)
  (first | refine Sq.go ?_ | refine vL_nil (Sq.go ?_) | skip)
  (try refine WJ.cut ?_)
  refine OpJ.callV hap (fun _ _ => rfl) rfl rfl rfl ?_
  (first | refine Sq.go ?_ | refine vL_nil (Sq.go ?_) | skip)
  (try refine WJ.cut ?_)
  refine Spl.of (fun h1 => ?_) (fun h1 => ?_)
  · have h1 : wrongO l o = 0 := of_decide_eq_true h1
    have htk := Take_c h R h1
    have e1 : appL l o = l ++ [o] := if_pos h1
    have e2 : outV out l o = out ++ [chO l o] := if_pos h1
    rw [e1, e2]
    generalize appS s l o = s' at htk ⊢
    generalize chO l o = c at htk ⊢
    generalize l ++ [o] = l' at htk ⊢
    have hrow := out_row out c
    have hlc : (out ++ [c]).length = out.length + 1 := by simp
    rw [hlc, ← hrow]
    (repeat (first | refine Spl.t rfl ?_ | refine Spl.f rfl ?_))
    refine OpJ.callV htk (fun _ _ => rfl) rfl rfl rfl ?_
    refine O.allocN 1008 rfl rfl rfl rfl rfl ?_
    (first | refine Sq.go ?_ | refine vL_nil (Sq.go ?_) | skip)
    (try refine WJ.cut ?_)
    refine RegP.orders rfl ?_; (repeat' (refine And.intro ?_ ?_))
    all_goals refine Req.of ⟨by rw [List.length_map], by show _ + 1 ≤ _; omega⟩ ?_
    all_goals (repeat' (first | exact trivial | refine And.intro ?_ ?_))
    all_goals ((first | refine Sq.go ?_ | refine vL_nil (Sq.go ?_) | skip))
    all_goals ((try refine vc_sound _ _ _ _ ?_))
    all_goals exact FinP.priv [(2, .cells (vcs s' l' R)), (8, .cells [.arr 1000 6 (out.length + 1)]), (1000, .arr 6 (out.map chD ++ [chD c]))] (Wk.cons rfl (Wk.cons rfl (Wk.cons rfl (Wk.nil _)))) rfl ⟨rfl, rfl⟩
  · have h1 : ¬ wrongO l o = 0 := of_decide_eq_false h1
    have e1 : appL l o = l := if_neg h1
    have e2 : outV out l o = out := if_neg h1
    have e3 : appS s l o = s := if_neg h1
    rw [e1, e2, e3]
    (repeat (first | refine Spl.t rfl ?_ | refine Spl.f rfl ?_))
    (first | refine Sq.go ?_ | refine vL_nil (Sq.go ?_) | skip)
    (try refine vc_sound _ _ _ _ ?_)
    exact FinP.priv [(2, .cells (vcs s l R)), (8, .cells [.arr 1000 6 out.length]), (1000, .arr 6 (out.map chD))] (Wk.cons rfl (Wk.cons rfl (Wk.cons rfl (Wk.nil _)))) rfl ⟨rfl, rfl⟩
end Go.Proofs.E
end
section
open Go Go.Gv
attribute [local irreducible] Go.Gv.WJ Go.Gv.OpJ Go.Gv.QJ Go.Gv.Spl Go.Gv.Req Go.Gv.IdxP Go.Gv.RegP Go.Gv.FinP Go.Gv.CellP Go.Gv.CellsP Go.Gv.ArrP Go.Gv.ArrsP Go.Gv.DropP Go.Gv.ByteP Go.Gv.StoreP
set_option maxRecDepth 100000
namespace Go.Proofs.E
attribute [local irreducible] elems
structure VS where
  s : SS
  l : List OP
  R : List OP
  out : List CH
/-- An operation taken in, if it can be applied. -/
def VS.take (v : VS) (o : OP) : VS := ⟨appS v.s v.l o, appL v.l o, v.R, outV v.out v.l o⟩
def VS.next (v : VS) : VS := VS.take ⟨v.s, v.l, nextR v.l v.R, v.out⟩ (nextO v.l v.R)
def drn : Nat → VS → VS
  | 0, v => v
  | n + 1, v => if nextIx v.l v.R < 0 then v else drn n v.next
def remV (v : VS) (o : OP) : VS := if wrongO v.l o = 0 then drn v.R.length (VS.take ⟨v.s, v.l, v.R, []⟩ o) else if wrongO v.l o = 6 then ⟨v.s, v.l, addR v.R o, []⟩ else ⟨v.s, v.l, v.R, []⟩
def remE (v : VS) (o : OP) : Int := if wrongO v.l o = 6 then addE v.R o else wrongO v.l o
theorem out_len (out : List CH) (l : List OP) (o : OP) : (outV out l o).length ≤ out.length + 1 := by unfold outV; split <;> simp
theorem nextR_lt {l R : List OP} (h : ¬ nextIx l R < 0) : (nextR l R).length + 1 = R.length := by
  have := nextIx_lt l R
  unfold nextR
  rw [if_neg h]; simp; omega
abbrev chs (out : List CH) : D := .sl 6 (out.map chD)
abbrev cellsV (v : VS) : List AV := vcs v.s v.l v.R
theorem Remote_c {s : SS} {l : List OP} (h : isS s l) (R : List OP) (out0 : List CH) (o : OP) (hR : R.length ≤ 100000) :
    Cv 201 [vv s l R, opv o] (.tup [vv (remV ⟨s, l, R, out0⟩ o).s (remV ⟨s, l, R, out0⟩ o).l (remV ⟨s, l, R, out0⟩ o).R, .d (chs (remV ⟨s, l, R, out0⟩ o).out), iv (remE ⟨s, l, R, out0⟩ o)]) := by
  have hin := In_c h R o [] (by simp)
  have hadd := Add_c R o (by omega)
  refine Ct.of_wv Tryz.f201 Tryz.func201 rfl rfl fun w H B g0 => ?_
  (try refine WJ.cut ?_)
  (first | refine Sq.go ?_ | refine vL_nil (Sq.go ?_) | skip)
  (try refine WJ.cut ?_)
  (first | refine Sq.go ?_ | refine vL_nil (Sq.go ?_) | skip)
  (try refine WJ.cut ?_)
  (first | refine Sq.go ?_ | refine vL_nil (Sq.go ?_) | skip)
  refine WJ.shift (SJ.nilCell 1000 8 0 6 rfl rfl rfl) ?_
  (try refine WJ.cut ?_)
  (first | refine Sq.go ?_ | refine vL_nil (Sq.go ?_) | skip)
  (try refine WJ.cut ?_)
  refine OpJ.callT rfl (FnIs.fnp _ _) hin (fun _ _ => rfl) rfl rfl (Wk.cons rfl (Wk.cons rfl (Wk.cons rfl (Wk.nil _)))) ?_
  rintro q σ' ⟨rfl, rfl⟩
  refine ⟨rfl, ?_⟩
  (first | refine Sq.go ?_ | refine vL_nil (Sq.go ?_) | skip)
  (try refine WJ.cut ?_)
  refine Spl.of (fun h1 => ?_) (fun h1 => ?_)
  · have h1 : wrongO l o = 0 := of_decide_eq_true h1
    have eR : remV ⟨s, l, R, out0⟩ o = drn R.length (VS.take ⟨s, l, R, []⟩ o) := if_pos h1
    have eE : remE ⟨s, l, R, out0⟩ o = 0 := by unfold remE; rw [h1]; rfl
    have hs := appS_is h o
    have ho := out_len [] l o
    rw [eR, eE]
    (repeat (first | refine Spl.t rfl ?_ | refine Spl.f rfl ?_))
    (first | refine Sq.go ?_ | refine vL_nil (Sq.go ?_) | skip)
    (try refine vc_sound _ _ _ _ ?_)
    refine WJ.loopK (V := VS) (fun v => []) (fun v => [(2, .cells (cellsV v)), (8, .cells [.arr 1000 6 v.out.length]), (1000, .arr 6 (v.out.map chD))]) [2, 8, 1000] (fun v => v.R.length) (fun v => isS v.s v.l ∧ v.out.length + v.R.length ≤ 100001 ∧ drn v.R.length v = drn R.length (VS.take ⟨s, l, R, []⟩ o)) (VS.take ⟨s, l, R, []⟩ o) ⟨hs, by simp only [VS.take]; simp at ho; omega, rfl⟩ (by repeat' (first | exact trivial | exact rfl | refine And.intro ?_ ?_)) (by repeat' (first | exact trivial | exact rfl | refine And.intro ?_ ?_)) ?_
    rintro ⟨s1, l1, R1, out1⟩ ⟨h2, h3, h4⟩
    simp only at h2 h3 h4
    have hnx := Next_c h2 R1 (by omega)
    have hin1 := In_c h2 (nextR l1 R1) (nextO l1 R1) out1 (by omega)
    (repeat (first | refine Spl.t rfl ?_ | refine Spl.f rfl ?_))
    refine OpJ.callV hnx (fun _ _ => rfl) rfl rfl rfl ?_
    (repeat (first | refine Spl.t rfl ?_ | refine Spl.f rfl ?_))
    refine Spl.of (fun h5 => ?_) (fun h5 => ?_)
    · have h5 : nextIx l1 R1 < 0 := by simpa using h5
      have e5 : drn R1.length ⟨s1, l1, R1, out1⟩ = ⟨s1, l1, R1, out1⟩ := by
        cases R1.length with
        | zero => rfl
        | succ n => rw [drn, if_pos h5]
      rw [← h4, e5]
      have hpl : out1.length ≤ (out1.map chD).length := by rw [List.length_map]; exact Nat.le_refl _
      (repeat (first | refine Spl.t rfl ?_ | refine Spl.f rfl ?_))
      refine RegP.mixS 5 [4] rfl (by decide +kernel) ?_
      refine FinP.pubTup 1000 1 rfl rfl hpl (by show out1.length ≤ _; omega) (FinP.open rfl ?_)
      exact congrArg (fun r => AV.tup [vv s1 l1 R1, .d (.sl 6 r), iv 0]) (List.take_of_length_le (Nat.le_of_eq (List.length_map ..)))
    · have h5 : ¬ nextIx l1 R1 < 0 := by simpa using h5
      have hlt := nextR_lt h5
      have ho1 := out_len out1 l1 (nextO l1 R1)
      have e5 : drn (nextR l1 R1).length (VS.next ⟨s1, l1, R1, out1⟩) = drn R.length (VS.take ⟨s, l, R, []⟩ o) := by
        rw [← h4, ← hlt, drn, if_neg h5]
      have hs1 := appS_is h2 (nextO l1 R1)
      (repeat (first | refine Spl.t rfl ?_ | refine Spl.f rfl ?_))
      refine OpJ.callT rfl (FnIs.fnp _ _) hin1 (fun _ _ => rfl) rfl rfl (Wk.cons rfl (Wk.cons rfl (Wk.cons rfl (Wk.nil _)))) ?_
      rintro q σ' ⟨rfl, rfl⟩
      refine ⟨rfl, ?_⟩
      (repeat (first | refine Spl.t rfl ?_ | refine Spl.f rfl ?_))
      exact ⟨VS.next ⟨s1, l1, R1, out1⟩, ⟨hs1, by simp only [VS.next, VS.take]; omega, e5⟩, by simp only [VS.next, VS.take]; omega, (by repeat' (first | exact trivial | exact rfl | refine And.intro ?_ ?_)), (by repeat' (first | exact trivial | exact rfl | refine And.intro ?_ ?_)), (by repeat' (first | exact trivial | exact rfl | refine And.intro ?_ ?_)), (by repeat' (first | exact trivial | exact rfl | refine And.intro ?_ ?_))⟩
  · have h1 : ¬ wrongO l o = 0 := of_decide_eq_false h1
    have e1 : appL l o = l := if_neg h1
    have e2 : outV [] l o = [] := if_neg h1
    have e3 : appS s l o = s := if_neg h1
    rw [e1, e2, e3]
    (repeat (first | refine Spl.t rfl ?_ | refine Spl.f rfl ?_))
    refine Spl.of (fun h2 => ?_) (fun h2 => ?_)
    · have h2 : wrongO l o = 6 := of_decide_eq_true h2
      have eR : remV ⟨s, l, R, out0⟩ o = ⟨s, l, addR R o, []⟩ := (if_neg h1).trans (if_pos h2)
      have eE : remE ⟨s, l, R, out0⟩ o = addE R o := if_pos h2
      rw [eR, eE]
      (repeat (first | refine Spl.t rfl ?_ | refine Spl.f rfl ?_))
      refine OpJ.callV hadd (fun _ _ => rfl) rfl rfl rfl ?_
      (repeat (first | refine Spl.t rfl ?_ | refine Spl.f rfl ?_))
      refine Spl.of (fun h3 => ?_) (fun h3 => ?_)
      · have h3 : ¬ addE R o = 0 := by simpa using h3
        have e4 : addR R o = R := if_neg h3
        rw [e4]
        (repeat (first | refine Spl.t rfl ?_ | refine Spl.f rfl ?_))
        refine .out (by simp) ?_
        refine FinP.viewTup 1 rfl (fun _ _ _ h => nil_sl 6 h) ?_
        exact FinP.open rfl rfl
      · have h3 : addE R o = 0 := by simpa using h3
        rw [h3]
        (repeat (first | refine Spl.t rfl ?_ | refine Spl.f rfl ?_))
        refine .out (by simp) ?_
        refine FinP.viewTup 1 rfl (fun _ _ _ h => nil_sl 6 h) ?_
        exact FinP.open rfl rfl
    · have h2 : ¬ wrongO l o = 6 := of_decide_eq_false h2
      have eR : remV ⟨s, l, R, out0⟩ o = ⟨s, l, R, []⟩ := (if_neg h1).trans (if_neg h2)
      have eE : remE ⟨s, l, R, out0⟩ o = wrongO l o := if_neg h2
      rw [eR, eE]
      (repeat (first | refine Spl.t rfl ?_ | refine Spl.f rfl ?_))
      refine .out (by simp) ?_
      refine FinP.viewTup 1 rfl (fun _ _ _ h => nil_sl 6 h) ?_
      exact FinP.open rfl rfl
end Go.Proofs.E
end
section
open Go Go.Gv
attribute [local irreducible] Go.Gv.WJ Go.Gv.OpJ Go.Gv.QJ Go.Gv.Spl Go.Gv.Req Go.Gv.IdxP Go.Gv.RegP Go.Gv.FinP Go.Gv.CellP Go.Gv.CellsP Go.Gv.ArrP Go.Gv.ArrsP Go.Gv.DropP Go.Gv.ByteP Go.Gv.StoreP
set_option maxRecDepth 100000
namespace Go.Proofs.E
attribute [local irreducible] elems
end Go.Proofs.E
end
section
open Go Go.Gv
attribute [local irreducible] Go.Gv.WJ Go.Gv.OpJ Go.Gv.QJ Go.Gv.Spl Go.Gv.Req Go.Gv.IdxP Go.Gv.RegP Go.Gv.FinP Go.Gv.CellP Go.Gv.CellsP Go.Gv.ArrP Go.Gv.ArrsP Go.Gv.DropP Go.Gv.ByteP Go.Gv.StoreP
set_option maxRecDepth 100000
namespace Go.Proofs.E
attribute [local irreducible] elems
def VS.same (v : VS) : VS := ⟨v.s, v.l, v.R, []⟩
def opI (v : VS) (site at_ ch : Int) : OP := ⟨0, ⟨cntV v.l v.R, site⟩, nameL (rowE v.l) (at_ - 1), ch⟩
def opX (v : VS) (at_ : Int) : OP := ⟨1, nameL (rowE v.l) at_, ⟨0, 0⟩, 0⟩
def doT (v : VS) (o : OP) : VS × OP × Int := if remE v o ≠ 0 then (v.same, OP0, remE v o) else (remV v o, o, 0)
def insVT (v : VS) (site at_ ch : Int) : VS × OP × Int :=
  if site < 1 ∨ site > 1000 ∨ at_ < 0 ∨ at_ > liveL (rowE v.l) then (v.same, OP0, 2)
  else if ch < 32 ∨ ch > 1114111 ∨ 55296 ≤ ch ∧ ch ≤ 57343 then (v.same, OP0, 1)
  else if 4096 ≤ (rowE v.l).length ∨ cntV v.l v.R > 1048576 then (v.same, OP0, 7)
  else doT v (opI v site at_ ch)
def delVT (v : VS) (at_ : Int) : VS × OP × Int := if 0 ≤ at_ ∧ at_ < liveL (rowE v.l) then doT v (opX v at_) else (v.same, OP0, 2)
def resT (p : VS × OP × Int) : AV := .tup [vv p.1.s p.1.l p.1.R, opv p.2.1, .d (chs p.1.out), iv p.2.2]
def prb (ch : Int) : OP := ⟨0, ⟨1, 1⟩, ⟨0, 0⟩, ch⟩
theorem prb_check (ch : Int) : checkO (prb ch) = if ch < 32 ∨ ch > 1114111 ∨ 55296 ≤ ch ∧ ch ≤ 57343 then 1 else 0 := by
  have h1 : mayI ⟨1, 1⟩ = true := by decide
  have h2 : noneI ⟨0, 0⟩ = true := by decide
  unfold checkO prb
  simp only [h1, h2]
  simp
theorem VDelete_c {s : SS} {l : List OP} (h : isS s l) (R : List OP) (hR : R.length ≤ 100000) (at_ : Int) :
    Cv 161 [vv s l R, iv at_] (resT (delVT ⟨s, l, R, []⟩ at_)) := by
  have hn := VNamed_c h R at_
  have hr := Remote_c h R [] (opX ⟨s, l, R, []⟩ at_) hR
  by_cases hk : 0 ≤ at_ ∧ at_ < liveL (rowE l)
  · have eD : delVT ⟨s, l, R, []⟩ at_ = doT ⟨s, l, R, []⟩ (opX ⟨s, l, R, []⟩ at_) := if_pos hk
    rw [eD]
    rw [decide_eq_true hk] at hn
    unfold opX at hr ⊢
    simp only at hr ⊢
    generalize nameL (rowE l) at_ = a at hn hr ⊢
    have e1 : remE ⟨s, l, R, []⟩ ⟨1, a, ⟨0, 0⟩, 0⟩ ≠ 0 → doT ⟨s, l, R, []⟩ ⟨1, a, ⟨0, 0⟩, 0⟩ = (⟨s, l, R, []⟩, OP0, remE ⟨s, l, R, []⟩ ⟨1, a, ⟨0, 0⟩, 0⟩) := fun h => if_pos h
    have e2 : remE ⟨s, l, R, []⟩ ⟨1, a, ⟨0, 0⟩, 0⟩ = 0 → doT ⟨s, l, R, []⟩ ⟨1, a, ⟨0, 0⟩, 0⟩ = (remV ⟨s, l, R, []⟩ ⟨1, a, ⟨0, 0⟩, 0⟩, ⟨1, a, ⟨0, 0⟩, 0⟩, 0) := fun h => if_neg (fun e => e h)
    generalize remE ⟨s, l, R, []⟩ ⟨1, a, ⟨0, 0⟩, 0⟩ = e at hr e1 e2
    generalize remV ⟨s, l, R, []⟩ ⟨1, a, ⟨0, 0⟩, 0⟩ = v' at hr e2
    generalize doT ⟨s, l, R, []⟩ ⟨1, a, ⟨0, 0⟩, 0⟩ = p at e1 e2 ⊢
    refine Ct.of_vc Tryz.f161 Tryz.func161 rfl rfl fun w H B g0 => ?_
    refine OpJ.callV hn (fun _ _ => rfl) rfl rfl rfl ?_
    (repeat (first | refine Spl.t rfl ?_ | refine Spl.f rfl ?_))
    refine OpJ.callV hr (fun _ _ => rfl) rfl rfl rfl ?_
    (repeat (first | refine Spl.t rfl ?_ | refine Spl.f rfl ?_))
    refine Spl.of (fun h1 => ?_) (fun h1 => ?_)
    · have h1 : e ≠ 0 := by simpa using h1
      rw [e1 h1]
      (repeat (first | refine Spl.t rfl ?_ | refine Spl.f rfl ?_))
      refine FinP.viewTup 2 rfl (fun _ _ _ h => nil_sl 6 h) ?_
      exact FinP.open rfl rfl
    · have h1 : e = 0 := by simpa using h1
      rw [e2 h1]
      (repeat (first | refine Spl.t rfl ?_ | refine Spl.f rfl ?_))
      refine RegP.mixS 7 [4, 5] rfl (by decide +kernel) ?_
      exact FinP.open rfl rfl
  · have eD : delVT ⟨s, l, R, []⟩ at_ = (⟨s, l, R, []⟩, OP0, 2) := if_neg hk
    rw [eD]
    rw [decide_eq_false hk] at hn
    refine Ct.of_vc Tryz.f161 Tryz.func161 rfl rfl fun w H B g0 => ?_
    refine OpJ.callV hn (fun _ _ => rfl) rfl rfl rfl ?_
    (repeat (first | refine Spl.t rfl ?_ | refine Spl.f rfl ?_))
    refine FinP.viewTup 2 rfl (fun _ _ _ h => nil_sl 6 h) ?_
    exact FinP.open rfl rfl
theorem ins_no1 {v : VS} {site at_ ch : Int} (h : site < 1 ∨ site > 1000 ∨ at_ < 0 ∨ at_ > liveL (rowE v.l)) : insVT v site at_ ch = (v.same, OP0, 2) := if_pos h
theorem live_le (L : List EL) : liveL L ≤ L.length := List.length_filter_le _ _
set_option maxHeartbeats 1000000 in
theorem VInsert_c {s : SS} {l : List OP} (h : isS s l) (R : List OP) (hR : R.length ≤ 100000) (hok : ∀ o, o ∈ R → checkO o = 0) (site at_ ch : Int) :
    Cv 159 [vv s l R, iv site, iv at_, cv' ch] (resT (insVT ⟨s, l, R, []⟩ site at_ ch)) := by
  have hlen := VLen_c h R
  have hck := Check5_c (prb ch)
  rw [prb_check] at hck
  have hct := VCounter_c h (by omega) hok
  have hts := TLen_c s.t
  rw [h.size, ← row_len h.dn] at hts
  have hlr := row_le h.dn
  have hlv := live_le (rowE l)
  have n1 := fun h => ins_no1 (v := ⟨s, l, R, []⟩) (site := site) (at_ := at_) (ch := ch) h
  refine Ct.of_wv Tryz.f159 Tryz.func159 rfl rfl fun w H B g0 => ?_
  (try refine WJ.cut ?_)
  (first | refine Sq.go ?_ | refine vL_nil (Sq.go ?_) | skip)
  (try refine WJ.cut ?_)
  refine Spl.of (fun a1 => ?_) (fun a1 => ?_)
  · rw [n1 (.inl (of_decide_eq_true a1))]
    ((repeat (first | refine Spl.t rfl ?_ | refine Spl.f rfl ?_)); refine .out (by simp) ?_; refine FinP.viewTup 2 rfl (fun _ _ _ h => nil_sl 6 h) ?_; exact FinP.open rfl rfl)
  have a1 := of_decide_eq_false a1
  (repeat (first | refine Spl.t rfl ?_ | refine Spl.f rfl ?_))
  refine Spl.of (fun a2 => ?_) (fun a2 => ?_)
  · rw [n1 (.inr (.inl (of_decide_eq_true a2)))]
    ((repeat (first | refine Spl.t rfl ?_ | refine Spl.f rfl ?_)); refine .out (by simp) ?_; refine FinP.viewTup 2 rfl (fun _ _ _ h => nil_sl 6 h) ?_; exact FinP.open rfl rfl)
  have a2 := of_decide_eq_false a2
  (repeat (first | refine Spl.t rfl ?_ | refine Spl.f rfl ?_))
  refine Spl.of (fun a3 => ?_) (fun a3 => ?_)
  · rw [n1 (.inr (.inr (.inl (of_decide_eq_true a3))))]
    ((repeat (first | refine Spl.t rfl ?_ | refine Spl.f rfl ?_)); refine .out (by simp) ?_; refine FinP.viewTup 2 rfl (fun _ _ _ h => nil_sl 6 h) ?_; exact FinP.open rfl rfl)
  have a3 := of_decide_eq_false a3
  (repeat (first | refine Spl.t rfl ?_ | refine Spl.f rfl ?_))
  refine OpJ.callV hlen (fun _ _ => rfl) rfl rfl rfl ?_
  (repeat (first | refine Spl.t rfl ?_ | refine Spl.f rfl ?_))
  refine Spl.of (fun a4 => ?_) (fun a4 => ?_)
  · rw [n1 (.inr (.inr (.inr (of_decide_eq_true a4))))]
    ((repeat (first | refine Spl.t rfl ?_ | refine Spl.f rfl ?_)); refine .out (by simp) ?_; refine FinP.viewTup 2 rfl (fun _ _ _ h => nil_sl 6 h) ?_; exact FinP.open rfl rfl)
  have a4 := of_decide_eq_false a4
  have g1 : ¬ (site < 1 ∨ site > 1000 ∨ at_ < 0 ∨ at_ > liveL (rowE l)) := by omega
  (repeat (first | refine Spl.t rfl ?_ | refine Spl.f rfl ?_))
  (first | refine Sq.go ?_ | refine vL_nil (Sq.go ?_) | skip)
  (try refine WJ.cut ?_)
  (first | refine Sq.go ?_ | refine vL_nil (Sq.go ?_) | skip)
  (try refine WJ.cut ?_)
  refine OpJ.callV hck (fun _ _ => rfl) rfl rfl rfl ?_
  (repeat (first | refine Spl.t rfl ?_ | refine Spl.f rfl ?_))
  by_cases c1 : ch < 32 ∨ ch > 1114111 ∨ 55296 ≤ ch ∧ ch ≤ 57343
  · have e : insVT ⟨s, l, R, []⟩ site at_ ch = (⟨s, l, R, []⟩, OP0, 1) := (if_neg g1).trans (if_pos c1)
    rw [e]
    refine Spl.t (by rw [if_pos c1]; rfl) ?_
    ((repeat (first | refine Spl.t rfl ?_ | refine Spl.f rfl ?_)); refine .out (by simp) ?_; refine FinP.viewTup 2 rfl (fun _ _ _ h => nil_sl 6 h) ?_; exact FinP.open rfl rfl)
  refine Spl.f (by rw [if_neg c1]; rfl) ?_
  (repeat (first | refine Spl.t rfl ?_ | refine Spl.f rfl ?_))
  refine OpJ.callV hts (fun _ _ => rfl) rfl rfl rfl ?_
  (repeat (first | refine Spl.t rfl ?_ | refine Spl.f rfl ?_))
  by_cases c2 : 4096 ≤ (rowE l).length
  · have e : insVT ⟨s, l, R, []⟩ site at_ ch = (⟨s, l, R, []⟩, OP0, 7) := (if_neg g1).trans ((if_neg c1).trans (if_pos (.inl c2)))
    rw [e]
    refine Spl.t (decide_eq_true (by omega)) ?_
    ((repeat (first | refine Spl.t rfl ?_ | refine Spl.f rfl ?_)); refine .out (by simp) ?_; refine FinP.viewTup 2 rfl (fun _ _ _ h => nil_sl 6 h) ?_; exact FinP.open rfl rfl)
  refine Spl.f (decide_eq_false (by omega)) ?_
  (repeat (first | refine Spl.t rfl ?_ | refine Spl.f rfl ?_))
  refine OpJ.callV hct (fun _ _ => rfl) rfl rfl rfl ?_
  (repeat (first | refine Spl.t rfl ?_ | refine Spl.f rfl ?_))
  refine Spl.of (fun c3 => ?_) (fun c3 => ?_)
  · have e : insVT ⟨s, l, R, []⟩ site at_ ch = (⟨s, l, R, []⟩, OP0, 7) := (if_neg g1).trans ((if_neg c1).trans (if_pos (.inr (of_decide_eq_true c3))))
    rw [e]
    ((repeat (first | refine Spl.t rfl ?_ | refine Spl.f rfl ?_)); refine .out (by simp) ?_; refine FinP.viewTup 2 rfl (fun _ _ _ h => nil_sl 6 h) ?_; exact FinP.open rfl rfl)
  have c3 := of_decide_eq_false c3
  have e : insVT ⟨s, l, R, []⟩ site at_ ch = doT ⟨s, l, R, []⟩ (opI ⟨s, l, R, []⟩ site at_ ch) := (if_neg g1).trans ((if_neg c1).trans (if_neg (fun h => by rcases h with h | h; exact c2 h; exact c3 h)))
  rw [e]
  have hw : IntKind.i64.wrap (at_ - 1) = at_ - 1 := wrap_id _ (by omega) (by omega)
  have hn := VNamed_c h R (IntKind.i64.wrap (at_ - 1))
  have hr := Remote_c h R [] (opI ⟨s, l, R, []⟩ site at_ ch) hR
  unfold opI at hr ⊢
  simp only at hr ⊢
  rw [← hw] at hr ⊢
  generalize nameL (rowE l) (IntKind.i64.wrap (at_ - 1)) = a at hn hr ⊢
  generalize cntV l R = c at hct hr ⊢
  have e1 : remE ⟨s, l, R, []⟩ ⟨0, ⟨c, site⟩, a, ch⟩ ≠ 0 → doT ⟨s, l, R, []⟩ ⟨0, ⟨c, site⟩, a, ch⟩ = (⟨s, l, R, []⟩, OP0, remE ⟨s, l, R, []⟩ ⟨0, ⟨c, site⟩, a, ch⟩) := fun h => if_pos h
  have e2 : remE ⟨s, l, R, []⟩ ⟨0, ⟨c, site⟩, a, ch⟩ = 0 → doT ⟨s, l, R, []⟩ ⟨0, ⟨c, site⟩, a, ch⟩ = (remV ⟨s, l, R, []⟩ ⟨0, ⟨c, site⟩, a, ch⟩, ⟨0, ⟨c, site⟩, a, ch⟩, 0) := fun h => if_neg (fun e => e h)
  generalize remE ⟨s, l, R, []⟩ ⟨0, ⟨c, site⟩, a, ch⟩ = er at hr e1 e2
  generalize remV ⟨s, l, R, []⟩ ⟨0, ⟨c, site⟩, a, ch⟩ = v' at hr e2
  generalize doT ⟨s, l, R, []⟩ ⟨0, ⟨c, site⟩, a, ch⟩ = p at e1 e2 ⊢
  (repeat (first | refine Spl.t rfl ?_ | refine Spl.f rfl ?_))
  (first | refine Sq.go ?_ | refine vL_nil (Sq.go ?_) | skip)
  (try refine WJ.cut ?_)
  refine OpJ.callV hct (fun _ _ => rfl) rfl rfl rfl ?_
  (repeat (first | refine Spl.t rfl ?_ | refine Spl.f rfl ?_))
  (first | refine Sq.go ?_ | refine vL_nil (Sq.go ?_) | skip)
  (try refine WJ.cut ?_)
  refine OpJ.callV hn (fun _ _ => rfl) rfl rfl rfl ?_
  (repeat (first | refine Spl.t rfl ?_ | refine Spl.f rfl ?_))
  (first | refine Sq.go ?_ | refine vL_nil (Sq.go ?_) | skip)
  (try refine WJ.cut ?_)
  refine OpJ.callV hr (fun _ _ => rfl) rfl rfl rfl ?_
  (repeat (first | refine Spl.t rfl ?_ | refine Spl.f rfl ?_))
  (first | refine Sq.go ?_ | refine vL_nil (Sq.go ?_) | skip)
  (try refine WJ.cut ?_)
  refine Spl.of (fun h1 => ?_) (fun h1 => ?_)
  · have h1 : er ≠ 0 := by simpa using h1
    rw [e1 h1]
    ((repeat (first | refine Spl.t rfl ?_ | refine Spl.f rfl ?_)); refine .out (by simp) ?_; refine FinP.viewTup 2 rfl (fun _ _ _ h => nil_sl 6 h) ?_; exact FinP.open rfl rfl)
  · have h1 : er = 0 := by simpa using h1
    rw [e2 h1]
    (repeat (first | refine Spl.t rfl ?_ | refine Spl.f rfl ?_))
    (first | refine Sq.go ?_ | refine vL_nil (Sq.go ?_) | skip)
    (try refine vc_sound _ _ _ _ ?_)
    refine RegP.mixS 7 [8, 9] rfl (by decide +kernel) ?_
    exact FinP.open rfl rfl
end Go.Proofs.E
end
section
open Go Go.Gv
attribute [local irreducible] Go.Gv.WJ Go.Gv.OpJ Go.Gv.QJ Go.Gv.Spl Go.Gv.Req Go.Gv.IdxP Go.Gv.RegP Go.Gv.FinP Go.Gv.CellP Go.Gv.CellsP Go.Gv.ArrP Go.Gv.ArrsP Go.Gv.DropP Go.Gv.ByteP Go.Gv.StoreP
set_option maxRecDepth 100000
namespace Go.Proofs.E
attribute [local irreducible] elems
end Go.Proofs.E
end
section
open Go Go.Gv
attribute [local irreducible] Go.Gv.WJ Go.Gv.OpJ Go.Gv.QJ Go.Gv.Spl Go.Gv.Req Go.Gv.IdxP Go.Gv.RegP Go.Gv.FinP Go.Gv.CellP Go.Gv.CellsP Go.Gv.ArrP Go.Gv.ArrsP Go.Gv.DropP Go.Gv.ByteP Go.Gv.StoreP
set_option maxRecDepth 100000
namespace Go.Proofs.E
attribute [local irreducible] elems
end Go.Proofs.E
end
section
open Go Go.Gv
attribute [local irreducible] Go.Gv.WJ Go.Gv.OpJ Go.Gv.QJ Go.Gv.Spl Go.Gv.Req Go.Gv.IdxP Go.Gv.RegP Go.Gv.FinP Go.Gv.CellP Go.Gv.CellsP Go.Gv.ArrP Go.Gv.ArrsP Go.Gv.DropP Go.Gv.ByteP Go.Gv.StoreP
set_option maxRecDepth 100000
namespace Go.Proofs.E
attribute [local irreducible] elems
/-- What a version keeps to. -/
structure okV (v : VS) : Prop where
  is : isS v.s v.l
  ck : ∀ o, o ∈ v.R → checkO o = 0
  len : v.R.length ≤ 16
theorem okV.same {v : VS} (h : okV v) : okV v.same := ⟨h.is, h.ck, h.len⟩
theorem okV.take {v : VS} (h : okV v) (o : OP) : okV (v.take o) := ⟨appS_is h.is o, h.ck, h.len⟩
theorem next_mem {l R : List OP} : ∀ x, x ∈ nextR l R → x ∈ R := fun x hx => by
  unfold nextR at hx
  split at hx
  · exact hx
  · rcases List.mem_append.1 hx with h | h
    · exact List.mem_of_mem_take h
    · exact List.mem_of_mem_drop h
theorem nextR_le (l R : List OP) : (nextR l R).length ≤ R.length := by
  unfold nextR; split
  · exact Nat.le_refl _
  · simp; omega
theorem okV.next {v : VS} (h : okV v) : okV v.next := okV.take (v := ⟨v.s, v.l, nextR v.l v.R, v.out⟩) ⟨h.is, fun o ho => h.ck o (next_mem o ho), Nat.le_trans (nextR_le _ _) h.len⟩ _
theorem okV.drn : ∀ (n : Nat) {v : VS}, okV v → okV (drn n v)
  | 0, _, h => h
  | n + 1, v, h => by
    rw [E.drn]
    split
    · exact h
    · exact okV.drn n h.next
theorem drn_out : ∀ (n : Nat) (v : VS), (drn n v).out.length ≤ v.out.length + n
  | 0, _ => Nat.le_refl _
  | n + 1, v => by
    rw [drn]
    split
    · omega
    · have h1 := drn_out n v.next
      have h2 := out_len v.out v.l (nextO v.l v.R)
      have h3 : v.next.out = outV v.out v.l (nextO v.l v.R) := rfl
      rw [h3] at h1; omega
theorem addE_0 {R : List OP} {o : OP} (h : addE R o = 0) : checkO o = 0 ∧ R.length < 16 := by
  unfold addE at h
  split at h
  · next h1 => exact absurd h h1
  · next h1 =>
    split at h
    · cases h
    · split at h
      · cases h
      · split at h
        · cases h
        · exact ⟨by simpa using h1, by omega⟩
theorem okV.rem {v : VS} (h : okV v) (o : OP) : okV (remV v o) := by
  unfold remV
  split
  · exact okV.drn _ (okV.take h.same o)
  · split
    · refine ⟨h.is, fun x hx => ?_, ?_⟩
      · simp only at hx
        unfold addR at hx
        split at hx
        · next h0 =>
          rcases List.mem_append.1 hx with hx | hx
          · exact h.ck x hx
          · rw [List.mem_singleton.1 hx]; exact (addE_0 h0).1
        · exact h.ck x hx
      · simp only
        unfold addR
        split
        · next h0 => have := (addE_0 h0).2; simp; omega
        · exact h.len
    · exact h.same
theorem rem_out {v : VS} (h : okV v) (o : OP) : (remV v o).out.length ≤ 17 := by
  have hl := h.len
  unfold remV
  split
  · have h1 := drn_out v.R.length (VS.take ⟨v.s, v.l, v.R, []⟩ o)
    have h2 := out_len [] v.l o
    have h3 : (VS.take ⟨v.s, v.l, v.R, []⟩ o).out = outV [] v.l o := rfl
    rw [h3] at h1
    simp at h2; omega
  · split <;> simp
theorem okV.doT {v : VS} (h : okV v) (o : OP) : okV (doT v o).1 ∧ (doT v o).1.out.length ≤ 17 := by
  unfold E.doT
  split
  · exact ⟨h.same, by simp [VS.same]⟩
  · exact ⟨h.rem o, rem_out h o⟩
theorem okV.ins {v : VS} (h : okV v) (site at_ ch : Int) : okV (insVT v site at_ ch).1 ∧ (insVT v site at_ ch).1.out.length ≤ 17 := by
  have h0 : okV v.same ∧ v.same.out.length ≤ 17 := ⟨h.same, by simp [VS.same]⟩
  unfold insVT
  split
  · exact h0
  · split
    · exact h0
    · split
      · exact h0
      · exact h.doT _
theorem okV.del {v : VS} (h : okV v) (at_ : Int) : okV (delVT v at_).1 ∧ (delVT v at_).1.out.length ≤ 17 := by
  unfold delVT
  split
  · exact h.doT _
  · exact ⟨h.same, by simp [VS.same]⟩
structure ACT where
  k : Int
  o : OP
  site : Int
  at_ : Int
  ch : Int
def doV (v : VS) (x : ACT) : VS := if x.k = 0 then remV v x.o else if x.k = 1 then (insVT v x.site x.at_ x.ch).1 else if x.k = 2 then (delVT v x.at_).1 else v
theorem okV.act {v : VS} (h : okV v) (x : ACT) : okV (doV v x) := by
  unfold doV
  split
  · exact h.rem _
  · split
    · exact (h.ins _ _ _).1
    · split
      · exact (h.del _).1
      · exact h
end Go.Proofs.E
end
section
open Go Go.Gv
attribute [local irreducible] Go.Gv.WJ Go.Gv.OpJ Go.Gv.QJ Go.Gv.Spl Go.Gv.Req Go.Gv.IdxP Go.Gv.RegP Go.Gv.FinP Go.Gv.CellP Go.Gv.CellsP Go.Gv.ArrP Go.Gv.ArrsP Go.Gv.DropP Go.Gv.ByteP Go.Gv.StoreP
set_option maxRecDepth 100000
namespace Go.Proofs.E
attribute [local irreducible] elems
theorem nilRoom {γ : Ids} {H : HF} {u : Value} (r : Rep γ H (.agg [.d (.v (.slice none 0 0))]) u) : Rep γ H (rmv []) u := rep_agg_set (j := 0) r rfl fun _ h => nil_sl 6 h
theorem AddN_c (o : OP) : Cv 243 [.agg [.d (.v (.slice none 0 0))], opv o] (.tup [rmv (addR [] o), iv (addE [] o)]) := by
  refine Ct.view (Add_c [] o (by decide)) rfl fun j a b ha hb γ H u r => ?_
  match j, ha, hb with
  | 0, ha, hb => cases ha; cases hb; exact nilRoom r
  | 1, ha, hb => cases ha; cases hb; exact r
def aw7 : OP := ⟨0, ⟨2, 1⟩, ⟨1, 1⟩, 98⟩
theorem Awake7_c : Cv 205 [] (bv true) := by
  have hadd := AddN_c aw7
  rw [show addR [] aw7 = [aw7] by decide +kernel, show addE [] aw7 = 0 by decide +kernel] at hadd
  have hnx := Next_c isS_nil [aw7] (by decide)
  rw [show nextR [] [aw7] = [aw7] by decide +kernel, show nextO [] [aw7] = OP0 by decide +kernel, show decide (0 ≤ nextIx [] [aw7]) = false by decide +kernel] at hnx
  have hln := RLen_c [aw7]
  have htp := Top_c [aw7] (by decide)
  rw [show topR [aw7] = 2 by decide +kernel] at htp
  refine Ct.of_wv Tryz.f205 Tryz.func205 rfl rfl fun w H B g0 => ?_
  (try refine WJ.cut ?_)
  (first | refine Sq.go ?_ | refine vL_nil (Sq.go ?_) | skip)
  (try refine WJ.cut ?_)
  refine OpJ.callV hadd (fun _ _ => rfl) rfl rfl rfl ?_
  (first | refine Sq.go ?_ | refine vL_nil (Sq.go ?_) | skip)
  (try refine WJ.cut ?_)
  refine OpJ.callV hnx (fun _ _ => rfl) rfl rfl rfl ?_
  (first | refine Sq.go ?_ | refine vL_nil (Sq.go ?_) | skip)
  (try refine WJ.cut ?_)
  refine OpJ.callV Awake6_c (fun _ _ => rfl) rfl rfl rfl ?_
  (repeat (first | refine Spl.t rfl ?_ | refine Spl.f rfl ?_))
  refine OpJ.callV hln (fun _ _ => rfl) rfl rfl rfl ?_
  (repeat (first | refine Spl.t rfl ?_ | refine Spl.f rfl ?_))
  refine OpJ.callV htp (fun _ _ => rfl) rfl rfl rfl ?_
  (repeat (first | refine Spl.t rfl ?_ | refine Spl.f rfl ?_))
  (first | refine Sq.go ?_ | refine vL_nil (Sq.go ?_) | skip)
  (try refine vc_sound _ _ _ _ ?_)
  exact FinP.open rfl rfl
end Go.Proofs.E
end
section
open Go Go.Gv
attribute [local irreducible] Go.Gv.WJ Go.Gv.OpJ Go.Gv.QJ Go.Gv.Spl Go.Gv.Req Go.Gv.IdxP Go.Gv.RegP Go.Gv.FinP Go.Gv.CellP Go.Gv.CellsP Go.Gv.ArrP Go.Gv.ArrsP Go.Gv.DropP Go.Gv.ByteP Go.Gv.StoreP
set_option maxRecDepth 100000
namespace Go.Proofs.E
attribute [local irreducible] elems
theorem nilV {γ : Ids} {H : HF} {u : Value} {t p : D} {n m k : Int} {z1 z2 : AV} (r : Rep γ H (.agg [.d t, .d p, iv n, .d (.v (.slice none 0 0)), iv m, iv k, z1, z2]) u) : Rep γ H (.agg [.d t, .d p, iv n, .d (.sl 6 []), iv m, iv k, z1, z2]) u := rep_agg_set (j := 3) r rfl fun _ h => nil_sl 6 h
/-- The zero version, as it lies. -/
abbrev vvN : AV := .agg [.d TR.nil.d, .d PT.nil.d, iv 0, .d (.v (.slice none 0 0)), iv 0, iv 0, cx 0 0, cx 0 0]
def vA0 : VS := ⟨⟨.nil, .nil, 0⟩, [], [], []⟩
theorem okA0 : okV vA0 := ⟨isS_nil, fun _ h => by simp [vA0] at h, by simp [vA0]⟩
def pA1 : VS × OP × Int := insVT vA0 1 0 97
def vA1 : VS := ⟨pA1.1.s, pA1.1.l, pA1.1.R, []⟩
def pA2 : VS × OP × Int := insVT vA1 1 1 98
def vA2 : VS := ⟨pA2.1.s, pA2.1.l, pA2.1.R, []⟩
def pA3 : VS × OP × Int := delVT vA2 0
theorem okV.out {v : VS} (h : okV v) : okV ⟨v.s, v.l, v.R, []⟩ := ⟨h.is, h.ck, h.len⟩
theorem okA1 : okV vA1 := (okA0.ins 1 0 97).1.out
theorem okA2 : okV vA2 := (okA1.ins 1 1 98).1.out
theorem okA3 : okV pA3.1 := (okA2.del 0).1
theorem InsN_c (site at_ ch : Int) : Cv 159 [vvN, iv site, iv at_, cv' ch] (resT (insVT vA0 site at_ ch)) := by
  refine Ct.view (VInsert_c (s := vA0.s) (l := vA0.l) okA0.is vA0.R (by decide) okA0.ck site at_ ch) rfl fun j a b ha hb γ H u r => ?_
  match j, ha, hb with
  | 0, ha, hb => cases ha; cases hb; exact nilV r
  | 1, ha, hb => cases ha; cases hb; exact r
  | 2, ha, hb => cases ha; cases hb; exact r
  | 3, ha, hb => cases ha; cases hb; exact r
theorem aw_l : byt (txtZ (rowE pA3.1.l)) = [98] := by decide +kernel
theorem aw_n : pA3.1.l.length = 3 := by decide +kernel
theorem aw_e : pA3.2.2 = 0 := by decide +kernel
theorem aw_out : pA3.1.out = [⟨3, 0, ⟨1, 1⟩, 97, true⟩] := by decide +kernel
theorem Awake8_c : Cv 163 [] (bv true) := by
  have h1 := InsN_c 1 0 97
  have h2 := VInsert_c okA1.is vA1.R (by have := okA1.len; omega) okA1.ck 1 1 98
  have h3 := VDelete_c okA2.is vA2.R (by have := okA2.len; omega) 0
  have tx := VText_c okA3.is pA3.1.R
  have sq := VSeq_c pA3.1.s pA3.1.l pA3.1.R
  rw [aw_l] at tx
  rw [aw_n] at sq
  have e1 : insVT vA0 1 0 97 = pA1 := rfl
  have e2 : insVT ⟨vA1.s, vA1.l, vA1.R, []⟩ 1 1 98 = pA2 := rfl
  have e3 : delVT ⟨vA2.s, vA2.l, vA2.R, []⟩ 0 = pA3 := rfl
  rw [e1] at h1
  rw [e2] at h2
  rw [e3] at h3
  have d1 : vA1 = ⟨pA1.1.s, pA1.1.l, pA1.1.R, []⟩ := rfl
  have d2 : vA2 = ⟨pA2.1.s, pA2.1.l, pA2.1.R, []⟩ := rfl
  rw [d1] at h2
  rw [d2] at h3
  have ho := aw_out
  have he := aw_e
  generalize pA3 = p3 at h3 tx sq ho he
  generalize pA2 = p2 at h2 h3
  generalize pA1 = p1 at h1 h2
  obtain ⟨v3, o3, e3'⟩ := p3
  obtain ⟨v2, o2, e2'⟩ := p2
  obtain ⟨v1, o1, e1'⟩ := p1
  unfold resT at h1 h2 h3
  simp only at h1 h2 h3 tx sq ho he
  rw [ho, he] at h3
  refine Ct.of_wv Tryz.f163 Tryz.func163 rfl rfl fun w H B g0 => ?_
  (try refine WJ.cut ?_)
  (first | refine Sq.go ?_ | refine vL_nil (Sq.go ?_) | skip)
  (try refine WJ.cut ?_)
  refine OpJ.callV h1 (fun _ _ => rfl) rfl rfl rfl ?_
  (repeat (first | refine Spl.t rfl ?_ | refine Spl.f rfl ?_))
  (first | refine Sq.go ?_ | refine vL_nil (Sq.go ?_) | skip)
  (try refine WJ.cut ?_)
  refine OpJ.callV h2 (fun _ _ => rfl) rfl rfl rfl ?_
  (repeat (first | refine Spl.t rfl ?_ | refine Spl.f rfl ?_))
  (first | refine Sq.go ?_ | refine vL_nil (Sq.go ?_) | skip)
  (try refine WJ.cut ?_)
  refine OpJ.callV h3 (fun _ _ => rfl) rfl rfl rfl ?_
  (repeat (first | refine Spl.t rfl ?_ | refine Spl.f rfl ?_))
  (first | refine Sq.go ?_ | refine vL_nil (Sq.go ?_) | skip)
  (try refine vc_sound _ _ _ _ ?_)
  refine OpJ.callV Awake2_c (fun _ _ => rfl) rfl rfl rfl ?_
  (repeat (first | refine Spl.t rfl ?_ | refine Spl.f rfl ?_))
  refine OpJ.callV Awake7_c (fun _ _ => rfl) rfl rfl rfl ?_
  (repeat (first | refine Spl.t rfl ?_ | refine Spl.f rfl ?_))
  refine OpJ.callV tx (fun _ _ => rfl) rfl rfl rfl ?_
  (repeat (first | refine Spl.t rfl ?_ | refine Spl.f rfl ?_))
  (try refine Spl.t (by decide) ?_)
  (repeat (first | refine Spl.t rfl ?_ | refine Spl.f rfl ?_))
  refine OpJ.callV sq (fun _ _ => rfl) rfl rfl rfl ?_
  (repeat (first | refine Spl.t rfl ?_ | refine Spl.f rfl ?_))
  (try refine Spl.t (by decide) ?_)
  (repeat (first | refine Spl.t rfl ?_ | refine Spl.f rfl ?_))
  refine IdxP.of (chD ⟨3, 0, ⟨1, 1⟩, 97, true⟩) (by decide) rfl ?_
  (repeat (first | refine Spl.t rfl ?_ | refine Spl.f rfl ?_))
  refine IdxP.of (chD ⟨3, 0, ⟨1, 1⟩, 97, true⟩) (by decide) rfl ?_
  (repeat (first | refine Spl.t rfl ?_ | refine Spl.f rfl ?_))
  exact FinP.open rfl rfl
end Go.Proofs.E
end
section
open Go Go.Gv
attribute [local irreducible] Go.Gv.WJ Go.Gv.OpJ Go.Gv.QJ Go.Gv.Spl Go.Gv.Req Go.Gv.IdxP Go.Gv.RegP Go.Gv.FinP Go.Gv.CellP Go.Gv.CellsP Go.Gv.ArrP Go.Gv.ArrsP Go.Gv.DropP Go.Gv.ByteP Go.Gv.StoreP
set_option maxRecDepth 100000
namespace Go.Proofs.E
attribute [local irreducible] elems
end Go.Proofs.E
end
section
open Go Go.Gv
attribute [local irreducible] Go.Gv.WJ Go.Gv.OpJ Go.Gv.QJ Go.Gv.Spl Go.Gv.Req Go.Gv.IdxP Go.Gv.RegP Go.Gv.FinP Go.Gv.CellP Go.Gv.CellsP Go.Gv.ArrP Go.Gv.ArrsP Go.Gv.DropP Go.Gv.ByteP Go.Gv.StoreP
set_option maxRecDepth 100000
namespace Go.Proofs.E
attribute [local irreducible] elems
def curAt (L : List EL) (k : Int) : ID × Int := if k = liveL L then (⟨0, 0⟩, 0) else if 0 ≤ k ∧ k < liveL L then (nameL L k, 0) else (⟨0, 0⟩, 2)
def resC (L : List EL) (a : ID) : Int × Int := if noneI a = true then (liveL L, 0) else if 0 ≤ placeL a L then (rankL L (placeL a L), 0) else (0, 6)
theorem CAt_c {s : SS} {l : List OP} (h : isS s l) (R : List OP) (k : Int) : Cv 160 [vv s l R, iv k] (.tup [idv (curAt (rowE l) k).1, iv (curAt (rowE l) k).2]) := by
  have hlen := VLen_c h R
  have hn := VNamed_c h R k
  refine Ct.of_vc Tryz.f160 Tryz.func160 rfl rfl fun w H B g0 => ?_
  refine OpJ.callV hlen (fun _ _ => rfl) rfl rfl rfl ?_
  refine Spl.of (fun h1 => ?_) (fun h1 => ?_)
  · have h1 := of_decide_eq_true h1
    have e : curAt (rowE l) k = (⟨0, 0⟩, 0) := if_pos h1
    rw [e]
    (repeat (first | refine Spl.t rfl ?_ | refine Spl.f rfl ?_))
    exact FinP.open rfl rfl
  · have h1 := of_decide_eq_false h1
    by_cases h2 : 0 ≤ k ∧ k < liveL (rowE l)
    · have e : curAt (rowE l) k = (nameL (rowE l) k, 0) := (if_neg h1).trans (if_pos h2)
      rw [decide_eq_true h2] at hn
      rw [e]
      (repeat (first | refine Spl.t rfl ?_ | refine Spl.f rfl ?_))
      refine OpJ.callV hn (fun _ _ => rfl) rfl rfl rfl ?_
      (repeat (first | refine Spl.t rfl ?_ | refine Spl.f rfl ?_))
      exact FinP.open rfl rfl
    · have e : curAt (rowE l) k = (⟨0, 0⟩, 2) := (if_neg h1).trans (if_neg h2)
      rw [decide_eq_false h2] at hn
      rw [e]
      (repeat (first | refine Spl.t rfl ?_ | refine Spl.f rfl ?_))
      refine OpJ.callV hn (fun _ _ => rfl) rfl rfl rfl ?_
      (repeat (first | refine Spl.t rfl ?_ | refine Spl.f rfl ?_))
      exact FinP.open rfl rfl
theorem CResolve_c {s : SS} {l : List OP} (h : isS s l) (R : List OP) (a : ID) : Cv 162 [idv a, vv s l R] (.tup [iv (resC (rowE l) a).1, iv (resC (rowE l) a).2]) := by
  have hlen := VLen_c h R
  have hb := VBefore_c h R a
  refine Ct.of_vc Tryz.f162 Tryz.func162 rfl rfl fun w H B g0 => ?_
  refine OpJ.callV (None_c a) (fun _ _ => rfl) rfl rfl rfl ?_
  refine Spl.of (fun h1 => ?_) (fun h1 => ?_)
  · have e : resC (rowE l) a = (((liveL (rowE l) : Nat) : Int), 0) := if_pos h1
    rw [e]
    (repeat (first | refine Spl.t rfl ?_ | refine Spl.f rfl ?_))
    refine OpJ.callV hlen (fun _ _ => rfl) rfl rfl rfl ?_
    exact FinP.open rfl rfl
  · by_cases h2 : 0 ≤ placeL a (rowE l)
    · have e : resC (rowE l) a = (((rankL (rowE l) (placeL a (rowE l)) : Nat) : Int), 0) := (if_neg (by rw [h1]; exact Bool.false_ne_true)).trans (if_pos h2)
      rw [decide_eq_true h2, show beforeL (rowE l) a = rankL (rowE l) (placeL a (rowE l)) from if_pos h2] at hb
      rw [e]
      (repeat (first | refine Spl.t rfl ?_ | refine Spl.f rfl ?_))
      refine OpJ.callV hb (fun _ _ => rfl) rfl rfl rfl ?_
      (repeat (first | refine Spl.t rfl ?_ | refine Spl.f rfl ?_))
      exact FinP.open rfl rfl
    · have e : resC (rowE l) a = (0, 6) := (if_neg (by rw [h1]; exact Bool.false_ne_true)).trans (if_neg h2)
      rw [decide_eq_false h2] at hb
      rw [e]
      (repeat (first | refine Spl.t rfl ?_ | refine Spl.f rfl ?_))
      refine OpJ.callV hb (fun _ _ => rfl) rfl rfl rfl ?_
      (repeat (first | refine Spl.t rfl ?_ | refine Spl.f rfl ?_))
      exact FinP.open rfl rfl
end Go.Proofs.E
end
section
open Go Go.Gv
attribute [local irreducible] Go.Gv.WJ Go.Gv.OpJ Go.Gv.QJ Go.Gv.Spl Go.Gv.Req Go.Gv.IdxP Go.Gv.RegP Go.Gv.FinP Go.Gv.CellP Go.Gv.CellsP Go.Gv.ArrP Go.Gv.ArrsP Go.Gv.DropP Go.Gv.ByteP Go.Gv.StoreP
set_option maxRecDepth 100000
namespace Go.Proofs.E
attribute [local irreducible] elems
end Go.Proofs.E
end
section
namespace Go.Gv
open Go.RowKit
def TStep (X : Cx) (all : Array Oper) (o : Oper) (t : T) (σ : Sg) (V : AV) (E : Option (Nat × Ent)) (F : Option (Nat × Ent × Ent)) : Prop :=
  (E = none ∧ F = none ∧ OStep X all o t σ V) ∨ (∃ id e, E = some (id, e) ∧ F = none ∧ o.guard = none ∧ BirthJ X o t σ id V e) ∨ (∃ id e f, E = none ∧ F = some (id, e, f) ∧ StoreJ X o t id e f)
abbrev Bs := List (Nat × Nat × Ent)
def bsS (bs : Bs) : Sg := bs.map fun p => p.2
/-- The region's operations, in their order; k: the number of the next. -/
def CT (X : Cx) (all : Array Oper) (σ0 σ : Sg) (Q : T → Sg → Prop) : List Oper → Nat → T → Bs → Sg → Prop
  | [], _, t, bs, ss => ∃ t', Wk t' t ∧ Q t' (ss ++ bsS bs)
  | o :: rest, k, t, bs, ss =>
    (∃ V, OStep X all o t σ V ∧ dOk o.dst X.N = true ∧ (∀ p, p ∈ bs → has2 p.2.1 V = false) ∧ CT X all σ0 σ Q rest (k + 1) (putT o.dst V t) bs ss) ∨
    (∃ id V e, o.dst = some id ∧ o.guard = none ∧ BirthJ X o t σ id V e ∧ dOk (some id) X.N = true ∧ isFresh id t (ss ++ (bsS bs ++ σ0)) X.pin = true ∧
      (∀ p, p ∈ bs → entHas p.2.1 e = false ∧ has2 p.2.1 V = false) ∧ CT X all σ0 σ Q rest (k + 1) ((id, V) :: t) ((k, id, e) :: bs) ss) ∨
    (∃ x e f, StoreJ X o t x e f ∧ look x σ = none ∧ look x ss = none ∧ ((look x σ0 = some e ∧ ∀ p, p ∈ bs → p.2.1 ≠ x) ∨ (∃ b, (b, x, e) ∈ bs ∧ edge o b = true)) ∧
      (∀ p, p ∈ bs → edge o p.1 = true ∨ (x ≠ p.2.1 ∧ entHas p.2.1 f = false)) ∧ CT X all σ0 σ Q rest (k + 1) t bs ((x, f) :: ss))
structure TTab (X : Cx) (all : Array Oper) (σ0 σ : Sg) (Q : T → Sg → Prop) (n k : Nat) (t : T) (bs : Bs) (ss : Sg) (V : Nat → AV) (E : Nat → Option (Nat × Ent)) (F : Nat → Option (Nat × Ent × Ent)) : Prop where
  step : ∀ j o, j < n → all[k + j]? = some o → TStep X all o (statesFrom all V t k j) σ (V (k + j)) (E (k + j)) (F (k + j)) ∧ dOk o.dst X.N = true
  fin : ∃ t', Wk t' (statesFrom all V t k n) ∧ Q t' (sFrom F k ss n ++ bornFrom E k (bsS bs) n)
  fresh : ∀ j id e, j < n → E (k + j) = some (id, e) → isFresh id t (ss ++ (bsS bs ++ σ0)) X.pin = true
  ev : ∀ j j' x id e, j < n → j' < n → j' ≠ j → E (k + j) = some (id, e) → dstAt all (k + j') = some x → has2 id (V (k + j')) = false
  ee : ∀ j j' id e id' e', j < n → j' < n → j' ≠ j → E (k + j) = some (id, e) → E (k + j') = some (id', e') → id' ≠ id ∧ entHas id e' = false
  ef : ∀ j j' id e x e' f, j < n → j' < n → E (k + j) = some (id, e) → F (k + j') = some (x, e', f) → (∀ o, all[k + j']? = some o → edge o (k + j) = true) ∨ (x ≠ id ∧ entHas id f = false)
  old : ∀ j x e f, j < n → F (k + j) = some (x, e, f) → look x σ = none ∧ look x ss = none ∧
    ((look x σ0 = some e ∧ (∀ p, p ∈ bs → p.2.1 ≠ x) ∧ ∀ j' id e', j' < n → E (k + j') = some (id, e') → id ≠ x) ∨ (∃ b, (b, x, e) ∈ bs ∧ ∀ o, all[k + j]? = some o → edge o b = true) ∨ (∃ j', j' < n ∧ E (k + j') = some (x, e) ∧ ∀ o, all[k + j]? = some o → edge o (k + j') = true))
  ff : ∀ i j x e f e' f', i < n → j < n → F (k + i) = some (x, e, f) → F (k + j) = some (x, e', f') → i = j
  bv : ∀ p, p ∈ bs → ∀ j, j < n → (∀ x, dstAt all (k + j) = some x → has2 p.2.1 (V (k + j)) = false) ∧ (∀ id e, E (k + j) = some (id, e) → id ≠ p.2.1 ∧ entHas p.2.1 e = false) ∧
    ∀ x e f, F (k + j) = some (x, e, f) → (∀ o, all[k + j]? = some o → edge o p.1 = true) ∨ (x ≠ p.2.1 ∧ entHas p.2.1 f = false)
def consE (k : Nat) : Option (Nat × Ent) → Bs → Bs
  | some q, bs => (k, q) :: bs
  | none, bs => bs
theorem bsS_cons (k : Nat) (E0 : Option (Nat × Ent)) (bs : Bs) : bsS (consE k E0 bs) = consO E0 (bsS bs) := by cases E0 <;> rfl
theorem fresh_app {id : Nat} {t : T} {a b : Sg} {pin : List Nat} (h : isFresh id t (a ++ b) pin = true) : isFresh id t a pin = true ∧ isFresh id t b pin = true := by
  simp only [isFresh, Bool.and_eq_true, List.all_append] at h ⊢
  exact ⟨⟨⟨h.1.1, h.1.2.1⟩, h.2⟩, ⟨⟨h.1.1, h.1.2.2⟩, h.2⟩⟩
theorem fresh_mem {id : Nat} {t : T} {σ : Sg} {pin : List Nat} (h : isFresh id t σ pin = true) {p : Nat × Ent} (hp : p ∈ σ) : p.1 ≠ id ∧ entHas id p.2 = false := by
  simp only [isFresh, Bool.and_eq_true, List.all_eq_true] at h
  have := h.1.2 p hp
  simp only [Bool.and_eq_true, Bool.not_eq_true'] at this
  exact ⟨fun e => by rw [e] at this; simp at this, this.2⟩
theorem fresh_less {id : Nat} {t : T} {σ σ' : Sg} {pin : List Nat} (h : isFresh id t σ pin = true) (hs : ∀ p, p ∈ σ' → p ∈ σ) : isFresh id t σ' pin = true := by
  simp only [isFresh, Bool.and_eq_true, List.all_eq_true] at h ⊢
  exact ⟨⟨h.1.1, fun p hp => h.1.2 p (hs p hp)⟩, h.2⟩
theorem CT.table {X : Cx} {all : Array Oper} {σ0 σ : Sg} {Q : T → Sg → Prop} : ∀ (rest : List Oper) (k : Nat) (t : T) (bs : Bs) (ss : Sg), (∀ j, j < rest.length → all[k + j]? = rest[j]?) → CT X all σ0 σ Q rest k t bs ss → ∃ V E F, TTab X all σ0 σ Q rest.length k t bs ss V E F
  | [], k, t, bs, ss, _, h => ⟨fun _ => .junk, fun _ => none, fun _ => none, ⟨fun j o hj => by simp at hj, h, fun j id e hj => by simp at hj, fun j j' x id e hj => by simp at hj, fun j j' id e id' e' hj => by simp at hj, fun j j' id e x e' f hj => by simp at hj, fun j x e f hj => by simp at hj, fun i j x e f e' f' hi => by simp at hi, fun p _ j hj => by simp at hj⟩⟩
  | p :: rest, k, t, bs, ss, ha, h => by
    have hk : all[k]? = some p := by simpa using ha 0 (by simp)
    have hdk : dstAt all k = p.dst := by simp [dstAt, hk]
    have ha' : ∀ j, j < rest.length → all[k + 1 + j]? = rest[j]? := fun j hj => by have := ha (j + 1) (by simp; omega); rw [show k + 1 + j = k + (j + 1) from by omega]; simpa using this
    have hne : ∀ j, k + (j + 1) ≠ k := fun j => by omega
    have hadd : ∀ j, k + (j + 1) = k + 1 + j := fun j => by omega
    have key : ∀ (V0 : AV) (E0 : Option (Nat × Ent)) (F0 : Option (Nat × Ent × Ent)), TStep X all p t σ V0 E0 F0 → dOk p.dst X.N = true → CT X all σ0 σ Q rest (k + 1) (putT p.dst V0 t) (consE k E0 bs) (consF F0 ss) →
        (∀ id e, E0 = some (id, e) → isFresh id t (ss ++ (bsS bs ++ σ0)) X.pin = true) →
        (∀ x e f, F0 = some (x, e, f) → E0 = none ∧ look x σ = none ∧ look x ss = none ∧ ((look x σ0 = some e ∧ ∀ q, q ∈ bs → q.2.1 ≠ x) ∨ (∃ b, (b, x, e) ∈ bs ∧ edge p b = true))) →
        (∀ q, q ∈ bs → (∀ x, p.dst = some x → has2 q.2.1 V0 = false) ∧ (∀ id e, E0 = some (id, e) → id ≠ q.2.1 ∧ entHas q.2.1 e = false) ∧ ∀ x e f, F0 = some (x, e, f) → edge p q.1 = true ∨ (x ≠ q.2.1 ∧ entHas q.2.1 f = false)) →
        ∃ V E F, TTab X all σ0 σ Q (p :: rest).length k t bs ss V E F := by
      intro V0 E0 F0 hB hdok h4 hE0 hF0 hbs
      obtain ⟨V', E', F', tb⟩ := CT.table rest (k + 1) _ _ _ ha' h4
      obtain ⟨i1, ⟨t', i2, i3⟩, i4, i5, i6, i7, i8, i9, i10⟩ := tb
      have hV : ∀ j, statesFrom all (fun i => if i = k then V0 else V' i) t k (j + 1) = statesFrom all V' (putT p.dst V0 t) (k + 1) j := fun j => by
        rw [statesFrom_succ, hdk]
        simp only [if_true]
        exact statesFrom_congr j fun i h7 h8 => if_neg (by omega)
      have hFF : ∀ j, sFrom (fun i => if i = k then F0 else F' i) k ss (j + 1) = sFrom F' (k + 1) (consF F0 ss) j := fun j => by
        rw [sFrom_succ]
        simp only [if_true]
        exact sFrom_congr (F := fun i => if i = k then F0 else F' i) (F' := F') j fun i h7 h8 => if_neg (by omega)
      have hEE : ∀ j, bornFrom (fun i => if i = k then E0 else E' i) k (bsS bs) (j + 1) = bornFrom E' (k + 1) (bsS (consE k E0 bs)) j := fun j => by
        rw [bornFrom_succ, bsS_cons]
        simp only [if_true]
        exact bornFrom_congr (E := fun i => if i = k then E0 else E' i) (E' := E') j fun i h7 h8 => if_neg (by omega)
      -- the head's birth is a member of what is born behind it
      have memE : ∀ q, E0 = some q → (k, q) ∈ consE k E0 bs := fun q e => by rw [e]; simp [consE]
      have memB : ∀ q, q ∈ bs → q ∈ consE k E0 bs := fun q hq => by cases E0 <;> simp [consE, hq]
      have freshL : ∀ id, isFresh id (putT p.dst V0 t) (consF F0 ss ++ (bsS (consE k E0 bs) ++ σ0)) X.pin = true → isFresh id t (ss ++ (bsS bs ++ σ0)) X.pin = true ∧ (∀ x, p.dst = some x → has2 id V0 = false) ∧ (∀ id' e', E0 = some (id', e') → id' ≠ id ∧ entHas id e' = false) ∧ ∀ x e f, F0 = some (x, e, f) → x ≠ id ∧ entHas id f = false := by
        intro id hf
        obtain ⟨g1, g2⟩ := fresh_putT hf
        refine ⟨fresh_less g1 fun q hq => ?_, g2, fun id' e' h => ?_, fun x e f h => ?_⟩
        · rcases List.mem_append.1 hq with h | h
          · exact List.mem_append.2 (.inl (by cases F0 with | none => exact h | some r => exact List.mem_cons.2 (.inr h)))
          · rcases List.mem_append.1 h with h | h
            · refine List.mem_append.2 (.inr (List.mem_append.2 (.inl ?_)))
              rw [bsS_cons]; cases E0 with | none => exact h | some r => exact List.mem_cons.2 (.inr h)
            · exact List.mem_append.2 (.inr (List.mem_append.2 (.inr h)))
        · exact fresh_mem g1 (p := (id', e')) (List.mem_append.2 (.inr (List.mem_append.2 (.inl (by rw [bsS_cons, h]; simp [consO])))))
        · exact fresh_mem g1 (p := (x, f)) (List.mem_append.2 (.inl (by rw [h]; simp [consF])))
      refine ⟨fun i => if i = k then V0 else V' i, fun i => if i = k then E0 else E' i, fun i => if i = k then F0 else F' i, ?_, ⟨t', by rw [List.length_cons, hV]; exact i2, by rw [List.length_cons, hFF, hEE]; exact i3⟩, ?_, ?_, ?_, ?_, ?_, ?_, ?_⟩
      · intro j o hj ho
        cases j with
        | zero =>
          rw [Nat.add_zero, hk] at ho
          simp only [Option.some.injEq] at ho
          subst ho
          simp only [Nat.add_zero, if_true, statesFrom]
          exact ⟨hB, hdok⟩
        | succ j =>
          rw [hV]
          simp only [if_neg (hne j)]
          have := i1 j o (by simpa using hj) (by rw [← hadd j]; exact ho)
          rw [hadd j]; exact this
      · intro j id e hj hE
        cases j with
        | zero => simp only [Nat.add_zero, if_true] at hE; exact hE0 id e hE
        | succ j =>
          simp only [if_neg (hne j)] at hE; rw [hadd j] at hE
          exact (freshL id (i4 j id e (by simpa using hj) hE)).1
      · intro j j' x id e hj hj' hjj hE hx
        cases j with
        | zero =>
          simp only [Nat.add_zero, if_true] at hE
          cases j' with
          | zero => exact absurd rfl hjj
          | succ j' =>
            simp only [if_neg (hne j')] at hx ⊢; rw [hadd j'] at hx ⊢
            exact (i10 _ (memE _ hE) j' (by simpa using hj')).1 x hx
        | succ j =>
          simp only [if_neg (hne j)] at hE; rw [hadd j] at hE
          cases j' with
          | zero =>
            simp only [Nat.add_zero, if_true] at hx ⊢
            exact (freshL id (i4 j id e (by simpa using hj) hE)).2.1 x (by rw [← hdk]; exact hx)
          | succ j' =>
            simp only [if_neg (hne j')] at hx ⊢; rw [hadd j'] at hx ⊢
            exact i5 j j' x id e (by simpa using hj) (by simpa using hj') (by omega) hE hx
      · intro j j' id e id' e' hj hj' hjj hE hE'
        cases j with
        | zero =>
          simp only [Nat.add_zero, if_true] at hE
          cases j' with
          | zero => exact absurd rfl hjj
          | succ j' =>
            simp only [if_neg (hne j')] at hE'; rw [hadd j'] at hE'
            exact (i10 _ (memE _ hE) j' (by simpa using hj')).2.1 id' e' hE'
        | succ j =>
          simp only [if_neg (hne j)] at hE; rw [hadd j] at hE
          cases j' with
          | zero =>
            simp only [Nat.add_zero, if_true] at hE'
            exact (freshL id (i4 j id e (by simpa using hj) hE)).2.2.1 id' e' hE'
          | succ j' =>
            simp only [if_neg (hne j')] at hE'; rw [hadd j'] at hE'
            exact i6 j j' id e id' e' (by simpa using hj) (by simpa using hj') (by omega) hE hE'
      · intro j j' id e x e' f hj hj' hE hF
        cases j with
        | zero =>
          simp only [Nat.add_zero, if_true] at hE
          cases j' with
          | zero =>
            simp only [Nat.add_zero, if_true] at hF
            have := (hF0 x e' f hF).1
            rw [hE] at this; cases this
          | succ j' =>
            simp only [if_neg (hne j')] at hF; rw [hadd j'] at hF
            have := (i10 _ (memE _ hE) j' (by simpa using hj')).2.2 x e' f hF
            rw [hadd j']; exact this
        | succ j =>
          simp only [if_neg (hne j)] at hE; rw [hadd j] at hE
          cases j' with
          | zero =>
            simp only [Nat.add_zero, if_true] at hF
            exact .inr ((freshL id (i4 j id e (by simpa using hj) hE)).2.2.2 x e' f hF)
          | succ j' =>
            simp only [if_neg (hne j')] at hF; rw [hadd j'] at hF
            rw [hadd j, hadd j']
            exact i7 j j' id e x e' f (by simpa using hj) (by simpa using hj') hE hF
      · intro j x e f hj hF
        cases j with
        | zero =>
          simp only [Nat.add_zero, if_true] at hF
          obtain ⟨g0, g1, g2, g3⟩ := hF0 x e f hF
          refine ⟨g1, g2, ?_⟩
          rcases g3 with ⟨g4, g5⟩ | ⟨b, g4, g5⟩
          · refine .inl ⟨g4, g5, fun j' id e' hj' hE => ?_⟩
            cases j' with
            | zero => simp only [Nat.add_zero, if_true] at hE; rw [g0] at hE; cases hE
            | succ j' =>
              simp only [if_neg (hne j')] at hE; rw [hadd j'] at hE
              exact fun e => ((freshL id (i4 j' id e' (by simpa using hj') hE)).2.2.2 _ _ _ hF).1 e.symm
          · exact .inr (.inl ⟨b, g4, fun o ho => by rw [Nat.add_zero, hk] at ho; cases ho; exact g5⟩)
        | succ j =>
          simp only [if_neg (hne j)] at hF; rw [hadd j] at hF
          obtain ⟨g1, g2, g3⟩ := i8 j x e f (by simpa using hj) hF
          refine ⟨g1, ?_, ?_⟩
          · cases F0 with
            | none => exact g2
            | some q =>
              obtain ⟨y, e0, f0⟩ := q
              simp only [consF] at g2
              rw [look_cons] at g2
              split at g2
              · cases g2
              · exact g2
          · rcases g3 with ⟨g4, g5, g6⟩ | ⟨b, g4, g5⟩ | ⟨j', g4, g5, g6⟩
            · refine .inl ⟨g4, fun q hq => g5 q (memB q hq), fun j' id e' hj' hE => ?_⟩
              cases j' with
              | zero => simp only [Nat.add_zero, if_true] at hE; exact g5 _ (memE _ hE)
              | succ j' =>
                simp only [if_neg (hne j')] at hE; rw [hadd j'] at hE
                exact g6 j' id e' (by simpa using hj') hE
            · cases hE : E0 with
              | none => rw [hE] at g4; exact .inr (.inl ⟨b, g4, fun o ho => g5 o (by rw [← hadd j]; exact ho)⟩)
              | some q =>
                rw [hE] at g4
                rcases List.mem_cons.1 g4 with h | h
                · obtain ⟨y, e1⟩ := q
                  simp only [Prod.mk.injEq] at h
                  obtain ⟨rfl, rfl, rfl⟩ := h
                  exact .inr (.inr ⟨0, by simp, by simp [hE], fun o ho => g5 o (by rw [← hadd j]; exact ho)⟩)
                · exact .inr (.inl ⟨b, h, fun o ho => g5 o (by rw [← hadd j]; exact ho)⟩)
            · refine .inr (.inr ⟨j' + 1, by simp; omega, ?_, fun o ho => ?_⟩)
              · simp only [if_neg (hne j')]; rw [hadd j']; exact g5
              · rw [hadd j']; exact g6 o (by rw [← hadd j]; exact ho)
      · have cross : ∀ j x e f e' f', j < rest.length → F0 = some (x, e, f) → F' (k + 1 + j) = some (x, e', f') → False := fun j x e f e' f' hj h1 h2 => by
          obtain ⟨_, g3, _⟩ := i8 j x e' f' hj h2
          rw [h1] at g3
          simp only [consF] at g3
          rw [look_cons, if_pos rfl] at g3; cases g3
        intro i j x e f e' f' hi hj h1 h2
        cases i with
        | zero =>
          simp only [Nat.add_zero, if_true] at h1
          cases j with
          | zero => rfl
          | succ j =>
            simp only [if_neg (hne j)] at h2; rw [hadd j] at h2
            exact (cross j x e f e' f' (by simpa using hj) h1 h2).elim
        | succ i =>
          simp only [if_neg (hne i)] at h1; rw [hadd i] at h1
          cases j with
          | zero =>
            simp only [Nat.add_zero, if_true] at h2
            exact (cross i x e' f' e f (by simpa using hi) h2 h1).elim
          | succ j =>
            simp only [if_neg (hne j)] at h2; rw [hadd j] at h2
            rw [i9 i j x e f e' f' (by simpa using hi) (by simpa using hj) h1 h2]
      · intro q hq j hj
        cases j with
        | zero =>
          simp only [Nat.add_zero, if_true]
          obtain ⟨g1, g2, g3⟩ := hbs q hq
          refine ⟨fun x hx => g1 x (by rw [← hdk]; exact hx), g2, fun x e f hF => ?_⟩
          rcases g3 x e f hF with h | h
          · exact .inl fun o ho => by rw [hk] at ho; cases ho; exact h
          · exact .inr h
        | succ j =>
          simp only [if_neg (hne j)]; rw [hadd j]
          exact i10 q (memB q hq) j (by simpa using hj)
    rcases h with ⟨V0, h1, h2, h3, h4⟩ | ⟨id0, V0, e0, hd, hg, hnj, hN, hf, hb, h4⟩ | ⟨x0, e0, f0, hs, g1, g2, g3, g4, h4⟩
    · exact key V0 none none (.inl ⟨rfl, rfl, h1⟩) h2 h4 (fun id e h => by cases h) (fun x e f h => by cases h) fun q hq => ⟨fun x _ => h3 q hq, fun id e h => (by cases h), fun x e f h => (by cases h)⟩
    · refine key V0 (some (id0, e0)) none (.inr (.inl ⟨id0, e0, rfl, rfl, hg, hnj⟩)) (by rw [hd]; exact hN) (by rw [hd]; exact h4) (fun id e h => by cases h; exact hf) (fun x e f h => by cases h) fun q hq => ⟨fun x _ => (hb q hq).2, fun id e h => ?_, fun x e f h => by cases h⟩
      cases h
      have := fresh_mem (fresh_app (fresh_app hf).2).1 (p := q.2) (List.mem_map.2 ⟨q, hq, rfl⟩)
      exact ⟨fun e => this.1 e.symm, (hb q hq).1⟩
    · have hd0 := hs.2.1
      exact key .junk none (some (x0, e0, f0)) (.inr (.inr ⟨x0, e0, f0, rfl, rfl, hs⟩)) (by rw [hd0]; rfl) (by rw [hd0]; exact h4) (fun id e h => by cases h) (fun x e f h => by cases h; exact ⟨rfl, g1, g2, g3⟩) fun q hq => ⟨fun x hx => (by rw [hd0] at hx; cases hx), fun id e h => (by cases h), fun x e f h => (by cases h; exact g4 q hq)⟩
theorem CT.wk {X : Cx} {all : Array Oper} {σ0 σ : Sg} {Q : T → Sg → Prop} : ∀ (rest : List Oper) (k : Nat) (t t' : T) (bs : Bs) (ss : Sg), Wk t' t → (∀ p, p ∈ t → p ∈ t') → CT X all σ0 σ Q rest k t' bs ss → CT X all σ0 σ Q rest k t bs ss
  | [], k, t, t', bs, ss, hw, _, ⟨t'', h1, h2⟩ => ⟨t'', h1.trans hw, h2⟩
  | o :: rest, k, t, t', bs, ss, hw, hm, h => by
    rcases h with ⟨V, h1, h2, h3, h4⟩ | ⟨id, V, e, hd, hg, hn, hN, hf, hb, h4⟩ | ⟨x, e, f, hs, g1, g2, g3, g4, h4⟩
    · refine .inl ⟨V, h1.wk hw, h2, h3, CT.wk rest _ _ _ bs ss hw.put (fun p hp => ?_) h4⟩
      cases ho : o.dst with
      | none => rw [ho] at hp; exact hm p hp
      | some d =>
        rw [ho] at hp
        rcases List.mem_cons.1 hp with h | h
        · exact List.mem_cons.2 (.inl h)
        · exact List.mem_cons.2 (.inr (hm p h))
    · refine .inr (.inl ⟨id, V, e, hd, hg, hn.wk hw, hN, isFresh_wkT hf hm, hb, CT.wk rest _ _ _ _ ss (fun i a hi => ?_) (fun p hp => ?_) h4⟩)
      · rw [look_cons] at hi ⊢
        split
        · next e => rw [if_pos e] at hi; exact hi
        · next e => rw [if_neg e] at hi; exact hw i a hi
      · rcases List.mem_cons.1 hp with h | h
        · exact List.mem_cons.2 (.inl h)
        · exact List.mem_cons.2 (.inr (hm p h))
    · exact .inr (.inr ⟨x, e, f, hs.wk hw, g1, g2, g3, g4, CT.wk rest _ _ _ bs _ hw hm h4⟩)
end Go.Gv
end
section
open Go Go.Gv
attribute [local irreducible] Go.Gv.WJ Go.Gv.OpJ Go.Gv.QJ Go.Gv.Spl Go.Gv.Req Go.Gv.IdxP Go.Gv.RegP Go.Gv.FinP Go.Gv.CellP Go.Gv.CellsP Go.Gv.ArrP Go.Gv.ArrsP Go.Gv.DropP Go.Gv.ByteP Go.Gv.StoreP
set_option maxRecDepth 100000
namespace Go.Proofs.E
attribute [local irreducible] elems
theorem aw11_a : curAt (rowE pA2.1.l) 1 = (⟨2, 1⟩, 0) := by decide +kernel
theorem aw11_o : pA2.2.1.i = ⟨2, 1⟩ := by decide +kernel
theorem aw11_r : resC (rowE pA3.1.l) ⟨2, 1⟩ = (0, 0) := by decide +kernel
theorem okP2 : okV pA2.1 := (okA1.ins 1 1 98).1
theorem Awake11_c : Cv 124 [] (bv true) := by
  have h1 := InsN_c 1 0 97
  have h2 := VInsert_c okA1.is vA1.R (by have := okA1.len; omega) okA1.ck 1 1 98
  have h3 := VDelete_c okA2.is vA2.R (by have := okA2.len; omega) 0
  have ha := CAt_c okP2.is pA2.1.R 1
  have hr := CResolve_c okA3.is pA3.1.R ⟨2, 1⟩
  rw [aw11_a] at ha
  rw [aw11_r] at hr
  have e1 : insVT vA0 1 0 97 = pA1 := rfl
  have e2 : insVT ⟨vA1.s, vA1.l, vA1.R, []⟩ 1 1 98 = pA2 := rfl
  have e3 : delVT ⟨vA2.s, vA2.l, vA2.R, []⟩ 0 = pA3 := rfl
  rw [e1] at h1
  rw [e2] at h2
  rw [e3] at h3
  have d1 : vA1 = ⟨pA1.1.s, pA1.1.l, pA1.1.R, []⟩ := rfl
  have d2 : vA2 = ⟨pA2.1.s, pA2.1.l, pA2.1.R, []⟩ := rfl
  rw [d1] at h2
  rw [d2] at h3
  have ho := aw11_o
  generalize pA3 = p3 at h3 hr
  generalize pA2 = p2 at h2 h3 ha ho
  generalize pA1 = p1 at h1 h2
  obtain ⟨v3, o3, e3'⟩ := p3
  obtain ⟨v2, ⟨ok, oi, oa, och⟩, e2'⟩ := p2
  obtain ⟨v1, o1, e1'⟩ := p1
  unfold resT at h1 h2 h3
  simp only at h1 h2 h3 ha hr ho
  subst ho
  refine Ct.of_wv Tryz.f124 Tryz.func124 rfl rfl fun w H B g0 => ?_
  (try refine WJ.cut ?_)
  (first | refine Sq.go ?_ | refine vL_nil (Sq.go ?_) | skip)
  (try refine WJ.cut ?_)
  refine OpJ.callV h1 (fun _ _ => rfl) rfl rfl rfl ?_
  (repeat (first | refine Spl.t rfl ?_ | refine Spl.f rfl ?_))
  (first | refine Sq.go ?_ | refine vL_nil (Sq.go ?_) | skip)
  (try refine WJ.cut ?_)
  refine OpJ.callV h2 (fun _ _ => rfl) rfl rfl rfl ?_
  (repeat (first | refine Spl.t rfl ?_ | refine Spl.f rfl ?_))
  (first | refine Sq.go ?_ | refine vL_nil (Sq.go ?_) | skip)
  (try refine WJ.cut ?_)
  refine OpJ.callV ha (fun _ _ => rfl) rfl rfl rfl ?_
  (repeat (first | refine Spl.t rfl ?_ | refine Spl.f rfl ?_))
  (first | refine Sq.go ?_ | refine vL_nil (Sq.go ?_) | skip)
  (try refine WJ.cut ?_)
  refine OpJ.callV h3 (fun _ _ => rfl) rfl rfl rfl ?_
  (repeat (first | refine Spl.t rfl ?_ | refine Spl.f rfl ?_))
  (first | refine Sq.go ?_ | refine vL_nil (Sq.go ?_) | skip)
  (try refine WJ.cut ?_)
  refine OpJ.callV hr (fun _ _ => rfl) rfl rfl rfl ?_
  (repeat (first | refine Spl.t rfl ?_ | refine Spl.f rfl ?_))
  (first | refine Sq.go ?_ | refine vL_nil (Sq.go ?_) | skip)
  (try refine vc_sound _ _ _ _ ?_)
  refine OpJ.callV Awake8_c (fun _ _ => rfl) rfl rfl rfl ?_
  (repeat (first | refine Spl.t rfl ?_ | refine Spl.f rfl ?_))
  refine OpJ.qu (O.eqT 3 rfl rfl rfl rfl rfl eqI_ok eqI_g (eqI ⟨2, 1⟩ ⟨2, 1⟩)) rfl ?_
  exact FinP.open rfl (congrArg bv (by simp))
end Go.Proofs.E
end
section
namespace Go.Gv
open Go.RowKit
end Go.Gv
end
section
namespace Go.Gv
open Go.RowKit
theorem QJ.callT {X : Cx} {d : Option Nat} {ty : TypeId} {pos : String} {aft : Array Edge} {g : Option (Nat × Bool)} {t : T} {σ : Sg} {f : FuncId} {x : Operand} {av : AV} {args : Array Operand} {tys : Array TypeId} {avs caps : List AV} {r : AV}
    (hx : ge t x = some av) (hf : FnIs av f caps) (hc : Ct X.Λ X.P f (avs ++ caps) [] (fun q _ => q = r)) (hok : callOk X.P f)
    (ha : geAll t args.toList = some avs) (ho : r.open = true) : QJ X ⟨d, .call { callee := .value x, args := args, argTypes := tys }, ty, pos, aft, g⟩ t σ r := by
  intro γ H a w hl so sm next Q' hk
  have hso : ∀ y, y ∈ args.toList → ∀ v, ge t y = some v → Rep γ H v (a.eval y) := fun y hy => so y (by simp [Op.operands, Call.operands] at hy ⊢; exact .inr hy)
  have hsx : Rep γ H av (a.eval x) := so x (by simp [Op.operands, Call.operands]) _ hx
  obtain ⟨us, hu, hul, hur⟩ := hf.rep hsx
  rw [semAt_of (by simp), call_runT hu hok, Oper.uponIn_enter]
  refine ⟨fun h => by simp [Fr] at h, ?_⟩
  have he : blks γ [] = fun _ => False := by
    funext b; simp [blks, look]
  have hal : (args.map a.eval).toList.length = avs.length := by have := congrArg List.length (geAll_map ha); simpa using this
  have := hc X.ro γ H w ((args.map a.eval).toList ++ us) (hl.keep sm.keep (by rw [he]; exact fun b h => h.elim)) (by rw [he]; exact sm.refl γ) (by simp only [List.length_append, hal, hul]) (reps_app hal (by
    have := ge_list hso (geAll_map ha)
    simpa using this) hur)
  rw [show ((args.map a.eval).toList ++ us).toArray = args.map a.eval ++ us.toArray from Array.toList_inj.1 (by simp)] at this
  refine this.mono ?_
  rintro e w' ⟨v, r', σ', γ', H', rfl, rfl, hr, _, _, hm⟩
  rw [he] at hm
  exact hk v γ' σ' H' w' hm (hr.free ho)
end Go.Gv
end
section
open Go Go.Gv
attribute [local irreducible] Go.Gv.WJ Go.Gv.OpJ Go.Gv.QJ Go.Gv.Spl Go.Gv.Req Go.Gv.IdxP Go.Gv.RegP Go.Gv.FinP Go.Gv.CellP Go.Gv.CellsP Go.Gv.ArrP Go.Gv.ArrsP Go.Gv.DropP Go.Gv.ByteP Go.Gv.StoreP
set_option maxRecDepth 100000
namespace Go.Proofs.E
attribute [local irreducible] elems
structure CALL where
  k : Int
  at_ : Int
  ch : Int
  o : OP
  a : ID
structure RS where
  e : Int
  n : Int
  t : List UInt8
  deriving DecidableEq
abbrev callD (c : CALL) : List D := [.v (.int .i64 c.k), .v (.int .i64 c.at_), .v (.int .i32 c.ch), .v (.int .i64 c.o.k), .v (.int .i64 c.o.i.c), .v (.int .i64 c.o.i.s), .v (.int .i64 c.o.a.c), .v (.int .i64 c.o.a.s), .v (.int .i32 c.o.ch), .v (.int .i64 c.a.c), .v (.int .i64 c.a.s)]
abbrev callv (c : CALL) : AV := .agg [iv c.k, iv c.at_, cv' c.ch, iv c.o.k, iv c.o.i.c, iv c.o.i.s, iv c.o.a.c, iv c.o.a.s, cv' c.o.ch, iv c.a.c, iv c.a.s]
abbrev rsv (x : RS) : AV := .agg [iv x.e, iv x.n, sv x.t]
abbrev rcs (site : Int) (s : SS) (l R : List OP) (cl : Bool) : List AV := [iv site, .d s.t.d, .d s.p.d, iv s.n, .d (.sl 6 (R.map opD)), iv (l.length : Nat), iv (sumV l).n, cx (sumV l).a (sumV l).b, cx (sumV l).c (sumV l).d, bv cl]
abbrev rpv (site : Int) (s : SS) (l R : List OP) (cl : Bool) : AV := .agg (rcs site s l R cl)
def cxD (a b : Int) : D := match cx a b with
  | .d x => x
  | _ => .v undef
abbrev rpD (site : Int) (s : SS) (l R : List OP) (cl : Bool) : List D := [.v (.int .i64 site), s.t.d, s.p.d, .v (.int .i64 s.n), .sl 6 (R.map opD), .v (.int .i64 (l.length : Nat)), .v (.int .i64 (sumV l).n), cxD (sumV l).a (sumV l).b, cxD (sumV l).c (sumV l).d, .v (.bool cl)]
def lookC (l : List OP) (c : CALL) : RS :=
  if c.k = 3 then ⟨0, 0, byt (txtZ (rowE l))⟩
  else if c.k = 4 then ⟨0, liveL (rowE l), []⟩
  else if c.k = 5 then (if (curAt (rowE l) c.at_).2 ≠ 0 then ⟨(curAt (rowE l) c.at_).2, 0, []⟩ else ⟨0, 0, textI (curAt (rowE l) c.at_).1⟩)
  else if c.k = 6 then ⟨(resC (rowE l) c.a).2, (resC (rowE l) c.a).1, []⟩
  else ⟨0, l.length, textT (sumV l)⟩
theorem L1_c {s : SS} {l : List OP} (h : isS s l) (site : Int) (R : List OP) (cl : Bool) : Cv 209 [.d (.ptr (rpD site s l R cl))] (rsv ⟨0, 0, byt (txtZ (rowE l))⟩) := by
  have ht := VText_c h R
  refine Ct.of_vc Tryz.f209 Tryz.func209 rfl rfl fun w H B g0 => ?_
  refine OpJ.callV ht (fun _ _ => rfl) rfl rfl rfl ?_
  (repeat (first | refine Spl.t rfl ?_ | refine Spl.f rfl ?_))
  exact FinP.open rfl rfl
theorem L2_c {s : SS} {l : List OP} (h : isS s l) (site : Int) (R : List OP) (cl : Bool) : Cv 210 [.d (.ptr (rpD site s l R cl))] (rsv ⟨0, liveL (rowE l), []⟩) := by
  have ht := VLen_c h R
  refine Ct.of_vc Tryz.f210 Tryz.func210 rfl rfl fun w H B g0 => ?_
  refine OpJ.callV ht (fun _ _ => rfl) rfl rfl rfl ?_
  (repeat (first | refine Spl.t rfl ?_ | refine Spl.f rfl ?_))
  exact FinP.open rfl rfl
theorem L3_c {s : SS} {l : List OP} (h : isS s l) (site : Int) (R : List OP) (cl : Bool) (c : CALL) : Cv 211 [.d (.ptr (rpD site s l R cl)), .d (.ptr (callD c))] (rsv (if (curAt (rowE l) c.at_).2 ≠ 0 then ⟨(curAt (rowE l) c.at_).2, 0, []⟩ else ⟨0, 0, textI (curAt (rowE l) c.at_).1⟩)) := by
  have ht := CAt_c h R c.at_
  generalize curAt (rowE l) c.at_ = p at ht ⊢
  obtain ⟨a, e⟩ := p
  simp only at ht ⊢
  have hs := String_c a
  refine Ct.of_vc Tryz.f211 Tryz.func211 rfl rfl fun w H B g0 => ?_
  refine OpJ.callV ht (fun _ _ => rfl) rfl rfl rfl ?_
  (repeat (first | refine Spl.t rfl ?_ | refine Spl.f rfl ?_))
  refine Spl.of (fun h1 => ?_) (fun h1 => ?_)
  · have h1 : e ≠ 0 := by simpa using h1
    rw [if_pos h1]
    (repeat (first | refine Spl.t rfl ?_ | refine Spl.f rfl ?_))
    exact FinP.open rfl rfl
  · have h1 : ¬ e ≠ 0 := by simpa using h1
    rw [if_neg h1]
    (repeat (first | refine Spl.t rfl ?_ | refine Spl.f rfl ?_))
    refine OpJ.callV hs (fun _ _ => rfl) rfl rfl rfl ?_
    (repeat (first | refine Spl.t rfl ?_ | refine Spl.f rfl ?_))
    exact FinP.open rfl rfl
theorem L4_c {s : SS} {l : List OP} (h : isS s l) (site : Int) (R : List OP) (cl : Bool) (c : CALL) : Cv 213 [.d (.ptr (callD c)), .d (.ptr (rpD site s l R cl))] (rsv ⟨(resC (rowE l) c.a).2, (resC (rowE l) c.a).1, []⟩) := by
  have ht := CResolve_c h R c.a
  refine Ct.of_vc Tryz.f213 Tryz.func213 rfl rfl fun w H B g0 => ?_
  refine OpJ.callV ht (fun _ _ => rfl) rfl rfl rfl ?_
  (repeat (first | refine Spl.t rfl ?_ | refine Spl.f rfl ?_))
  exact FinP.open rfl rfl
theorem L5_c {s : SS} {l : List OP} (h : isS s l) (site : Int) (R : List OP) (cl : Bool) : Cv 214 [.d (.ptr (rpD site s l R cl))] (rsv ⟨0, l.length, textT (sumV l)⟩) := by
  have hq := VSeq_c s l R
  have ht := VTally_c s l R
  have hs := StringT_c (sumV l) (sum_ok h.dn)
  refine Ct.of_vc Tryz.f214 Tryz.func214 rfl rfl fun w H B g0 => ?_
  refine RegP.mixS 8 [] rfl (by decide +kernel) ?_
  refine QuietP.of (QJ.call hq (fun _ _ => rfl) rfl rfl) ?_
  refine QuietP.of (QJ.call ht (fun _ _ => rfl) rfl rfl) ?_
  refine QuietP.of (QJ.call hs (fun _ _ => rfl) rfl rfl) ?_
  (repeat (first | refine Spl.t rfl ?_ | refine Spl.f rfl ?_))
  exact FinP.open rfl rfl
def looksD (r c : List D) : D := .mp false [.int .i64 3, .int .i64 4, .int .i64 5, .int .i64 6, .int .i64 7] [[.fn 209 [.ptr r]], [.fn 210 [.ptr r]], [.fn 211 [.ptr r, .ptr c]], [.fn 213 [.ptr c, .ptr r]], [.fn 214 [.ptr r]]]
theorem keyNo_of {key : Value} {ks : List Value} (h : ks.all (fun x => match cmpK key x with | some false => true | _ => false) = true) : KeyNo key ks := fun i x hx => by
  have := List.all_eq_true.1 h x (List.mem_of_getElem? hx)
  split at this
  · assumption
  · cases this
theorem PutP.new {key : Value} {ks : List Value} {vs : List (List D)} {ds : List D} {K : List Value → List (List D) → Prop} (h : ks.all (fun x => match cmpK key x with | some false => true | _ => false) = true) (k : K (ks ++ [key]) (vs ++ [ds])) : PutP key ks vs ds K := .inr ⟨keyNo_of h, k⟩
attribute [local irreducible] PutP LookP
theorem looks_c (site : Int) (s : SS) (l R : List OP) (cl : Bool) (c : CALL) : Cv 169 [rpv site s l R cl, callv c] (.d (looksD (rpD site s l R cl) (callD c))) := by
  refine Ct.of_wv Tryz.f169 Tryz.func169 rfl rfl fun w H B g0 => ?_
  (try refine WJ.cut ?_)
  (first | refine Sq.go ?_ | refine vL_nil (Sq.go ?_) | skip)
  refine WJ.shift (SJ.pub 2 rfl rfl) ?_
  refine WJ.shift (SJ.pub 3 rfl rfl) ?_
  (try refine vc_sound _ _ _ _ ?_)
  (repeat (first | refine Spl.t rfl ?_ | refine Spl.f rfl ?_))
  refine PutP.new ?_ ?_
  · rfl
  (repeat (first | refine Spl.t rfl ?_ | refine Spl.f rfl ?_))
  refine PutP.new ?_ ?_
  · rfl
  (repeat (first | refine Spl.t rfl ?_ | refine Spl.f rfl ?_))
  refine PutP.new ?_ ?_
  · rfl
  (repeat (first | refine Spl.t rfl ?_ | refine Spl.f rfl ?_))
  refine PutP.new ?_ ?_
  · rfl
  (repeat (first | refine Spl.t rfl ?_ | refine Spl.f rfl ?_))
  refine PutP.new ?_ ?_
  · rfl
  (repeat (first | refine Spl.t rfl ?_ | refine Spl.f rfl ?_))
  exact FinP.pub 5 rfl rfl (FinP.open rfl rfl)
end Go.Proofs.E
end
section
open Go Go.Gv
attribute [local irreducible] Go.Gv.WJ Go.Gv.OpJ Go.Gv.QJ Go.Gv.Spl Go.Gv.Req Go.Gv.IdxP Go.Gv.RegP Go.Gv.FinP Go.Gv.CellP Go.Gv.CellsP Go.Gv.ArrP Go.Gv.ArrsP Go.Gv.DropP Go.Gv.ByteP Go.Gv.StoreP
set_option maxRecDepth 100000
namespace Go.Proofs.E
attribute [local irreducible] elems
def wrI (v0 : VS) (p : VS × OP × Int) : VS × RS := if p.2.2 ≠ 0 then (v0.same, ⟨p.2.2, 0, []⟩) else (p.1, ⟨0, p.1.l.length, textO p.2.1⟩)
def wrR (site : Int) (v : VS) (c : CALL) : VS × RS :=
  if c.k = 0 then wrI v (insVT v site c.at_ c.ch)
  else if c.k = 1 then wrI v (delVT v c.at_)
  else if remE v c.o ≠ 0 then (v.same, ⟨remE v c.o, 0, []⟩) else (remV v c.o, ⟨0, (remV v c.o).out.length, []⟩)
abbrev chgv (site : Int) (v : VS) (cl : Bool) (x : RS) : AV := .tup [rpv site v.s v.l v.R cl, rsv x, .d (chs v.out)]
theorem write_c {s : SS} {l R : List OP} (h : okV ⟨s, l, R, []⟩) (site : Int) (cl : Bool) (c : CALL) (hk : 0 ≤ c.k ∧ c.k ≤ 2) :
    Cv 168 [rpv site s l R cl, callv c] (chgv site (wrR site ⟨s, l, R, []⟩ c).1 cl (wrR site ⟨s, l, R, []⟩ c).2) := by
  have hR := h.len
  simp only at hR
  have his := h.is
  simp only at his
  refine Ct.of_wv Tryz.f168 Tryz.func168 rfl rfl fun w H B g0 => ?_
  (try refine WJ.cut ?_)
  (first | refine Sq.go ?_ | refine vL_nil (Sq.go ?_) | skip)
  (try refine WJ.cut ?_)
  (first | refine Sq.go ?_ | refine vL_nil (Sq.go ?_) | skip)
  (try refine WJ.cut ?_)
  (first | refine Sq.go ?_ | refine vL_nil (Sq.go ?_) | skip)
  (try refine WJ.cut ?_)
  (first | refine Sq.go ?_ | refine vL_nil (Sq.go ?_) | skip)
  (try refine WJ.cut ?_)
  (first | refine Sq.go ?_ | refine vL_nil (Sq.go ?_) | skip)
  (try refine WJ.cut ?_)
  (first | refine Sq.go ?_ | refine vL_nil (Sq.go ?_) | skip)
  (try refine WJ.cut ?_)
  by_cases c0 : c.k = 0
  · have eD : wrR site ⟨s, l, R, []⟩ c = wrI ⟨s, l, R, []⟩ (insVT ⟨s, l, R, []⟩ site c.at_ c.ch) := if_pos c0
    have hp := VInsert_c his R (by omega) h.ck site c.at_ c.ch
    rw [eD]
    generalize insVT ⟨s, l, R, []⟩ site c.at_ c.ch = p at hp ⊢
    obtain ⟨v, o, e⟩ := p
    unfold resT at hp
    unfold wrI
    simp only at hp ⊢
    have hq := VSeq_c v.s v.l v.R
    have hs := String5_c o
    refine Spl.t (decide_eq_true c0) ?_
    (repeat (first | refine Spl.t rfl ?_ | refine Spl.f rfl ?_))
    refine OpJ.callV hp (fun _ _ => rfl) rfl rfl rfl ?_
    (repeat (first | refine Spl.t rfl ?_ | refine Spl.f rfl ?_))
    (first | refine Sq.go ?_ | refine vL_nil (Sq.go ?_) | skip)
    (try refine WJ.cut ?_)
    refine Spl.of (fun h1 => ?_) (fun h1 => ?_)
    · have h1 : e ≠ 0 := by simpa using h1
      rw [if_pos h1]
      (repeat (first | refine Spl.t rfl ?_ | refine Spl.f rfl ?_))
      refine .out (by simp) ?_
      refine FinP.viewTup 2 rfl (fun _ _ _ h => nil_sl 6 h) ?_
      exact FinP.open rfl rfl
    · have h1 : ¬ e ≠ 0 := by simpa using h1
      rw [if_neg h1]
      (repeat (first | refine Spl.t rfl ?_ | refine Spl.f rfl ?_))
      (first | refine Sq.go ?_ | refine vL_nil (Sq.go ?_) | skip)
      (try refine WJ.cut ?_)
      (first | refine Sq.go ?_ | refine vL_nil (Sq.go ?_) | skip)
      (try refine WJ.cut ?_)
      refine Spl.f (decide_eq_false (by omega)) ?_
      (repeat (first | refine Spl.t rfl ?_ | refine Spl.f rfl ?_))
      (first | refine Sq.go ?_ | refine vL_nil (Sq.go ?_) | skip)
      (try refine vc_sound _ _ _ _ ?_)
      refine RegP.mixS 10 [4, 5] rfl (by decide +kernel) ?_
      refine QuietP.of (QJ.call hq (fun _ _ => rfl) rfl rfl) ?_
      refine QuietP.of (QJ.call hs (fun _ _ => rfl) rfl rfl) ?_
      (repeat (first | refine Spl.t rfl ?_ | refine Spl.f rfl ?_))
      exact FinP.open rfl rfl
  · refine Spl.f (decide_eq_false c0) ?_
    (repeat (first | refine Spl.t rfl ?_ | refine Spl.f rfl ?_))
    by_cases c1 : c.k = 1
    · have eD : wrR site ⟨s, l, R, []⟩ c = wrI ⟨s, l, R, []⟩ (delVT ⟨s, l, R, []⟩ c.at_) := (if_neg c0).trans (if_pos c1)
      have hp := VDelete_c his R (by omega) c.at_
      rw [eD]
      generalize delVT ⟨s, l, R, []⟩ c.at_ = p at hp ⊢
      obtain ⟨v, o, e⟩ := p
      unfold resT at hp
      unfold wrI
      simp only at hp ⊢
      have hq := VSeq_c v.s v.l v.R
      have hs := String5_c o
      refine Spl.t (decide_eq_true c1) ?_
      (repeat (first | refine Spl.t rfl ?_ | refine Spl.f rfl ?_))
      refine OpJ.callV hp (fun _ _ => rfl) rfl rfl rfl ?_
      (repeat (first | refine Spl.t rfl ?_ | refine Spl.f rfl ?_))
      (first | refine Sq.go ?_ | refine vL_nil (Sq.go ?_) | skip)
      (try refine WJ.cut ?_)
      refine Spl.of (fun h1 => ?_) (fun h1 => ?_)
      · have h1 : e ≠ 0 := by simpa using h1
        rw [if_pos h1]
        (repeat (first | refine Spl.t rfl ?_ | refine Spl.f rfl ?_))
        refine .out (by simp) ?_
        refine FinP.viewTup 2 rfl (fun _ _ _ h => nil_sl 6 h) ?_
        exact FinP.open rfl rfl
      · have h1 : ¬ e ≠ 0 := by simpa using h1
        rw [if_neg h1]
        (repeat (first | refine Spl.t rfl ?_ | refine Spl.f rfl ?_))
        (first | refine Sq.go ?_ | refine vL_nil (Sq.go ?_) | skip)
        (try refine WJ.cut ?_)
        (first | refine Sq.go ?_ | refine vL_nil (Sq.go ?_) | skip)
        (try refine WJ.cut ?_)
        refine Spl.f (decide_eq_false (by omega)) ?_
        (repeat (first | refine Spl.t rfl ?_ | refine Spl.f rfl ?_))
        (first | refine Sq.go ?_ | refine vL_nil (Sq.go ?_) | skip)
        (try refine vc_sound _ _ _ _ ?_)
        refine RegP.mixS 10 [4, 5] rfl (by decide +kernel) ?_
        refine QuietP.of (QJ.call hq (fun _ _ => rfl) rfl rfl) ?_
        refine QuietP.of (QJ.call hs (fun _ _ => rfl) rfl rfl) ?_
        (repeat (first | refine Spl.t rfl ?_ | refine Spl.f rfl ?_))
        exact FinP.open rfl rfl
    · refine Spl.f (decide_eq_false c1) ?_
      (repeat (first | refine Spl.t rfl ?_ | refine Spl.f rfl ?_))
      have eD : wrR site ⟨s, l, R, []⟩ c = if remE ⟨s, l, R, []⟩ c.o ≠ 0 then (⟨s, l, R, []⟩, ⟨remE ⟨s, l, R, []⟩ c.o, 0, []⟩) else (remV ⟨s, l, R, []⟩ c.o, ⟨0, (remV ⟨s, l, R, []⟩ c.o).out.length, []⟩) := (if_neg c0).trans (if_neg c1)
      have hp := Remote_c his R [] c.o (by omega)
      rw [eD]
      generalize remE ⟨s, l, R, []⟩ c.o = e at hp ⊢
      generalize remV ⟨s, l, R, []⟩ c.o = v at hp ⊢
      obtain ⟨vs1, vl, vR, vo⟩ := v
      simp only at hp ⊢
      have hlo : (vo.map chD).length = vo.length := List.length_map ..
      refine OpJ.callV hp (fun _ _ => rfl) rfl rfl rfl ?_
      (repeat (first | refine Spl.t rfl ?_ | refine Spl.f rfl ?_))
      (first | refine Sq.go ?_ | refine vL_nil (Sq.go ?_) | skip)
      (try refine WJ.cut ?_)
      refine Spl.of (fun h1 => ?_) (fun h1 => ?_)
      · have h1 : e ≠ 0 := by simpa using h1
        rw [if_pos h1]
        (repeat (first | refine Spl.t rfl ?_ | refine Spl.f rfl ?_))
        refine .out (by simp) ?_
        refine FinP.viewTup 2 rfl (fun _ _ _ h => nil_sl 6 h) ?_
        exact FinP.open rfl rfl
      · have h1 : ¬ e ≠ 0 := by simpa using h1
        rw [if_neg h1]
        (repeat (first | refine Spl.t rfl ?_ | refine Spl.f rfl ?_))
        (first | refine Sq.go ?_ | refine vL_nil (Sq.go ?_) | skip)
        (try refine WJ.cut ?_)
        (first | refine Sq.go ?_ | refine vL_nil (Sq.go ?_) | skip)
        (try refine WJ.cut ?_)
        refine Spl.t (decide_eq_true (by omega)) ?_
        (repeat (first | refine Spl.t rfl ?_ | refine Spl.f rfl ?_))
        refine .out (by simp) ?_
        rw [hlo]
        exact FinP.open rfl rfl
theorem Writes_c (k : Int) : Cv 32 [iv k] (bv (decide (0 ≤ k ∧ k ≤ 2))) := by
  refine Ct.of_vc Tryz.f32 Tryz.func32 rfl rfl fun w H B g0 => ?_
  (repeat' (first | refine Spl.t rfl ?_ | refine Spl.f rfl ?_ | refine Spl.of (fun h => ?_) (fun h => ?_)))
  all_goals refine FinP.open rfl (congrArg bv ?_)
  all_goals simp_all
  all_goals omega
theorem RClosed_c (site : Int) (s : SS) (l R : List OP) (cl : Bool) : Cv 167 [rpv site s l R cl] (bv (cl || decide (site = 0))) := by
  cases cl
  all_goals refine Ct.of_vc Tryz.f167 Tryz.func167 rfl rfl fun w H B g0 => ?_
  all_goals (repeat' (first | refine Spl.t rfl ?_ | refine Spl.f rfl ?_ | refine Spl.of (fun h => ?_) (fun h => ?_)))
  all_goals refine FinP.open rfl (congrArg bv ?_)
  all_goals simp_all
end Go.Proofs.E
end
section
open Go Go.Gv
attribute [local irreducible] Go.Gv.WJ Go.Gv.OpJ Go.Gv.QJ Go.Gv.Spl Go.Gv.Req Go.Gv.IdxP Go.Gv.RegP Go.Gv.FinP Go.Gv.CellP Go.Gv.CellsP Go.Gv.ArrP Go.Gv.ArrsP Go.Gv.DropP Go.Gv.ByteP Go.Gv.StoreP
set_option maxRecDepth 100000
namespace Go.Proofs.E
attribute [local irreducible] elems
def chgR (site : Int) (v : VS) (cl : Bool) (c : CALL) : VS × Bool × RS :=
  if c.k < 0 ∨ c.k > 8 then (v.same, cl, ⟨1, 0, []⟩)
  else if (cl || decide (site = 0)) = true then (v.same, cl, ⟨9, 0, []⟩)
  else if c.k = 8 then (v.same, true, ⟨0, 0, []⟩)
  else if c.k ≤ 2 then ((wrR site v c).1, cl, (wrR site v c).2)
  else (v.same, cl, lookC v.l c)
theorem LookP.at_ {key : Value} {ks : List Value} {vs : List (List D)} {A : List D → Prop} {B : Prop} (j : Nat) {cs : List D} (h : ((match ks[j]? with | some x => (match cmpK key x with | some true => true | _ => false) | none => false) && (ks.take j).all (fun x => match cmpK key x with | some false => true | _ => false)) = true) (hv : vs[j]? = some cs) (k : A cs) : LookP key ks vs A B := by
  obtain ⟨h1, h2⟩ := Bool.and_eq_true_iff.1 h
  refine .inl ⟨j, cs, ⟨?_, fun i x hi hx => keyNo_of h2 i x (by rw [List.getElem?_take, if_pos hi]; exact hx)⟩, hv, k⟩
  split at h1
  · next x hx =>
    split at h1
    · exact ⟨x, hx, by assumption⟩
    · cases h1
  · cases h1
attribute [local irreducible] PutP LookP
theorem Changes12_c {s : SS} {l R : List OP} (h : okV ⟨s, l, R, []⟩) (site : Int) (cl : Bool) (c : CALL) :
    Cv 133 [rpv site s l R cl, callv c] (chgv site (chgR site ⟨s, l, R, []⟩ cl c).1 (chgR site ⟨s, l, R, []⟩ cl c).2.1 (chgR site ⟨s, l, R, []⟩ cl c).2.2) := by
  have his := h.is
  simp only at his
  have hcl := RClosed_c site s l R cl
  have hwr := Writes_c c.k
  by_cases c1 : c.k < 0 ∨ c.k > 8
  · have eD : chgR site ⟨s, l, R, []⟩ cl c = (⟨s, l, R, []⟩, cl, ⟨1, 0, []⟩) := if_pos c1
    rw [eD]
    refine Ct.of_vc Tryz.f133 Tryz.func133 rfl rfl fun w H B g0 => ?_
    refine Spl.of (fun h1 => ?_) (fun h1 => ?_)
    · (repeat (first | refine Spl.t rfl ?_ | refine Spl.f rfl ?_))
      refine FinP.viewTup 2 rfl (fun _ _ _ h => nil_sl 6 h) ?_
      exact FinP.open rfl rfl
    · (repeat (first | refine Spl.t rfl ?_ | refine Spl.f rfl ?_))
      refine Spl.t (decide_eq_true (by have := of_decide_eq_false h1; omega)) ?_
      (repeat (first | refine Spl.t rfl ?_ | refine Spl.f rfl ?_))
      refine FinP.viewTup 2 rfl (fun _ _ _ h => nil_sl 6 h) ?_
      exact FinP.open rfl rfl
  by_cases c2 : (cl || decide (site = 0)) = true
  · have eD : chgR site ⟨s, l, R, []⟩ cl c = (⟨s, l, R, []⟩, cl, ⟨9, 0, []⟩) := (if_neg c1).trans (if_pos c2)
    rw [eD]
    rw [c2] at hcl
    refine Ct.of_vc Tryz.f133 Tryz.func133 rfl rfl fun w H B g0 => ?_
    refine Spl.f (decide_eq_false (by omega)) ?_
    (repeat (first | refine Spl.t rfl ?_ | refine Spl.f rfl ?_))
    refine Spl.f (decide_eq_false (by omega)) ?_
    (repeat (first | refine Spl.t rfl ?_ | refine Spl.f rfl ?_))
    refine OpJ.callV hcl (fun _ _ => rfl) rfl rfl rfl ?_
    (repeat (first | refine Spl.t rfl ?_ | refine Spl.f rfl ?_))
    refine FinP.viewTup 2 rfl (fun _ _ _ h => nil_sl 6 h) ?_
    exact FinP.open rfl rfl
  have c2' : (cl || decide (site = 0)) = false := by cases hh : (cl || decide (site = 0)) with | true => exact absurd hh c2 | false => rfl
  rw [c2'] at hcl
  by_cases c3 : c.k = 8
  · have eD : chgR site ⟨s, l, R, []⟩ cl c = (⟨s, l, R, []⟩, true, ⟨0, 0, []⟩) := (if_neg c1).trans ((if_neg c2).trans (if_pos c3))
    rw [eD]
    refine Ct.of_vc Tryz.f133 Tryz.func133 rfl rfl fun w H B g0 => ?_
    refine Spl.f (decide_eq_false (by omega)) ?_
    (repeat (first | refine Spl.t rfl ?_ | refine Spl.f rfl ?_))
    refine Spl.f (decide_eq_false (by omega)) ?_
    (repeat (first | refine Spl.t rfl ?_ | refine Spl.f rfl ?_))
    refine OpJ.callV hcl (fun _ _ => rfl) rfl rfl rfl ?_
    (repeat (first | refine Spl.t rfl ?_ | refine Spl.f rfl ?_))
    refine Spl.t (decide_eq_true c3) ?_
    (repeat (first | refine Spl.t rfl ?_ | refine Spl.f rfl ?_))
    refine FinP.viewTup 2 rfl (fun _ _ _ h => nil_sl 6 h) ?_
    exact FinP.open rfl rfl
  by_cases c4 : c.k ≤ 2
  · have eD : chgR site ⟨s, l, R, []⟩ cl c = ((wrR site ⟨s, l, R, []⟩ c).1, cl, (wrR site ⟨s, l, R, []⟩ c).2) := (if_neg c1).trans ((if_neg c2).trans ((if_neg c3).trans (if_pos c4)))
    rw [eD]
    have hw := write_c h site cl c (by omega)
    generalize wrR site ⟨s, l, R, []⟩ c = p at hw ⊢
    obtain ⟨⟨v1, v2, v3, v4⟩, x⟩ := p
    simp only at hw ⊢
    rw [decide_eq_true (show 0 ≤ c.k ∧ c.k ≤ 2 by omega)] at hwr
    refine Ct.of_vc Tryz.f133 Tryz.func133 rfl rfl fun w H B g0 => ?_
    refine Spl.f (decide_eq_false (by omega)) ?_
    (repeat (first | refine Spl.t rfl ?_ | refine Spl.f rfl ?_))
    refine Spl.f (decide_eq_false (by omega)) ?_
    (repeat (first | refine Spl.t rfl ?_ | refine Spl.f rfl ?_))
    refine OpJ.callV hcl (fun _ _ => rfl) rfl rfl rfl ?_
    (repeat (first | refine Spl.t rfl ?_ | refine Spl.f rfl ?_))
    refine Spl.f (decide_eq_false c3) ?_
    (repeat (first | refine Spl.t rfl ?_ | refine Spl.f rfl ?_))
    refine OpJ.callV hwr (fun _ _ => rfl) rfl rfl rfl ?_
    (repeat (first | refine Spl.t rfl ?_ | refine Spl.f rfl ?_))
    refine OpJ.callV hw (fun _ _ => rfl) rfl rfl rfl ?_
    (repeat (first | refine Spl.t rfl ?_ | refine Spl.f rfl ?_))
    exact FinP.open rfl rfl
  · have eD : chgR site ⟨s, l, R, []⟩ cl c = (⟨s, l, R, []⟩, cl, lookC l c) := (if_neg c1).trans ((if_neg c2).trans ((if_neg c3).trans (if_neg c4)))
    rw [eD]
    rw [decide_eq_false (show ¬ (0 ≤ c.k ∧ c.k ≤ 2) by omega)] at hwr
    have hk : c.k = 3 ∨ c.k = 4 ∨ c.k = 5 ∨ c.k = 6 ∨ c.k = 7 := by omega
    clear eD
    obtain ⟨k, at_, ch, o, a⟩ := c
    simp only at hk hwr
    clear c1 c2 c3 c4
    rcases hk with hk | hk | hk | hk | hk
    · subst hk
      have hlk := looks_c site s l R cl ⟨3, at_, ch, o, a⟩
      have kj := L1_c his site R cl
      have eL : lookC l ⟨3, at_, ch, o, a⟩ = (⟨0, 0, byt (txtZ (rowE l))⟩ : RS) := rfl
      rw [eL]
      generalize hg : (⟨0, 0, byt (txtZ (rowE l))⟩ : RS) = x at kj ⊢
      refine Ct.of_vc Tryz.f133 Tryz.func133 rfl rfl fun w H B g0 => ?_
      (repeat (first | refine Spl.t rfl ?_ | refine Spl.f rfl ?_))
      refine OpJ.callV hcl (fun _ _ => rfl) rfl rfl rfl ?_
      (repeat (first | refine Spl.t rfl ?_ | refine Spl.f rfl ?_))
      refine OpJ.callV hwr (fun _ _ => rfl) rfl rfl rfl ?_
      (repeat (first | refine Spl.t rfl ?_ | refine Spl.f rfl ?_))
      refine RegP.mixS 11 [4, 5] rfl (by decide +kernel) ?_
      refine QuietP.of (QJ.call hlk (fun _ _ => rfl) rfl rfl) ?_
      (repeat (first | refine Spl.t rfl ?_ | refine Spl.f rfl ?_))
      refine LookP.at_ 0 rfl rfl ?_
      (repeat (first | refine Spl.t rfl ?_ | refine Spl.f rfl ?_))
      refine QuietP.of (QJ.callT rfl (.fn _ _) kj (fun _ _ => rfl) rfl rfl) ?_
      (repeat (first | refine Spl.t rfl ?_ | refine Spl.f rfl ?_))
      refine FinP.viewTup 2 rfl (fun _ _ _ h => nil_sl 6 h) ?_
      exact FinP.open rfl rfl
    · subst hk
      have hlk := looks_c site s l R cl ⟨4, at_, ch, o, a⟩
      have kj := L2_c his site R cl
      have eL : lookC l ⟨4, at_, ch, o, a⟩ = (⟨0, liveL (rowE l), []⟩ : RS) := rfl
      rw [eL]
      generalize hg : (⟨0, liveL (rowE l), []⟩ : RS) = x at kj ⊢
      refine Ct.of_vc Tryz.f133 Tryz.func133 rfl rfl fun w H B g0 => ?_
      (repeat (first | refine Spl.t rfl ?_ | refine Spl.f rfl ?_))
      refine OpJ.callV hcl (fun _ _ => rfl) rfl rfl rfl ?_
      (repeat (first | refine Spl.t rfl ?_ | refine Spl.f rfl ?_))
      refine OpJ.callV hwr (fun _ _ => rfl) rfl rfl rfl ?_
      (repeat (first | refine Spl.t rfl ?_ | refine Spl.f rfl ?_))
      refine RegP.mixS 11 [4, 5] rfl (by decide +kernel) ?_
      refine QuietP.of (QJ.call hlk (fun _ _ => rfl) rfl rfl) ?_
      (repeat (first | refine Spl.t rfl ?_ | refine Spl.f rfl ?_))
      refine LookP.at_ 1 rfl rfl ?_
      (repeat (first | refine Spl.t rfl ?_ | refine Spl.f rfl ?_))
      refine QuietP.of (QJ.callT rfl (.fn _ _) kj (fun _ _ => rfl) rfl rfl) ?_
      (repeat (first | refine Spl.t rfl ?_ | refine Spl.f rfl ?_))
      refine FinP.viewTup 2 rfl (fun _ _ _ h => nil_sl 6 h) ?_
      exact FinP.open rfl rfl
    · subst hk
      have hlk := looks_c site s l R cl ⟨5, at_, ch, o, a⟩
      have kj := L3_c his site R cl ⟨5, at_, ch, o, a⟩
      have eL : lookC l ⟨5, at_, ch, o, a⟩ = (if (curAt (rowE l) at_).2 ≠ 0 then ⟨(curAt (rowE l) at_).2, 0, []⟩ else ⟨0, 0, textI (curAt (rowE l) at_).1⟩ : RS) := rfl
      rw [eL]
      generalize hg : (if (curAt (rowE l) at_).2 ≠ 0 then ⟨(curAt (rowE l) at_).2, 0, []⟩ else ⟨0, 0, textI (curAt (rowE l) at_).1⟩ : RS) = x at kj ⊢
      refine Ct.of_vc Tryz.f133 Tryz.func133 rfl rfl fun w H B g0 => ?_
      (repeat (first | refine Spl.t rfl ?_ | refine Spl.f rfl ?_))
      refine OpJ.callV hcl (fun _ _ => rfl) rfl rfl rfl ?_
      (repeat (first | refine Spl.t rfl ?_ | refine Spl.f rfl ?_))
      refine OpJ.callV hwr (fun _ _ => rfl) rfl rfl rfl ?_
      (repeat (first | refine Spl.t rfl ?_ | refine Spl.f rfl ?_))
      refine RegP.mixS 11 [4, 5] rfl (by decide +kernel) ?_
      refine QuietP.of (QJ.call hlk (fun _ _ => rfl) rfl rfl) ?_
      (repeat (first | refine Spl.t rfl ?_ | refine Spl.f rfl ?_))
      refine LookP.at_ 2 rfl rfl ?_
      (repeat (first | refine Spl.t rfl ?_ | refine Spl.f rfl ?_))
      refine QuietP.of (QJ.callT rfl (.fn _ _) kj (fun _ _ => rfl) rfl rfl) ?_
      (repeat (first | refine Spl.t rfl ?_ | refine Spl.f rfl ?_))
      refine FinP.viewTup 2 rfl (fun _ _ _ h => nil_sl 6 h) ?_
      exact FinP.open rfl rfl
    · subst hk
      have hlk := looks_c site s l R cl ⟨6, at_, ch, o, a⟩
      have kj := L4_c his site R cl ⟨6, at_, ch, o, a⟩
      have eL : lookC l ⟨6, at_, ch, o, a⟩ = (⟨(resC (rowE l) a).2, (resC (rowE l) a).1, []⟩ : RS) := rfl
      rw [eL]
      generalize hg : (⟨(resC (rowE l) a).2, (resC (rowE l) a).1, []⟩ : RS) = x at kj ⊢
      refine Ct.of_vc Tryz.f133 Tryz.func133 rfl rfl fun w H B g0 => ?_
      (repeat (first | refine Spl.t rfl ?_ | refine Spl.f rfl ?_))
      refine OpJ.callV hcl (fun _ _ => rfl) rfl rfl rfl ?_
      (repeat (first | refine Spl.t rfl ?_ | refine Spl.f rfl ?_))
      refine OpJ.callV hwr (fun _ _ => rfl) rfl rfl rfl ?_
      (repeat (first | refine Spl.t rfl ?_ | refine Spl.f rfl ?_))
      refine RegP.mixS 11 [4, 5] rfl (by decide +kernel) ?_
      refine QuietP.of (QJ.call hlk (fun _ _ => rfl) rfl rfl) ?_
      (repeat (first | refine Spl.t rfl ?_ | refine Spl.f rfl ?_))
      refine LookP.at_ 3 rfl rfl ?_
      (repeat (first | refine Spl.t rfl ?_ | refine Spl.f rfl ?_))
      refine QuietP.of (QJ.callT rfl (.fn _ _) kj (fun _ _ => rfl) rfl rfl) ?_
      (repeat (first | refine Spl.t rfl ?_ | refine Spl.f rfl ?_))
      refine FinP.viewTup 2 rfl (fun _ _ _ h => nil_sl 6 h) ?_
      exact FinP.open rfl rfl
    · subst hk
      have hlk := looks_c site s l R cl ⟨7, at_, ch, o, a⟩
      have kj := L5_c his site R cl
      have eL : lookC l ⟨7, at_, ch, o, a⟩ = (⟨0, l.length, textT (sumV l)⟩ : RS) := rfl
      rw [eL]
      generalize hg : (⟨0, l.length, textT (sumV l)⟩ : RS) = x at kj ⊢
      refine Ct.of_vc Tryz.f133 Tryz.func133 rfl rfl fun w H B g0 => ?_
      (repeat (first | refine Spl.t rfl ?_ | refine Spl.f rfl ?_))
      refine OpJ.callV hcl (fun _ _ => rfl) rfl rfl rfl ?_
      (repeat (first | refine Spl.t rfl ?_ | refine Spl.f rfl ?_))
      refine OpJ.callV hwr (fun _ _ => rfl) rfl rfl rfl ?_
      (repeat (first | refine Spl.t rfl ?_ | refine Spl.f rfl ?_))
      refine RegP.mixS 11 [4, 5] rfl (by decide +kernel) ?_
      refine QuietP.of (QJ.call hlk (fun _ _ => rfl) rfl rfl) ?_
      (repeat (first | refine Spl.t rfl ?_ | refine Spl.f rfl ?_))
      refine LookP.at_ 4 rfl rfl ?_
      (repeat (first | refine Spl.t rfl ?_ | refine Spl.f rfl ?_))
      refine QuietP.of (QJ.callT rfl (.fn _ _) kj (fun _ _ => rfl) rfl rfl) ?_
      (repeat (first | refine Spl.t rfl ?_ | refine Spl.f rfl ?_))
      refine FinP.viewTup 2 rfl (fun _ _ _ h => nil_sl 6 h) ?_
      exact FinP.open rfl rfl
end Go.Proofs.E
end
section
open Go Go.Gv
attribute [local irreducible] Go.Gv.WJ Go.Gv.OpJ Go.Gv.QJ Go.Gv.Spl Go.Gv.Req Go.Gv.IdxP Go.Gv.RegP Go.Gv.FinP Go.Gv.CellP Go.Gv.CellsP Go.Gv.ArrP Go.Gv.ArrsP Go.Gv.DropP Go.Gv.ByteP Go.Gv.StoreP
set_option maxRecDepth 100000
namespace Go.Proofs.E
attribute [local irreducible] elems
theorem RDo_c {s : SS} {l R : List OP} (h : okV ⟨s, l, R, []⟩) (site : Int) (cl : Bool) (c : CALL) :
    Cv 80 [rpv site s l R cl, callv c] (.tup [rpv site (chgR site ⟨s, l, R, []⟩ cl c).1.s (chgR site ⟨s, l, R, []⟩ cl c).1.l (chgR site ⟨s, l, R, []⟩ cl c).1.R (chgR site ⟨s, l, R, []⟩ cl c).2.1, rsv (chgR site ⟨s, l, R, []⟩ cl c).2.2]) := by
  have hw := Changes12_c h site cl c
  generalize chgR site ⟨s, l, R, []⟩ cl c = p at hw ⊢
  obtain ⟨⟨v1, v2, v3, v4⟩, cl', x⟩ := p
  simp only at hw ⊢
  refine Ct.of_vc Tryz.f80 Tryz.func80 rfl rfl fun w H B g0 => ?_
  refine OpJ.callV hw (fun _ _ => rfl) rfl rfl rfl ?_
  (repeat (first | refine Spl.t rfl ?_ | refine Spl.f rfl ?_))
  refine RegP.mixS 4 [4, 5] rfl (by decide +kernel) ?_
  exact FinP.open rfl rfl
theorem RLook_c {s : SS} {l R : List OP} (h : okV ⟨s, l, R, []⟩) (site : Int) (cl : Bool) (c : CALL) :
    Cv 85 [rpv site s l R cl, callv c] (rsv (chgR site ⟨s, l, R, []⟩ cl c).2.2) := by
  have hw := RDo_c h site cl c
  generalize chgR site ⟨s, l, R, []⟩ cl c = p at hw ⊢
  obtain ⟨⟨v1, v2, v3, v4⟩, cl', x⟩ := p
  simp only at hw ⊢
  refine Ct.of_vc Tryz.f85 Tryz.func85 rfl rfl fun w H B g0 => ?_
  refine OpJ.callV hw (fun _ _ => rfl) rfl rfl rfl ?_
  (repeat (first | refine Spl.t rfl ?_ | refine Spl.f rfl ?_))
  exact FinP.open rfl rfl
theorem nilR {γ : Ids} {H : HF} {u : Value} {t p : D} {k0 n m k : Int} {z1 z2 z3 : AV} (r : Rep γ H (.agg [iv k0, .d t, .d p, iv n, .d (.v (.slice none 0 0)), iv m, iv k, z1, z2, z3]) u) : Rep γ H (.agg [iv k0, .d t, .d p, iv n, .d (.sl 6 []), iv m, iv k, z1, z2, z3]) u := rep_agg_set (j := 4) r rfl fun _ h => nil_sl 6 h
theorem New_c (site : Int) : Cv 55 [iv site] (.tup [rpv (if site < 1 ∨ site > 1000 then 0 else site) vA0.s vA0.l vA0.R false, iv (if site < 1 ∨ site > 1000 then 2 else 0)]) := by
  by_cases c1 : site < 1 ∨ site > 1000
  · rw [if_pos c1, if_pos c1]
    refine Ct.of_vc Tryz.f55 Tryz.func55 rfl rfl fun w H B g0 => ?_
    refine Spl.of (fun h1 => ?_) (fun h1 => ?_)
    · (repeat (first | refine Spl.t rfl ?_ | refine Spl.f rfl ?_))
      refine FinP.viewTup 0 rfl (fun _ _ _ h => nilR h) ?_
      exact FinP.open rfl rfl
    · (repeat (first | refine Spl.t rfl ?_ | refine Spl.f rfl ?_))
      refine Spl.t (decide_eq_true (by have := of_decide_eq_false h1; omega)) ?_
      (repeat (first | refine Spl.t rfl ?_ | refine Spl.f rfl ?_))
      refine FinP.viewTup 0 rfl (fun _ _ _ h => nilR h) ?_
      exact FinP.open rfl rfl
  · rw [if_neg c1, if_neg c1]
    refine Ct.of_vc Tryz.f55 Tryz.func55 rfl rfl fun w H B g0 => ?_
    refine Spl.f (decide_eq_false (by omega)) ?_
    (repeat (first | refine Spl.t rfl ?_ | refine Spl.f rfl ?_))
    refine Spl.f (decide_eq_false (by omega)) ?_
    (repeat (first | refine Spl.t rfl ?_ | refine Spl.f rfl ?_))
    refine FinP.viewTup 0 rfl (fun _ _ _ h => nilR h) ?_
    exact FinP.open rfl rfl
end Go.Proofs.E
end
section
open Go Go.Gv
attribute [local irreducible] Go.Gv.WJ Go.Gv.OpJ Go.Gv.QJ Go.Gv.Spl Go.Gv.Req Go.Gv.IdxP Go.Gv.RegP Go.Gv.FinP Go.Gv.CellP Go.Gv.CellsP Go.Gv.ArrP Go.Gv.ArrsP Go.Gv.DropP Go.Gv.ByteP Go.Gv.StoreP
set_option maxRecDepth 100000
namespace Go.Proofs.E
attribute [local irreducible] elems
end Go.Proofs.E
end
section
open Go Go.Gv
attribute [local irreducible] Go.Gv.WJ Go.Gv.OpJ Go.Gv.QJ Go.Gv.Spl Go.Gv.Req Go.Gv.IdxP Go.Gv.RegP Go.Gv.FinP Go.Gv.CellP Go.Gv.CellsP Go.Gv.ArrP Go.Gv.ArrsP Go.Gv.DropP Go.Gv.ByteP Go.Gv.StoreP
set_option maxRecDepth 100000
namespace Go.Proofs.E
attribute [local irreducible] elems
theorem okV.wr {v : VS} (h : okV v) (site : Int) (c : CALL) : okV (wrR site v c).1 ∧ (wrR site v c).1.out.length ≤ 17 := by
  have hs : okV v.same ∧ v.same.out.length ≤ 17 := ⟨h.same, by simp [VS.same]⟩
  unfold wrR
  split
  · unfold wrI
    split
    · exact hs
    · exact h.ins site c.at_ c.ch
  · split
    · unfold wrI
      split
      · exact hs
      · exact h.del c.at_
    · split
      · exact hs
      · exact ⟨h.rem c.o, rem_out h c.o⟩
theorem okV.chg {v : VS} (h : okV v) (site : Int) (cl : Bool) (c : CALL) : okV (chgR site v cl c).1 ∧ (chgR site v cl c).1.out.length ≤ 17 := by
  have hs : okV v.same ∧ v.same.out.length ≤ 17 := ⟨h.same, by simp [VS.same]⟩
  unfold chgR
  split
  · exact hs
  · split
    · exact hs
    · split
      · exact hs
      · split
        · exact h.wr site c
        · exact hs
theorem eqRS (a b : RS) : eqT Tryz.prog 3 73 [.int .i64 a.e, .int .i64 a.n, .string ⟨⟨a.t⟩⟩] [.int .i64 b.e, .int .i64 b.n, .string ⟨⟨b.t⟩⟩] = some (decide (a = b)) := by
  show some (decide (a.e = b.e) && (decide (a.n = b.n) && (((⟨⟨a.t⟩⟩ : ByteArray).toList == (⟨⟨b.t⟩⟩ : ByteArray).toList) && true))) = _
  rw [ByteArray.toList_eq, ByteArray.toList_eq]
  obtain ⟨a1, a2, a3⟩ := a
  obtain ⟨b1, b2, b3⟩ := b
  by_cases h3 : a3 = b3 <;> simp [h3]
theorem eqRS_ok : eqOk Tryz.prog 3 73 = true := by kernel_rfl
theorem eqRS_g : Tryz.prog.eqGuardType Tryz.prog.depth 73 = false := by kernel_rfl
def callA : CALL := ⟨0, 0, 97, OP0, ⟨0, 0⟩⟩
def kindC (k : Int) : CALL := ⟨k, 0, 0, OP0, ⟨0, 0⟩⟩
def rA : VS × Bool × RS := chgR 1 vA0 false callA
theorem okRA : okV rA.1 := (okA0.chg 1 false callA).1
theorem aw12_x : rA.2.2 = ⟨0, 1, [43, 49, 46, 49, 32, 45, 32, 54, 49]⟩ := by decide +kernel
theorem aw12_cl : rA.2.1 = false := by decide +kernel
theorem aw12_t : (chgR 1 ⟨rA.1.s, rA.1.l, rA.1.R, []⟩ false (kindC 3)).2.2 = ⟨0, 0, [97]⟩ := by decide +kernel
theorem Awake12_c : Cv 56 [] (bv true) := by
  have hn : Cv 55 [iv 1] (.tup [rpv 1 vA0.s vA0.l vA0.R false, iv 0]) := New_c 1
  have hd := RDo_c (s := vA0.s) (l := vA0.l) (R := vA0.R) okA0 1 false callA
  have hl := RLook_c okRA.out 1 false (kindC 3)
  rw [aw12_t] at hl
  have e1 : chgR 1 ⟨vA0.s, vA0.l, vA0.R, []⟩ false callA = rA := rfl
  rw [e1] at hd
  rw [aw12_x, aw12_cl] at hd
  generalize rA = p at hd hl
  obtain ⟨⟨v1, v2, v3, v4⟩, cl, x⟩ := p
  simp only at hd hl
  refine Ct.of_wv Tryz.f56 Tryz.func56 rfl rfl fun w H B g0 => ?_
  (try refine WJ.cut ?_)
  (first | refine Sq.go ?_ | refine vL_nil (Sq.go ?_) | skip)
  (try refine WJ.cut ?_)
  refine OpJ.callV hn (fun _ _ => rfl) rfl rfl rfl ?_
  (repeat (first | refine Spl.t rfl ?_ | refine Spl.f rfl ?_))
  (first | refine Sq.go ?_ | refine vL_nil (Sq.go ?_) | skip)
  (try refine WJ.cut ?_)
  refine OpJ.callV hd (fun _ _ => rfl) rfl rfl rfl ?_
  (repeat (first | refine Spl.t rfl ?_ | refine Spl.f rfl ?_))
  (first | refine Sq.go ?_ | refine vL_nil (Sq.go ?_) | skip)
  (try refine vc_sound _ _ _ _ ?_)
  refine OpJ.callV Awake11_c (fun _ _ => rfl) rfl rfl rfl ?_
  (repeat (first | refine Spl.t rfl ?_ | refine Spl.f rfl ?_))
  refine OpJ.qu (O.eqT 3 rfl rfl rfl rfl rfl eqRS_ok eqRS_g (eqRS ⟨0, 1, [43, 49, 46, 49, 32, 45, 32, 54, 49]⟩ ⟨0, 1, [43, 49, 46, 49, 32, 45, 32, 54, 49]⟩)) rfl ?_
  refine Spl.t (by simp) ?_
  (repeat (first | refine Spl.t rfl ?_ | refine Spl.f rfl ?_))
  refine OpJ.callV hl (fun _ _ => rfl) rfl rfl rfl ?_
  (repeat (first | refine Spl.t rfl ?_ | refine Spl.f rfl ?_))
  exact FinP.open rfl (congrArg bv (by simp))
end Go.Proofs.E
end
section
open Go Go.Gv
attribute [local irreducible] Go.Gv.WJ Go.Gv.OpJ Go.Gv.QJ Go.Gv.Spl Go.Gv.Req Go.Gv.IdxP Go.Gv.RegP Go.Gv.FinP Go.Gv.CellP Go.Gv.CellsP Go.Gv.ArrP Go.Gv.ArrsP Go.Gv.DropP Go.Gv.ByteP Go.Gv.StoreP
set_option maxRecDepth 100000
namespace Go.Proofs.E
attribute [local irreducible] elems
end Go.Proofs.E
end
section
open Go Go.Gv
attribute [local irreducible] Go.Gv.WJ Go.Gv.OpJ Go.Gv.QJ Go.Gv.Spl Go.Gv.Req Go.Gv.IdxP Go.Gv.RegP Go.Gv.FinP Go.Gv.CellP Go.Gv.CellsP Go.Gv.ArrP Go.Gv.ArrsP Go.Gv.DropP Go.Gv.ByteP Go.Gv.StoreP
set_option maxRecDepth 100000
namespace Go.Proofs.E
attribute [local irreducible] elems
end Go.Proofs.E
end
section
open Go Go.Gv
namespace Go.Proofs.E
structure TA where
  t : Int
  k : Int
  loc : Int
  deriving DecidableEq
def dirA (a b : TA) : Prop := a.t = b.t ∨ (a.k = 3 ∧ b.k = 2 ∧ a.loc = b.loc)
inductive HB (l : List TA) : Nat → Nat → Prop
  | dir {i k : Nat} {a b : TA} : i < k → l[i]? = some a → l[k]? = some b → dirA a b → HB l i k
  | trans {i d k : Nat} {a b : TA} : HB l i d → d < k → l[d]? = some a → l[k]? = some b → dirA a b → HB l i k
theorem HB.lt {l : List TA} {i k : Nat} (h : HB l i k) : i < k ∧ k < l.length := by
  induction h with
  | dir h1 _ h3 _ => exact ⟨h1, (List.getElem?_eq_some_iff.1 h3).1⟩
  | trans _ h1 _ h3 _ ih => exact ⟨by omega, (List.getElem?_eq_some_iff.1 h3).1⟩
theorem HB.tr {l : List TA} {i d k : Nat} (h : HB l i d) (h2 : HB l d k) : HB l i k := by
  induction h2 with
  | dir h1 h3 h4 h5 => exact .trans h h1 h3 h4 h5
  | trans _ h1 h3 h4 h5 ih => exact .trans ih h1 h3 h4 h5
theorem HB.app {l : List TA} {i k : Nat} (h : HB l i k) (r : List TA) : HB (l ++ r) i k := by
  induction h with
  | dir h1 h2 h3 h4 => exact .dir h1 (by rw [List.getElem?_append_left (List.getElem?_eq_some_iff.1 h2).1]; exact h2) (by rw [List.getElem?_append_left (List.getElem?_eq_some_iff.1 h3).1]; exact h3) h4
  | trans _ h1 h2 h3 h4 ih => exact .trans ih h1 (by rw [List.getElem?_append_left (List.getElem?_eq_some_iff.1 h2).1]; exact h2) (by rw [List.getElem?_append_left (List.getElem?_eq_some_iff.1 h3).1]; exact h3) h4
theorem HB.pre {l r : List TA} {i k : Nat} (h : HB (l ++ r) i k) : k < l.length → HB l i k := by
  induction h with
  | dir h1 h2 h3 h4 => intro hk; exact .dir h1 (by rw [List.getElem?_append_left (by omega)] at h2; exact h2) (by rw [List.getElem?_append_left hk] at h3; exact h3) h4
  | trans _ h1 h2 h3 h4 ih => intro hk; exact .trans (ih (by omega)) h1 (by rw [List.getElem?_append_left (by omega)] at h2; exact h2) (by rw [List.getElem?_append_left hk] at h3; exact h3) h4
theorem snoc_get {α : Type} (l : List α) (a : α) : (l ++ [a])[l.length]? = some a := by simp
theorem snoc_old {α : Type} {l : List α} {a : α} {i : Nat} {b : α} (h : l[i]? = some b) : (l ++ [a])[i]? = some b := by
  rw [List.getElem?_append_left (List.getElem?_eq_some_iff.1 h).1]; exact h
theorem snoc_cases {α : Type} {l : List α} {a : α} {i : Nat} {b : α} (h : (l ++ [a])[i]? = some b) : (i < l.length ∧ l[i]? = some b) ∨ (i = l.length ∧ b = a) := by
  have hi := (List.getElem?_eq_some_iff.1 h).1
  rw [List.length_append] at hi
  simp only [List.length_cons, List.length_nil] at hi
  by_cases e : i < l.length
  · rw [List.getElem?_append_left e] at h; exact .inl ⟨e, h⟩
  · have e2 : i = l.length := by omega
    subst e2
    rw [snoc_get] at h; exact .inr ⟨rfl, (Option.some.inj h).symm⟩
theorem get_lt {α : Type} {l : List α} {i : Nat} {b : α} (h : l[i]? = some b) : i < l.length := (List.getElem?_eq_some_iff.1 h).1
theorem HB.old {l : List TA} {a : TA} {i k : Nat} (hk : k < l.length) : HB (l ++ [a]) i k ↔ HB l i k := ⟨fun h => h.pre hk, fun h => h.app _⟩
theorem HB.last {l : List TA} {a : TA} {i : Nat} : HB (l ++ [a]) i l.length ↔ ∃ (d : Nat) (b : TA), l[d]? = some b ∧ dirA b a ∧ (i = d ∨ HB l i d) := by
  constructor
  · intro h
    generalize hn : l.length = n at h
    cases h with
    | dir h1 h2 h3 h4 =>
      subst hn
      rw [snoc_get] at h3; cases h3
      rw [List.getElem?_append_left h1] at h2
      exact ⟨i, _, h2, h4, .inl rfl⟩
    | trans h0 h1 h2 h3 h4 =>
      subst hn
      rw [snoc_get] at h3; cases h3
      rw [List.getElem?_append_left h1] at h2
      exact ⟨_, _, h2, h4, .inr (h0.pre h1)⟩
  · rintro ⟨d, b, h1, h2, rfl | h3⟩
    · exact .dir (get_lt h1) (snoc_old h1) (snoc_get l a) h2
    · exact .trans (h3.app _) (get_lt h1) (snoc_old h1) (snoc_get l a) h2
/-! ### Counts -/
def cntL (l : List TA) (t : Int) : Int := ((l.filter fun a => decide (a.t = t)).length : Nat)
theorem cnt_snoc (l : List TA) (a : TA) (t : Int) : cntL (l ++ [a]) t = cntL l t + (if a.t = t then 1 else 0) := by
  unfold cntL
  rw [List.filter_append, List.length_append]
  by_cases h : a.t = t <;> simp [h]
def num (l : List TA) (i : Nat) : Int := match l[i]? with
  | some a => cntL (l.take (i + 1)) a.t
  | none => 0
theorem num_old {l : List TA} {a b : TA} {i : Nat} (h : l[i]? = some b) : num (l ++ [a]) i = num l i := by
  unfold num
  rw [snoc_old h, h]
  simp only
  rw [List.take_append_of_le_length (by have := get_lt h; omega)]
theorem num_last (l : List TA) (a : TA) : num (l ++ [a]) l.length = cntL l a.t + 1 := by
  unfold num
  rw [snoc_get]
  simp only
  rw [List.take_of_length_le (by simp), cnt_snoc, if_pos rfl]
theorem cnt_takeA (l : List TA) (t : Int) (i : Nat) : cntL (l.take i) t ≤ cntL l t := by
  unfold cntL
  have := List.Sublist.length_le ((List.take_sublist i l).filter fun a => decide (a.t = t))
  omega
theorem num_le {l : List TA} {i : Nat} {a : TA} (h : l[i]? = some a) : num l i ≤ cntL l a.t := by
  unfold num; rw [h]; exact cnt_takeA l _ _
def mx (a b : Int) : Int := if b > a then b else a
theorem mx_le (a b c : Int) : c ≤ mx a b ↔ c ≤ a ∨ c ≤ b := by unfold mx; split <;> omega
theorem le_mx (a b c : Int) : mx a b ≤ c ↔ a ≤ c ∧ b ≤ c := by unfold mx; split <;> omega
def knowC (th sg : Int → Int → Int) (a : TA) : Int → Int := fun x => (if a.k = 2 then mx (th a.t x) (sg a.loc x) else th a.t x) + (if x = a.t then 1 else 0)
def thS (th sg : Int → Int → Int) (a : TA) : Int → Int → Int := fun t => if t = a.t then knowC th sg a else th t
def sgS (th sg : Int → Int → Int) (a : TA) : Int → Int → Int := fun loc => if a.k = 3 ∧ loc = a.loc then fun x => mx (sg loc x) (knowC th sg a x) else sg loc
structure InvC (l : List TA) (th sg : Int → Int → Int) (cs : List (Int → Int)) : Prop where
  len : cs.length = l.length
  kn : ∀ (t : Int) (i : Nat) (a : TA), l[i]? = some a → ((∃ (p : Nat) (b : TA), l[p]? = some b ∧ b.t = t ∧ (i = p ∨ HB l i p)) ↔ num l i ≤ th t a.t)
  ks : ∀ (loc : Int) (i : Nat) (a : TA), l[i]? = some a → ((∃ (p : Nat) (b : TA), l[p]? = some b ∧ (b.k = 3 ∧ b.loc = loc) ∧ (i = p ∨ HB l i p)) ↔ num l i ≤ sg loc a.t)
  bt : ∀ t x, th t x ≤ cntL l x
  bs : ∀ loc x, sg loc x ≤ cntL l x
  own : ∀ t, th t t = cntL l t
  cl : ∀ (i : Nat) (c : Int → Int), cs[i]? = some c → ∀ (j : Nat) (b : TA), l[j]? = some b → j ≤ i → ((j = i ∨ HB l j i) ↔ num l j ≤ c b.t)
  clo : ∀ (i : Nat) (a : TA) (c : Int → Int), l[i]? = some a → cs[i]? = some c → c a.t = num l i
theorem InvC.nil : InvC [] (fun _ _ => 0) (fun _ _ => 0) [] :=
  ⟨rfl, fun _ _ _ h => by simp at h, fun _ _ _ h => by simp at h, fun _ _ => Int.le_refl _, fun _ _ => Int.le_refl _, fun _ => rfl, fun _ _ h => by simp at h, fun _ _ _ h => by simp at h⟩
theorem knowC_own {l : List TA} {th sg : Int → Int → Int} {cs : List (Int → Int)} (h : InvC l th sg cs) (a : TA) : knowC th sg a a.t = cntL l a.t + 1 := by
  unfold knowC
  rw [if_pos rfl]
  have h1 := h.own a.t
  have h2 := h.bs a.loc a.t
  split
  · unfold mx; split <;> omega
  · omega
theorem knowC_le {l : List TA} {th sg : Int → Int → Int} {cs : List (Int → Int)} (h : InvC l th sg cs) (a : TA) (x : Int) : knowC th sg a x ≤ cntL (l ++ [a]) x := by
  rw [cnt_snoc]
  unfold knowC
  have h1 := h.bt a.t x
  have h2 := h.bs a.loc x
  have e : (if x = a.t then (1 : Int) else 0) = if a.t = x then 1 else 0 := by
    by_cases q : x = a.t
    · rw [if_pos q, if_pos q.symm]
    · rw [if_neg q, if_neg fun e => q e.symm]
  rw [e]
  split
  · unfold mx; split <;> omega
  · omega
/-- What the last act knows. -/
theorem knowC_is {l : List TA} {th sg : Int → Int → Int} {cs : List (Int → Int)} (h : InvC l th sg cs) (a : TA) {j : Nat} {b : TA} (hj : l[j]? = some b) : HB (l ++ [a]) j l.length ↔ num l j ≤ knowC th sg a b.t := by
  rw [HB.last]
  by_cases ht : b.t = a.t
  · have h1 := knowC_own h a
    rw [ht, h1]
    have h2 := num_le hj
    rw [ht] at h2
    exact ⟨fun _ => by omega, fun _ => ⟨j, b, hj, .inl ht, .inl rfl⟩⟩
  · have e : knowC th sg a b.t = if a.k = 2 then mx (th a.t b.t) (sg a.loc b.t) else th a.t b.t := by
      unfold knowC; rw [if_neg ht, Int.add_zero]
    rw [e]
    have k1 := h.kn a.t j b hj
    have k2 := h.ks a.loc j b hj
    constructor
    · rintro ⟨d, c, h1, h2, h3⟩
      rcases h2 with h2 | ⟨h2, h4, h5⟩
      · have := k1.1 ⟨d, c, h1, h2, h3⟩
        split
        · exact (mx_le _ _ _).2 (.inl this)
        · exact this
      · rw [if_pos h4]
        exact (mx_le _ _ _).2 (.inr (k2.1 ⟨d, c, h1, ⟨h2, h5⟩, h3⟩))
    · intro h0
      have h0 : num l j ≤ th a.t b.t ∨ (a.k = 2 ∧ num l j ≤ sg a.loc b.t) := by
        split at h0
        · next q => exact ((mx_le _ _ _).1 h0).elim .inl fun x => .inr ⟨q, x⟩
        · exact .inl h0
      rcases h0 with h0 | ⟨q, h0⟩
      · obtain ⟨p, c, h1, h2, h3⟩ := k1.2 h0
        exact ⟨p, c, h1, .inl h2, h3⟩
      · obtain ⟨p, c, h1, ⟨h2, h4⟩, h3⟩ := k2.2 h0
        exact ⟨p, c, h1, .inr ⟨h2, q, h4⟩, h3⟩
theorem InvC.snoc {l : List TA} {th sg : Int → Int → Int} {cs : List (Int → Int)} (h : InvC l th sg cs) (a : TA) : InvC (l ++ [a]) (thS th sg a) (sgS th sg a) (cs ++ [knowC th sg a]) := by
  have hown := knowC_own h a
  have hle := knowC_le h a
  have hnum := num_last l a
  have old : ∀ {i : Nat} {b : TA}, l[i]? = some b → ∀ p : Nat, p < l.length → ((i = p ∨ HB (l ++ [a]) i p) ↔ (i = p ∨ HB l i p)) := fun hi p hp => or_congr_right (HB.old hp)
  -- of the last act's thread or sign: who knows
  have new : ∀ (i : Nat) (b : TA), (l ++ [a])[i]? = some b → ((i = l.length ∨ HB (l ++ [a]) i l.length) ↔ num (l ++ [a]) i ≤ knowC th sg a b.t) := fun i b hi => by
    rcases snoc_cases hi with ⟨hlt, hi⟩ | ⟨rfl, rfl⟩
    · rw [num_old hi, ← knowC_is h a hi]
      exact ⟨fun x => x.resolve_left (by omega), .inr⟩
    · rw [hnum, hown]
      exact ⟨fun _ => Int.le_refl _, fun _ => .inl rfl⟩
  have cmono : ∀ x, cntL l x ≤ cntL (l ++ [a]) x := fun x => by rw [cnt_snoc]; split <;> omega
  refine ⟨by simp [h.len], fun t i b hi => ?_, fun loc i b hi => ?_, fun t x => ?_, fun loc x => ?_, fun t => ?_, fun i c hc j b hj hji => ?_, fun i b c hi hc => ?_⟩
  · by_cases ht : t = a.t
    · have e : thS th sg a t = knowC th sg a := if_pos ht
      rw [e, ← new i b hi]
      constructor
      · rintro ⟨p, c, h1, h2, h3⟩
        rcases snoc_cases h1 with ⟨hp, h1⟩ | ⟨rfl, rfl⟩
        · right
          have hd : dirA c a := .inl (h2.trans ht)
          rcases h3 with rfl | h3
          · exact HB.last.2 ⟨_, c, h1, hd, .inl rfl⟩
          · exact HB.last.2 ⟨p, c, h1, hd, .inr (h3.pre hp)⟩
        · exact h3
      · intro h3
        exact ⟨l.length, a, snoc_get l a, ht.symm, h3⟩
    · have e : thS th sg a t = th t := if_neg ht
      rw [e]
      rcases snoc_cases hi with ⟨hlt, hi'⟩ | ⟨rfl, rfl⟩
      · rw [num_old hi', ← h.kn t i b hi']
        constructor
        · rintro ⟨p, c, h1, h2, h3⟩
          rcases snoc_cases h1 with ⟨hp, h1⟩ | ⟨rfl, rfl⟩
          · exact ⟨p, c, h1, h2, (old hi' p hp).1 h3⟩
          · exact absurd h2.symm ht
        · rintro ⟨p, c, h1, h2, h3⟩
          exact ⟨p, c, snoc_old h1, h2, (old hi' p (get_lt h1)).2 h3⟩
      · rw [hnum]
        have := h.bt t b.t
        constructor
        · rintro ⟨p, c, h1, h2, h3⟩
          rcases snoc_cases h1 with ⟨hp, h1⟩ | ⟨rfl, rfl⟩
          · rcases h3 with h3 | h3
            · omega
            · have := h3.lt; omega
          · exact absurd h2.symm ht
        · intro; omega
  · by_cases hl : a.k = 3 ∧ loc = a.loc
    · have e : sgS th sg a loc = fun x => mx (sg loc x) (knowC th sg a x) := if_pos hl
      rw [e]
      simp only
      rw [mx_le]
      constructor
      · rintro ⟨p, c, h1, h2, h3⟩
        rcases snoc_cases h1 with ⟨hp, h1⟩ | ⟨rfl, rfl⟩
        · left
          rcases snoc_cases hi with ⟨hlt, hi'⟩ | ⟨rfl, rfl⟩
          · rw [num_old hi']
            exact (h.ks loc i b hi').1 ⟨p, c, h1, h2, (old hi' p hp).1 h3⟩
          · rcases h3 with h3 | h3
            · omega
            · have := h3.lt; omega
        · exact .inr ((new i b hi).1 h3)
      · rintro (h3 | h3)
        · rcases snoc_cases hi with ⟨hlt, hi'⟩ | ⟨rfl, rfl⟩
          · rw [num_old hi'] at h3
            obtain ⟨p, c, h1, h2, h4⟩ := (h.ks loc i b hi').2 h3
            exact ⟨p, c, snoc_old h1, h2, (old hi' p (get_lt h1)).2 h4⟩
          · rw [hnum] at h3
            have := h.bs loc b.t
            omega
        · exact ⟨l.length, a, snoc_get l a, ⟨hl.1, hl.2.symm⟩, (new i b hi).2 h3⟩
    · have e : sgS th sg a loc = sg loc := if_neg hl
      rw [e]
      rcases snoc_cases hi with ⟨hlt, hi'⟩ | ⟨rfl, rfl⟩
      · rw [num_old hi', ← h.ks loc i b hi']
        constructor
        · rintro ⟨p, c, h1, h2, h3⟩
          rcases snoc_cases h1 with ⟨hp, h1⟩ | ⟨rfl, rfl⟩
          · exact ⟨p, c, h1, h2, (old hi' p hp).1 h3⟩
          · exact absurd ⟨h2.1, h2.2.symm⟩ hl
        · rintro ⟨p, c, h1, h2, h3⟩
          exact ⟨p, c, snoc_old h1, h2, (old hi' p (get_lt h1)).2 h3⟩
      · rw [hnum]
        have := h.bs loc b.t
        constructor
        · rintro ⟨p, c, h1, h2, h3⟩
          rcases snoc_cases h1 with ⟨hp, h1⟩ | ⟨rfl, rfl⟩
          · rcases h3 with h3 | h3
            · omega
            · have := h3.lt; omega
          · exact absurd ⟨h2.1, h2.2.symm⟩ hl
        · intro; omega
  · unfold thS
    split
    · exact hle x
    · have := h.bt t x; have := cmono x; omega
  · unfold sgS
    split
    · have := h.bs loc x; have := cmono x
      exact (le_mx _ _ _).2 ⟨by omega, hle x⟩
    · have := h.bs loc x; have := cmono x; omega
  · unfold thS
    by_cases ht : t = a.t
    · rw [if_pos ht, ht, hown, cnt_snoc, if_pos rfl]
    · rw [if_neg ht, h.own, cnt_snoc, if_neg fun e => ht e.symm, Int.add_zero]
  · rcases snoc_cases hc with ⟨hlt, hc'⟩ | ⟨rfl, rfl⟩
    · rw [h.len] at hlt
      rcases snoc_cases hj with ⟨_, hj'⟩ | ⟨rfl, rfl⟩
      · rw [num_old hj', ← h.cl i c hc' j b hj' hji, HB.old hlt]
      · omega
    · rw [h.len]
      exact new j b hj
  · rcases snoc_cases hc with ⟨hlt, hc'⟩ | ⟨rfl, rfl⟩
    · rw [h.len] at hlt
      rcases snoc_cases hi with ⟨_, hi'⟩ | ⟨rfl, rfl⟩
      · rw [num_old hi']; exact h.clo i b c hi' hc'
      · omega
    · rw [h.len] at hi ⊢
      rw [snoc_get] at hi; cases hi
      rw [hown, hnum]
/-- Of two acts of a trace, the earlier one is ahead just if the later one's clock tells so. -/
theorem InvC.ahead {l : List TA} {th sg : Int → Int → Int} {cs : List (Int → Int)} (h : InvC l th sg cs) {i k : Nat} {a : TA} {ci ck : Int → Int} (hi : l[i]? = some a) (hci : cs[i]? = some ci) (hck : cs[k]? = some ck) : HB l i k ↔ i < k ∧ ci a.t ≤ ck a.t := by
  rw [h.clo i a ci hi hci]
  constructor
  · intro h1
    have hlt := h1.lt.1
    exact ⟨hlt, (h.cl k ck hck i a hi (by omega)).1 (.inr h1)⟩
  · rintro ⟨h1, h2⟩
    exact ((h.cl k ck hck i a hi (by omega)).2 h2).resolve_left (by omega)
end Go.Proofs.E
end
section
open Go Go.Gv
attribute [local irreducible] Go.Gv.WJ Go.Gv.OpJ Go.Gv.QJ Go.Gv.Spl Go.Gv.Req Go.Gv.IdxP Go.Gv.RegP Go.Gv.FinP Go.Gv.CellP Go.Gv.CellsP Go.Gv.ArrP Go.Gv.ArrsP Go.Gv.DropP Go.Gv.ByteP Go.Gv.StoreP
set_option maxRecDepth 100000
namespace Go.Proofs.E
def di (x : Int) : List D := [.v (.int .i64 x)]
abbrev clv (c : List Int) : AV := .d (.sl 1 (c.map di))
def clAt (c : List Int) (i : Int) : Int := if 0 ≤ i then c.getD i.toNat 0 else 0
theorem get_di {c : List Int} {i : Nat} (h : i < c.length) : (c.map di)[i]? = some (di (c.getD i 0)) := by simp [List.getD_eq_getElem?_getD, h]
theorem clAt_nat (c : List Int) (i : Nat) : clAt c i = c.getD i 0 := by simp [clAt]
theorem At13_c (c : List Int) (i : Int) : Cv 131 [clv c, iv i] (iv (clAt c i)) := by
  refine Ct.of_vc Tryz.f131 Tryz.func131 rfl rfl fun w H B g0 => ?_
  refine Spl.of (fun h => ?_) (fun h => ?_)
  · have h := of_decide_eq_true h
    (repeat (first | refine Spl.t rfl ?_ | refine Spl.f rfl ?_))
    exact FinP.open rfl (congrArg iv (by simp [clAt, show ¬ 0 ≤ i from by omega]))
  · have h := of_decide_eq_false h
    (repeat (first | refine Spl.t rfl ?_ | refine Spl.f rfl ?_))
    refine Spl.of (fun h1 => ?_) (fun h1 => ?_)
    · have h1 := of_decide_eq_true h1
      simp at h1
      (repeat (first | refine Spl.t rfl ?_ | refine Spl.f rfl ?_))
      refine FinP.open rfl (congrArg iv ?_)
      rw [clAt, if_pos (by omega), List.getD_eq_getElem?_getD, List.getElem?_eq_none (by omega)]; rfl
    · have h1 := of_decide_eq_false h1
      simp at h1
      (repeat (first | refine Spl.t rfl ?_ | refine Spl.f rfl ?_))
      refine IdxP.of (di (c.getD i.toNat 0)) (by omega) (get_di (by omega)) ?_
      exact FinP.open rfl (congrArg iv (by rw [clAt, if_pos (by omega)]))
theorem Clone13_c (c : List Int) (hc : c.length ≤ 1000000) : Ct tab Tryz.prog 207 [clv c] [] (fun q σ' => (q = .arr 7 1 c.length ∧ σ' = [(7, .arr 1 (c.map di))]) ∨ (c = [] ∧ q = .d (.v (.slice none 0 0)) ∧ σ' = [])) := by
  refine Ct.of_vc Tryz.f207 Tryz.func207 rfl rfl fun w H B g0 => ?_
  refine O.eqNil rfl rfl rfl rfl fun b hb => ?_
  cases b with
  | true =>
    have h1 := hb rfl
    have h2 : c = [] := by simpa using h1
    (repeat (first | refine Spl.t rfl ?_ | refine Spl.f rfl ?_))
    exact FinP.open rfl (.inr ⟨h2, rfl, rfl⟩)
  | false =>
    (repeat (first | refine Spl.t rfl ?_ | refine Spl.f rfl ?_))
    refine O.appF rfl rfl (.full _ _) rfl rfl rfl rfl (by show 0 + _ ≤ _; rw [List.length_map]; omega) (.inr rfl) ?_
    (repeat (first | refine Spl.t rfl ?_ | refine Spl.f rfl ?_))
    refine FinP.priv [(7, .arr 1 (c.map di))] (Wk.cons rfl (Wk.nil _)) rfl (.inl ⟨?_, rfl⟩)
    show AV.arr 7 1 (0 + _) = _
    rw [List.length_map, Nat.zero_add]
def wideL (c : List Int) (n : Int) : List Int := c ++ List.replicate (n.toNat - c.length) 0
theorem wideL_len (c : List Int) (n : Int) : (wideL c n).length = max c.length n.toNat := by simp [wideL]; omega
theorem wideL_getD (c : List Int) (n : Int) (i : Nat) : (wideL c n).getD i 0 = c.getD i 0 := by
  simp only [wideL, List.getD_eq_getElem?_getD]
  by_cases h : i < c.length
  · rw [List.getElem?_append_left h]
  · rw [List.getElem?_append_right (by omega), List.getElem?_eq_none (l := c) (by omega), List.getElem?_replicate]
    split <;> rfl
theorem Wide13_c (c : List Int) (n : Int) (hc : c.length ≤ 1000000) (hn : n ≤ 1000000) : Ct tab Tryz.prog 166 [clv c, iv n] [] (fun q σ' => q = .arr 7 1 (wideL c n).length ∧ σ' = [(7, .arr 1 ((wideL c n).map di))]) := by
  refine Ct.of_vc Tryz.f166 Tryz.func166 rfl rfl fun w H B g0 => ?_
  refine OpJ.call (Clone13_c c hc) (fun _ _ => rfl) rfl rfl (Wk.nil _) ?_
  rintro q σ' (⟨rfl, rfl⟩ | ⟨h0, rfl, rfl⟩)
  · refine ⟨rfl, ?_⟩
    refine WJ.shift (SJ.wk (t' := [(1, iv n), (5, .arr 7 1 c.length)]) (σ' := [(7, .arr 1 (c.map di))]) (Wk.cons rfl (Wk.cons rfl (Wk.nil _))) (Wk.cons rfl (Wk.nil _))) ?_
    refine WJ.loopK (V := Nat) (fun k => [(5, .arr 7 1 (c.length + k))]) (fun k => [(7, .arr 1 ((c ++ List.replicate k 0).map di))]) [7] (fun k => n.toNat - c.length - k) (fun k => k ≤ n.toNat - c.length) 0 (Nat.zero_le _) (by repeat' (first | exact trivial | exact rfl | refine And.intro ?_ ?_)) ⟨by show some (Ent.arr 1 _) = _; simp, trivial⟩ ?_
    intro k hk
    refine Spl.of (fun h => ?_) (fun h => ?_)
    · have h := of_decide_eq_true h
      (repeat (first | refine Spl.t rfl ?_ | refine Spl.f rfl ?_))
      refine Req.of ⟨by simp, ?_⟩ ?_
      · show c.length + k + 1 ≤ 1000000000; omega
      refine ⟨k + 1, by omega, by omega, (by repeat' (first | exact trivial | exact rfl | refine And.intro ?_ ?_)), (by repeat' (first | exact trivial | exact rfl | refine And.intro ?_ ?_)), ⟨?_, trivial⟩, (by repeat' (first | exact trivial | exact rfl | refine And.intro ?_ ?_))⟩
      show some (Ent.arr 1 (_ ++ [di 0])) = _
      rw [List.replicate_succ', ← List.append_assoc, List.map_append (l₂ := [(0 : Int)])]; rfl
    · have h := of_decide_eq_false h
      obtain rfl : k = n.toNat - c.length := by omega
      (repeat (first | refine Spl.t rfl ?_ | refine Spl.f rfl ?_))
      refine FinP.priv [(7, .arr 1 ((wideL c n).map di))] (Wk.cons rfl (Wk.nil _)) rfl ⟨?_, rfl⟩
      show AV.arr 7 1 _ = _
      simp [wideL]
  · refine ⟨rfl, ?_⟩
    refine WJ.shift (SJ.nilArr 7 5 1 rfl rfl) ?_
    refine WJ.loopK (V := Nat) (fun k => [(5, .arr 7 1 (c.length + k))]) (fun k => [(7, .arr 1 ((c ++ List.replicate k 0).map di))]) [7] (fun k => n.toNat - c.length - k) (fun k => k ≤ n.toNat - c.length) 0 (Nat.zero_le _) ⟨by rw [h0]; rfl, trivial⟩ ⟨by rw [h0]; rfl, trivial⟩ ?_
    intro k hk
    refine Spl.of (fun h => ?_) (fun h => ?_)
    · have h := of_decide_eq_true h
      (repeat (first | refine Spl.t rfl ?_ | refine Spl.f rfl ?_))
      refine Req.of ⟨by simp, ?_⟩ ?_
      · show c.length + k + 1 ≤ 1000000000; omega
      refine ⟨k + 1, by omega, by omega, (by repeat' (first | exact trivial | exact rfl | refine And.intro ?_ ?_)), (by repeat' (first | exact trivial | exact rfl | refine And.intro ?_ ?_)), ⟨?_, trivial⟩, (by repeat' (first | exact trivial | exact rfl | refine And.intro ?_ ?_))⟩
      show some (Ent.arr 1 (_ ++ [di 0])) = _
      rw [List.replicate_succ', ← List.append_assoc, List.map_append (l₂ := [(0 : Int)])]; rfl
    · have h := of_decide_eq_false h
      obtain rfl : k = n.toNat - c.length := by omega
      (repeat (first | refine Spl.t rfl ?_ | refine Spl.f rfl ?_))
      refine FinP.priv [(7, .arr 1 ((wideL c n).map di))] (Wk.cons rfl (Wk.nil _)) rfl ⟨?_, rfl⟩
      show AV.arr 7 1 _ = _
      simp [wideL]
end Go.Proofs.E
end
section
open Go Go.Gv
attribute [local irreducible] Go.Gv.WJ Go.Gv.OpJ Go.Gv.QJ Go.Gv.Spl Go.Gv.Req Go.Gv.IdxP Go.Gv.RegP Go.Gv.FinP Go.Gv.CellP Go.Gv.CellsP Go.Gv.ArrP Go.Gv.ArrsP Go.Gv.DropP Go.Gv.ByteP Go.Gv.StoreP
set_option maxRecDepth 100000
namespace Go.Proofs.E
def w64 (x : Int) : Int := IntKind.i64.wrap x
def tickL (c : List Int) (i : Int) : List Int := if 0 ≤ i ∧ i < 16 then (wideL c (i + 1)).set i.toNat (w64 ((wideL c (i + 1)).getD i.toNat 0 + 1)) else wideL c 0
def jn (w d : List Int) (k : Nat) : List Int := w.mapIdx fun i x => if i < k then mx x (clAt d i) else x
def joinL (c d : List Int) : List Int := jn (wideL c d.length) d (wideL c d.length).length
theorem jn_zero (w d : List Int) : jn w d 0 = w := by
  apply List.ext_getElem?
  intro i
  simp [jn]
theorem jn_len (w d : List Int) (k : Nat) : (jn w d k).length = w.length := by simp [jn]
theorem jn_get (w d : List Int) (k : Nat) (h : k < w.length) : (jn w d k)[k]? = some (w.getD k 0) := by
  simp [jn, List.getD_eq_getElem?_getD, h]
theorem jn_set (w d : List Int) (k : Nat) (h : k < w.length) : (jn w d k).set k (mx (w.getD k 0) (clAt d k)) = jn w d (k + 1) := by
  apply List.ext_getElem?
  intro i
  rw [List.getElem?_set]
  simp only [jn, List.length_mapIdx, List.getElem?_mapIdx]
  by_cases e : k = i
  · subst e
    simp [h, List.getD_eq_getElem?_getD]
  · rw [if_neg e]
    by_cases h1 : i < k
    · simp [h1, show i < k + 1 from by omega]
    · simp [h1, show ¬ i < k + 1 from by omega]
theorem joinL_len (c d : List Int) : (joinL c d).length = max c.length d.length := by rw [joinL, jn_len, wideL_len]; omega
theorem tickL_len (c : List Int) {i : Int} (h0 : 0 ≤ i) (h1 : i < 16) : (tickL c i).length = max c.length (i.toNat + 1) := by
  rw [tickL, if_pos ⟨h0, h1⟩, List.length_set, wideL_len]; omega
theorem getD_none {c : List Int} {i : Nat} (h : c.length ≤ i) : c.getD i 0 = 0 := by rw [List.getD_eq_getElem?_getD, List.getElem?_eq_none h]; rfl
theorem joinL_at (c d : List Int) (x : Int) : clAt (joinL c d) x = mx (clAt c x) (clAt d x) := by
  by_cases h0 : 0 ≤ x
  · rw [clAt, clAt, clAt, if_pos h0, if_pos h0, if_pos h0]
    generalize x.toNat = i
    by_cases h : i < (wideL c d.length).length
    · have : (joinL c d)[i]? = some (mx ((wideL c d.length).getD i 0) (clAt d i)) := by
        simp [joinL, jn, h, List.getD_eq_getElem?_getD]
      rw [List.getD_eq_getElem?_getD, this, Option.getD_some, wideL_getD, clAt_nat]
    · have h' := h
      rw [wideL_len] at h'
      rw [getD_none (by rw [joinL_len]; omega), getD_none (by omega), getD_none (by omega)]
      rfl
  · rw [clAt, clAt, clAt, if_neg h0, if_neg h0, if_neg h0]; rfl
theorem tickL_at {c : List Int} {i : Int} (h0 : 0 ≤ i) (h1 : i < 16) (x : Int) (hb : -1000000 ≤ clAt c i ∧ clAt c i ≤ 1000000) : clAt (tickL c i) x = clAt c x + (if x = i then 1 else 0) := by
  have hl := wideL_len c (i + 1)
  rw [tickL, if_pos ⟨h0, h1⟩, wideL_getD]
  by_cases hx : x = i
  · subst hx
    rw [if_pos rfl, clAt, if_pos h0, List.getD_eq_getElem?_getD, List.getElem?_set, if_pos rfl, if_pos (by omega), Option.getD_some, clAt, if_pos h0]
    rw [clAt, if_pos h0] at hb
    exact wrap_id _ (by omega) (by omega)
  · rw [if_neg hx, Int.add_zero]
    by_cases h2 : 0 ≤ x
    · rw [clAt, clAt, if_pos h2, if_pos h2, List.getD_eq_getElem?_getD, List.getElem?_set, if_neg (by omega), ← List.getD_eq_getElem?_getD, wideL_getD]
    · rw [clAt, clAt, if_neg h2, if_neg h2]
theorem set_di (W : List Int) (i : Nat) (v : Int) : (W.map di).set i (di v) = (W.set i v).map di := by rw [List.map_set]
theorem Tick13_c (c : List Int) (i : Int) (hc : c.length ≤ 1000000) (h0 : 0 ≤ i) (h1 : i < 16) : Cv 130 [clv c, iv i] (clv (tickL c i)) := by
  have hw : IntKind.i64.wrap (i + 1) = i + 1 := wrap_id _ (by omega) (by omega)
  have hwd := Wide13_c c (i + 1) hc (by omega)
  have hl := wideL_len c (i + 1)
  have e : tickL c i = (wideL c (i + 1)).set i.toNat (w64 ((wideL c (i + 1)).getD i.toNat 0 + 1)) := if_pos ⟨h0, h1⟩
  have hg : (wideL c (i + 1))[i.toNat]? = some ((wideL c (i + 1)).getD i.toNat 0) := by
    rw [List.getD_eq_getElem?_getD, List.getElem?_eq_getElem (by omega)]; rfl
  rw [e]
  rw [← hw] at hwd
  refine Ct.of_vc Tryz.f130 Tryz.func130 rfl rfl fun w H B g0 => ?_
  refine Spl.f (decide_eq_false (by omega)) ?_
  (repeat (first | refine Spl.t rfl ?_ | refine Spl.f rfl ?_))
  refine Spl.f (decide_eq_false (by omega)) ?_
  (repeat (first | refine Spl.t rfl ?_ | refine Spl.f rfl ?_))
  refine OpJ.call hwd (fun _ _ => rfl) rfl rfl (Wk.nil _) ?_
  rw [hw]
  generalize wideL c (i + 1) = W at hl hg ⊢
  rintro q σ' ⟨rfl, rfl⟩
  refine ⟨rfl, ?_⟩
  (repeat (first | refine Spl.t rfl ?_ | refine Spl.f rfl ?_))
  have hg2 : (W.map di)[i.toNat]? = some (di (W.getD i.toNat 0)) := get_di (by omega)
  refine Req.of ⟨h0, by omega⟩ ?_
  refine ArrP.of i.toNat 0 _ (.v (.int .i64 (W.getD i.toNat 0))) (by show i.toNat * 1 = _; omega) hg2 rfl ?_
  (repeat (first | refine Spl.t rfl ?_ | refine Spl.f rfl ?_))
  refine Req.of ⟨h0, by omega⟩ ?_
  refine StoreP.of i.toNat 0 _ (by show i.toNat * 1 = _; omega) hg2 (Nat.le_refl 1) rfl ?_
  (repeat (first | refine Spl.t rfl ?_ | refine Spl.f rfl ?_))
  refine FinP.pubA 7 rfl (by simp) (by omega) ?_
  refine FinP.open rfl ?_
  rw [List.take_of_length_le (by simp)]
  exact congrArg (fun x => AV.d (D.sl 1 x)) (set_di W i.toNat _)
theorem Join13_c (c d : List Int) (hc : c.length ≤ 1000000) (hd : d.length ≤ 1000000) : Cv 129 [clv c, clv d] (clv (joinL c d)) := by
  have hl := wideL_len c d.length
  have hld : ((d.map di).length : Int) = (d.length : Int) := by rw [List.length_map]
  have hwd := Wide13_c c ((d.map di).length : Nat) hc (by omega)
  have hw : wideL c ((d.map di).length : Nat) = wideL c d.length := by rw [hld]
  rw [hw] at hwd
  refine Ct.of_vc Tryz.f129 Tryz.func129 rfl rfl fun w H B g0 => ?_
  refine OpJ.call hwd (fun _ _ => rfl) rfl rfl (Wk.nil _) ?_
  have hj : joinL c d = jn (wideL c d.length) d (wideL c d.length).length := rfl
  rw [hj]
  generalize wideL c d.length = W at hl ⊢
  rintro q σ' ⟨rfl, rfl⟩
  refine ⟨rfl, ?_⟩
  refine WJ.loopK (V := Nat) (fun k => [(12, iv W.length), (13, iv k)]) (fun k => [(7, .arr 1 ((jn W d k).map di))]) [7] (fun k => W.length - k) (fun k => k ≤ W.length) 0 (Nat.zero_le _) (by repeat' (first | exact trivial | exact rfl | refine And.intro ?_ ?_)) ⟨by rw [jn_zero]; rfl, trivial⟩ ?_
  intro k hk
  refine Spl.of (fun h => ?_) (fun h => ?_)
  · have h := of_decide_eq_true h
    have hlt : k < W.length := by omega
    have hjl := jn_len W d k
    have hg := jn_get W d k hlt
    have hg2 : ((jn W d k).map di)[k]? = some (di (W.getD k 0)) := by rw [List.getElem?_map, hg]; rfl
    (repeat (first | refine Spl.t rfl ?_ | refine Spl.f rfl ?_))
    refine RegP.mix 10 rfl (by decide +kernel) ?_
    refine Req.of ⟨by omega, by omega⟩ ?_
    refine ArrP.of k 0 _ (.v (.int .i64 (W.getD k 0))) (by show (k : Int).toNat * 1 = _; omega) hg2 rfl ?_
    refine QuietP.of (QJ.call (At13_c d k) (fun _ _ => rfl) rfl rfl) ?_
    refine Req.of ⟨by omega, by omega⟩ ?_
    refine StoreP.of k 0 _ (by show (k : Int).toNat * 1 = _; omega) hg2 (Nat.le_refl 1) rfl ?_
    (repeat' (refine And.intro ?_ ?_))
    (repeat (first | refine Spl.t rfl ?_ | refine Spl.f rfl ?_))
    all_goals first | exact trivial | skip
    refine ⟨k + 1, by omega, by omega, ⟨rfl, some_iv (wrap_id _ (by omega) (by omega)), trivial⟩, (by repeat' (first | exact trivial | exact rfl | refine And.intro ?_ ?_)), ⟨?_, trivial⟩, (by repeat' (first | exact trivial | exact rfl | refine And.intro ?_ ?_))⟩
    show some (Ent.arr 1 (List.set _ _ (di _))) = _
    rw [set_di]
    exact congrArg (fun x => some (Ent.arr 1 (x.map di))) (jn_set W d k hlt)
  · have h := of_decide_eq_false h
    obtain rfl : k = W.length := by omega
    (repeat (first | refine Spl.t rfl ?_ | refine Spl.f rfl ?_))
    refine FinP.pubA 7 rfl (by rw [List.length_map, jn_len]; exact Nat.le_refl _) (by omega) ?_
    refine FinP.open rfl ?_
    rw [List.take_of_length_le (by rw [List.length_map, jn_len]; exact Nat.le_refl _)]
end Go.Proofs.E
end
