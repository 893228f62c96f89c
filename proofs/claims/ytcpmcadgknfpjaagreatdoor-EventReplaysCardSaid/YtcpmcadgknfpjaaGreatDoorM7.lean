/- Laws that the claim's text stands on: A region that draws its order, in which some stores into private variables do not wait for what stands ahead of them; A version: an operation that can be applied is taken in; A version: an operation of another replica, by the closure that takes it in; A version: an operation of another replica; A version, as the document has it: an operation of another replica; A version: Insert and Delete of this replica; A version, as the document has it: Insert and Delete of this replica; A version: the law's comparisons; A version: an act, by the program and by the document; A room of operations that wait: the law's example; A version: the law's example; A version: the law VersionPlays; A cursor: what its calls answer, and the document's; A cursor, as the document has it; the law's versions; A version: what an insert and a delete of its own come to; A version: the insert and the delete of its own that are done; A cursor: where it is behind an insert, or a delete; Texts as runes: the conversions between strings and rows of runes; A version: its text as runes, behind an insert and a delete; Events: their kinds, what they tell of; a text behind a change; Events: what they lead to; the changes of applied operations; A version: the law VersionEdits; A private row is given up, and begun anew; Events: the law's example; the law EventReplays. -/
import Derived.Test.YtcpmcadgknfpjaaGreatDoorM1
import Derived.Test.YtcpmcadgknfpjaaGreatDoorM2
import Derived.Test.YtcpmcadgknfpjaaGreatDoorM3
import Derived.Test.YtcpmcadgknfpjaaGreatDoorDShelf
import Derived.Test.YtcpmcadgknfpjaaGreatDoorM4
import Derived.Test.YtcpmcadgknfpjaaGreatDoorM5
import Derived.Test.YtcpmcadgknfpjaaGreatDoorM6
import Derived.Laws.IdiomStrings
import Derived.Laws.Cover4
import Derived.Laws.Runes
import Derived.Lib.RuneBytes
set_option linter.unusedVariables false
set_option linter.unusedSimpArgs false
section
namespace Go.Gv
open Go.RowKit
/-- What is private, some of the variables stored into anew. -/
def sAt (F : Nat → Option (Nat × Ent × Ent)) (S : Nat → Bool) (σ : Sg) : Nat → Sg
  | 0 => σ
  | k + 1 => match F k with
    | some (i, e, f) => (i, match S k with | true => f | false => e) :: sAt F S σ k
    | none => sAt F S σ k
theorem sAt_congr {F : Nat → Option (Nat × Ent × Ent)} {S S' : Nat → Bool} {σ : Sg} : ∀ k, (∀ j, j < k → F j ≠ none → S j = S' j) → sAt F S σ k = sAt F S' σ k
  | 0, _ => rfl
  | k + 1, h => by
    simp only [sAt]
    rw [sAt_congr k fun j hj => h j (by omega)]
    cases hE : F k with
    | none => rfl
    | some p => simp only [h k (by omega) (by rw [hE]; exact fun h => by cases h)]
theorem sAt_old {F : Nat → Option (Nat × Ent × Ent)} {S : Nat → Bool} {σ : Sg} {x : Nat} {a : Ent} {m : Nat} (hx : look x σ = some a) (hn : ∀ i y e f, i < m → F i = some (y, e, f) → y ≠ x) : ∀ k, k ≤ m → look x (sAt F S σ k) = some a
  | 0, _ => hx
  | k + 1, hk => by
    have ih := sAt_old (S := S) hx hn k (by omega)
    simp only [sAt]
    cases hF : F k with
    | none => exact ih
    | some q =>
      obtain ⟨y, e, f⟩ := q
      simp only
      rw [look_cons, if_neg (fun h => hn k y e f (by omega) hF h.symm)]
      exact ih
theorem sAt_is {F : Nat → Option (Nat × Ent × Ent)} {S : Nat → Bool} {σ : Sg} {m : Nat} (hd : ∀ i j x e f e' f', i < m → j < m → F i = some (x, e, f) → F j = some (x, e', f') → i = j) {i x : Nat} {e f : Ent} (him : i < m) (hE : F i = some (x, e, f)) :
    ∀ k, k ≤ m → i < k → look x (sAt F S σ k) = some (match S i with | true => f | false => e)
  | 0, _, h => by omega
  | k + 1, hk, h => by
    by_cases hik : i = k
    · subst hik
      simp only [sAt, hE, look_cons, if_true]
    · have ih := sAt_is (S := S) (σ := σ) hd him hE k (by omega) (by omega)
      simp only [sAt]
      cases hF : F k with
      | none => exact ih
      | some q =>
        obtain ⟨y, e', f'⟩ := q
        simp only
        rw [look_cons, if_neg (fun h => hik (by subst h; exact hd i k _ _ _ _ _ him (by omega) hE hF))]
        exact ih
theorem sAt_step {F : Nat → Option (Nat × Ent × Ent)} {S : Nat → Bool} {σ : Sg} {m : Nat} (hd : ∀ i j x e f e' f', i < m → j < m → F i = some (x, e, f) → F j = some (x, e', f') → i = j) {i x : Nat} {e f : Ent} (him : i < m) (hE : F i = some (x, e, f)) {y : Nat} :
    ∀ k, k ≤ m → i < k → look y (sAt F (fun j => if j = i then true else S j) σ k) = if y = x then some f else look y (sAt F S σ k) := by
  have same : ∀ k, k ≤ i → sAt F (fun j => if j = i then true else S j) σ k = sAt F S σ k := fun k hk => sAt_congr k fun j hj _ => if_neg (by omega)
  intro k
  induction k with
  | zero => intro _ h; omega
  | succ k ih =>
    intro hk h
    by_cases hik : i = k
    · subst hik
      simp only [sAt, hE, if_true, look_cons]
      split
      · rfl
      · rw [same i (Nat.le_refl _)]
    · have ih := ih (by omega) (by omega)
      simp only [sAt]
      cases hF : F k with
      | none => exact ih
      | some q =>
        obtain ⟨z, e', f'⟩ := q
        have hz : z ≠ x := fun h => hik (by subst h; exact hd i k _ _ _ _ _ him (by omega) hE hF)
        have hki : (if k = i then true else S k) = S k := if_neg (fun h => hik h.symm)
        simp only [hki]
        rw [look_cons, look_cons]
        by_cases hy : y = z
        · rw [if_pos hy, if_pos hy, if_neg (fun h => hz (hy.symm.trans h))]
        · rw [if_neg hy, if_neg hy]; exact ih
theorem listT (f : Nat → Option AV) : ∀ n, ∃ t : T, ∀ x, look x t = if x < n then f x else none
  | 0 => ⟨[], fun x => by rw [if_neg (by omega)]; rfl⟩
  | n + 1 => by
    obtain ⟨t, ht⟩ := listT f n
    cases hf : f n with
    | none =>
      refine ⟨t, fun x => ?_⟩
      rw [ht]
      by_cases e : x = n
      · subst e; rw [if_neg (by omega), if_pos (by omega), hf]
      · by_cases h : x < n
        · rw [if_pos h, if_pos (by omega)]
        · rw [if_neg h, if_neg (by omega)]
    | some v =>
      refine ⟨(n, v) :: t, fun x => ?_⟩
      rw [look_cons]
      by_cases e : x = n
      · subst e; rw [if_pos rfl, if_pos (by omega), hf]
      · rw [if_neg e, ht]
        by_cases h : x < n
        · rw [if_pos h, if_pos (by omega)]
        · rw [if_neg h, if_neg (by omega)]
/-- A store into a private variable, whenever it is done. -/
def StoreJ (X : Cx) (o : Oper) (t : T) (id : Nat) (e f : Ent) : Prop :=
  o.guard = none ∧ o.dst = none ∧ ∀ (t' : T) (σ' : Sg), (∀ x, x ∈ o.op.operands → ∀ v, ge t x = some v → ge t' x = some v) → look id σ' = some e → OpJ X o t' σ' (fun t2 σ2 => t2 = t' ∧ σ2 = (id, f) :: σ')
def SStep (X : Cx) (all : Array Oper) (o : Oper) (t : T) (σ : Sg) (V : AV) (F : Option (Nat × Ent × Ent)) : Prop :=
  (F = none ∧ OStep X all o t σ V) ∨ (∃ id e f, F = some (id, e, f) ∧ StoreJ X o t id e f)
theorem calm_anyS {X : Cx} {all : Array Oper} {m : Nat} {t0 : T} {σ : Sg} {V : Nat → AV} {F : Nat → Option (Nat × Ent × Ent)} {Q' : Exit → Act → World → Prop} (hc : CalmR all m) (hm : m ≤ all.size)
    (hstep : ∀ i o, i < m → all[i]? = some o → SStep X all o (states all V t0 i) σ (V i) (F i) ∧ dOk o.dst X.N = true)
    (hds : ∀ i j x e f e' f', i < m → j < m → F i = some (x, e, f) → F j = some (x, e', f') → i = j) (hout : ∀ i x e f, i < m → F i = some (x, e, f) → look x σ = none)
    (hend : ∀ γ H a w listed, St X γ H (states all V t0 m) (sAt F (fun _ => true) σ m) a w → listed.size = all.size → (∀ j, j < all.size → listed.getD j false = decide (j < m)) → wpAnyIn (Fr X.ro) 0 X.P .any all Q' (all.size - m) listed a w) :
    ∀ (fuel : Nat) (listed : Array Bool) (γ : Ids) (H : HF) (a : Act) (w : World), listed.size = all.size →
      (∀ j, m ≤ j → listed.getD j false = false) → (∀ i o, listed.getD i false = true → all[i]? = some o → ∀ e, e ∈ o.after → Region.binds .any e = true → listed.getD e.on false = true) →
      ((List.range m).filter fun j => !listed.getD j false).length + (all.size - m) = fuel →
      TabOk γ H (tabAt all V t0 (fun j => listed.getD j false) m) a.tmps → St X γ H [] (sAt F (fun j => listed.getD j false) σ m) a w →
      wpAnyIn (Fr X.ro) 0 X.P .any all Q' fuel listed a w := by
  intro fuel
  induction fuel with
  | zero =>
    intro listed γ H a w hs htail hclosed hcount htab sst
    have hall : ∀ j, j < m → listed.getD j false = true := fun j hj => by
      have h0 : ((List.range m).filter fun j => !listed.getD j false) = [] := List.length_eq_zero_iff.1 (by omega)
      have := List.filter_eq_nil_iff.1 h0 j (List.mem_range.2 hj)
      simpa using this
    have hmn : m = all.size := by omega
    have hst : St X γ H (states all V t0 m) (sAt F (fun _ => true) σ m) a w := St.withT (by have h9 := sst; rw [sAt_congr (S' := fun _ => true) m (fun j hj _ => hall j hj)] at h9; exact h9) (fun i b hi => htab i b (by
      rw [look_states] at hi
      rw [← hi]
      simp only [tabAt]
      rw [lastW_congr m (fun j hj _ => hall j hj)]))
    have := hend γ H a w listed hst hs (fun j hj => by rw [hall j (by omega)]; simp; omega)
    rw [show all.size - m = 0 from by omega] at this; exact this
  | succ fuel ih =>
    intro listed γ H a w hs htail hclosed hcount htab sst
    by_cases hall : ∀ j, j < m → listed.getD j false = true
    · -- the calm part is over
      have hst : St X γ H (states all V t0 m) (sAt F (fun _ => true) σ m) a w := St.withT (by have h9 := sst; rw [sAt_congr (S' := fun _ => true) m (fun j hj _ => hall j hj)] at h9; exact h9) (fun i b hi => htab i b (by
        rw [look_states] at hi
        rw [← hi]
        simp only [tabAt]
        rw [lastW_congr m (fun j hj _ => hall j hj)]))
      have h0 : ((List.range m).filter fun j => !listed.getD j false) = [] := List.filter_eq_nil_iff.2 fun j hj => by simp only [hall j (List.mem_range.1 hj)]; simp
      rw [h0] at hcount
      simp only [List.length_nil, Nat.zero_add] at hcount
      have := hend γ H a w listed hst hs (fun j hj => by
        by_cases hj' : j < m
        · rw [hall j hj']; simp [hj']
        · rw [htail j (by omega)]; simp; omega)
      rw [hcount] at this
      exact this
    · refine ⟨fun hn => ?_, fun i hi => ?_⟩
      · -- the least that is not listed is ready
        exfalso
        have hex : ∃ j, j < m ∧ listed.getD j false = false := by
          refine Classical.byContradiction fun hno => hall fun j hj => ?_
          cases hx : listed.getD j false with
          | true => rfl
          | false => exact absurd ⟨j, hj, hx⟩ hno
        have hmin : ∃ j, j < m ∧ listed.getD j false = false ∧ ∀ i, i < j → listed.getD i false = true := by
          obtain ⟨j, hj⟩ := hex
          induction j using Nat.strongRecOn with
          | _ j ihj =>
            by_cases hlow : ∀ i, i < j → listed.getD i false = true
            · exact ⟨j, hj.1, hj.2, hlow⟩
            · have : ∃ i, i < j ∧ listed.getD i false = false := by
                refine Classical.byContradiction fun hno => hlow fun i hi => ?_
                cases hx : listed.getD i false with
                | true => rfl
                | false => exact absurd ⟨i, hi, hx⟩ hno
              obtain ⟨i, hi, hx⟩ := this
              exact ihj i hi ⟨by omega, hx⟩
        obtain ⟨j, hj, hjl, hlow⟩ := hmin
        have hjn : j < all.size := by omega
        have hmem' : j ∈ Region.ready .any all listed := by
          rw [mem_ready]
          refine ⟨?_, all[j], by simp [hjn], fun e he hb => hlow _ (hc.back j all[j] (by simp [hjn]) e he hb)⟩
          rw [Array.getD_eq_getD_getElem?] at hjl ⊢
          rw [Array.getElem?_eq_getElem (by omega)] at hjl ⊢
          simpa using hjl
        rw [hn] at hmem'; cases hmem'
      · obtain ⟨h1, o, ho, h2⟩ := ready_sound hi
        obtain ⟨hil, hif⟩ := getD_of h1
        have hin : i < all.size := (Array.getElem?_eq_some_iff.1 ho).1
        have him : i < m := by
          refine Classical.byContradiction fun hge => hall fun j hj => ?_
          exact anc_listed hclosed (hc.tail i o ho (by omega) j hj) ho h2
        -- who writes what i names: listed just if it stands ahead
        have hwr : ∀ x, namesT all o x = true → ∀ j, j < m → dstAt all j = some x → listed.getD j false = decide (j < i) := by
          intro x hx j hj hd'
          cases hp : all[j]? with
          | none => simp [dstAt, hp] at hd'
          | some p =>
            simp only [dstAt, hp, Option.bind_some] at hd'
            by_cases hji : j < i
            · rcases hc.names i o (by omega) ho j p hji hp with h3 | ⟨h3, _⟩
              · rw [edge_listed h3 h2]; simp [hji]
              · rw [h3 x hd'] at hx; cases hx
            · by_cases e : j = i
              · subst e; rw [hif]; simp
              · rcases hc.names j p (by omega) hp i o (by omega) ho with h3 | ⟨_, h3⟩
                · cases hlj : listed.getD j false with
                  | false => simp; omega
                  | true =>
                    have := edge_listed h3 (hclosed j p hlj hp)
                    rw [hif] at this; cases this
                · rw [h3 x hd'] at hx; cases hx
        have htab_i : ∀ x, namesT all o x = true → tabAt all V t0 (fun j => listed.getD j false) m x = look x (states all V t0 i) := by
          intro x hx
          rw [look_states]
          simp only [tabAt]
          rw [lastW_congr m (fun j hj hd' => hwr x hx j hj hd'), lastW_top m (by omega)]
        have hopnd : ∀ x, x ∈ o.op.operands → ∀ v, ge (states all V t0 i) x = some v → Rep γ H v (a.eval x) := by
          intro x hx v hv
          cases x with
          | tmp y =>
            have hy : namesT all o y = true := by
              simp only [namesT, Bool.or_eq_true]
              exact .inl (.inr (List.any_eq_true.2 ⟨_, Array.mem_toList_iff.2 hx, by simp [hasT]⟩))
            obtain ⟨u, hu, hr⟩ := htab y v (by rw [htab_i y hy]; exact hv)
            simp only [Act.eval, Array.getD_eq_getD_getElem?, hu, Option.getD_some]
            exact hr
          | const c => simp only [ge, Option.some.injEq] at hv; subst hv; exact rep_const γ H c
          | func f => simp only [ge, Option.some.injEq] at hv; subst hv; exact .d _ _ (.fn f [] [] rfl (fun j a u h1 => by simp at h1))
          | global g => simp [ge] at hv
        obtain ⟨hos, hdok⟩ := hstep i o him ho
        -- how many are left
        have hleft : ((List.range m).filter fun j => !(listed.setIfInBounds i true).getD j false).length + (all.size - m) = fuel := by
          have hf : ((List.range m).filter fun j => !listed.getD j false).length = ((List.range m).filter fun j => !(listed.setIfInBounds i true).getD j false).length + 1 := by
            have h5 : ∀ (l : List Nat), l.Nodup → i ∈ l → (l.filter fun j => !listed.getD j false).length = (l.filter fun j => !(listed.setIfInBounds i true).getD j false).length + 1 := by
              intro l
              induction l with
              | nil => intro _ h; cases h
              | cons b l ihl =>
                intro hnd hmem'
                rw [List.nodup_cons] at hnd
                by_cases e : i = b
                · subst e
                  have h6 : (listed.setIfInBounds i true).getD i false = true := by
                    rw [Array.getD_eq_getD_getElem?]; simp [hil]
                  have h7 : (l.filter fun j => !listed.getD j false) = (l.filter fun j => !(listed.setIfInBounds i true).getD j false) := by
                    refine List.filter_congr fun j hj => ?_
                    have hne : i ≠ j := fun e => hnd.1 (e ▸ hj)
                    rw [getD_set_ne false hne]
                  simp only [List.filter_cons, hif, h6, Bool.not_false, Bool.not_true, if_true, h7, List.length_cons, Bool.false_eq_true, if_false]
                · have h6 := getD_set_ne (listed := listed) false e
                  have h7 := ihl hnd.2 (by rcases List.mem_cons.1 hmem' with h | h; exact absurd h e; exact h)
                  simp only [List.filter_cons, h6]
                  split <;> simp only [List.length_cons, h7]
            exact h5 _ List.nodup_range (List.mem_range.2 him)
          omega
        have hclosed' : ∀ j p, (listed.setIfInBounds i true).getD j false = true → all[j]? = some p → ∀ e, e ∈ p.after → Region.binds .any e = true → (listed.setIfInBounds i true).getD e.on false = true := fun j p hj hp e he hb => by
          by_cases e' : i = j
          · subst e'
            rw [ho] at hp; simp only [Option.some.injEq] at hp; subst hp
            exact getD_set_true (h2 e he hb)
          · rw [getD_set_ne false e'] at hj
            exact getD_set_true (hclosed j p hj hp e he hb)
        have htail' : ∀ j, m ≤ j → (listed.setIfInBounds i true).getD j false = false := fun j hj => by
          rw [getD_set_ne false (by omega)]; exact htail j hj
        have hset : (fun j => (listed.setIfInBounds i true).getD j false) = fun j => if j = i then true else listed.getD j false := funext fun j => by
          by_cases e : j = i
          · subst e; rw [if_pos rfl, Array.getD_eq_getD_getElem?]; simp [hil]
          · rw [if_neg e, getD_set_ne false (fun h => e h.symm)]
        -- behind a quiet one
        have hnext : F i = none → ∀ v γ' σ' H' w', Mem w H (fun _ => False) γ' H' σ' w' → Rep γ H' (V i) v → wpAnyIn (Fr X.ro) 0 X.P .any all Q' fuel (listed.setIfInBounds i true) (a.put o.dst v) w' := by
          intro hE v γ' σ' H' w' hm' hr
          have sst' : St X γ H' [] (sAt F (fun j => (listed.setIfInBounds i true).getD j false) σ m) (a.put o.dst v) w' := by
            have h9 := sst.calm (d := o.dst) hm' hdok hr
            rw [sAt_congr (S' := fun j => listed.getD j false) m (fun j hj hne => by
              have e' : i ≠ j := fun e => by subst e; exact hne hE
              exact getD_set_ne false e')]
            exact h9.wk (Wk.nil _) (Wk.refl _)
          refine ih _ γ H' _ w' (by simpa using hs) htail' hclosed' hleft ?_ sst'
          · -- the table
            intro x b hx
            by_cases hxd : o.dst = some x
            · have hlw : tabAt all V t0 (fun j => (listed.setIfInBounds i true).getD j false) m x = some (V i) := by
                have hnx : namesT all o x = true := by simp [namesT, hxd]
                simp only [tabAt]
                have : lastW all (fun j => (listed.setIfInBounds i true).getD j false) x m = lastW all (fun j => decide (j < i + 1)) x m := by
                  refine lastW_congr m fun j hj hd' => ?_
                  by_cases e : i = j
                  · subst e; rw [Array.getD_eq_getD_getElem?]; simp [hil]
                  · show (listed.setIfInBounds i true).getD j false = _
                    rw [getD_set_ne false e, hwr x hnx j hj hd']
                    simp; omega
                rw [this, lastW_top m (by omega)]
                have hda : dstAt all i = some x := by simp [dstAt, ho, hxd]
                simp [lastW, hda]
              rw [hlw] at hx
              simp only [Option.some.injEq] at hx
              subst hx
              have hlt : x < a.tmps.size := by have := sst.size; rw [hxd] at hdok; simp only [dOk, Nat.blt_eq] at hdok; omega
              exact ⟨v, by rw [hxd]; simp [Act.put, hlt], hr⟩
            · have hlw : tabAt all V t0 (fun j => (listed.setIfInBounds i true).getD j false) m x = tabAt all V t0 (fun j => listed.getD j false) m x := by
                simp only [tabAt]
                rw [lastW_congr m fun j hj hd' => ?_]
                have e : i ≠ j := fun e => by subst e; simp [dstAt, ho] at hd'; exact hxd hd'
                exact getD_set_ne false e
              rw [hlw] at hx
              obtain ⟨u, hu, hr'⟩ := htab x b hx
              refine ⟨u, ?_, hr'.mono hm'.hle⟩
              cases hod : o.dst with
              | none => simpa [Act.put, hod] using hu
              | some d =>
                have hne : d ≠ x := fun e => hxd (by rw [hod, e])
                simp only [Act.put]
                rw [Array.getElem?_setIfInBounds, if_neg hne]; exact hu
        have hmemσ : Mem X.w0 X.H0 X.B γ H σ w := sst.mem.wk (fun x e hx => sAt_old hx (fun j y e' f' hj hF hyx => by
          subst hyx
          rw [hout j _ _ _ hj hF] at hx; cases hx) m (Nat.le_refl _))
        -- its guard
        have hguard : ∀ j b' d b, o.guard = some (j, b') → ((all[j]?).bind (·.dst)) = some d → look d (states all V t0 i) = some (.d (.v (.bool b))) → yielded all a.tmps j = some b := by
          intro j b' d b hg hd' hl
          have hnd : namesT all o d = true := by simp [namesT, hg, hd']
          obtain ⟨u, hu, hr⟩ := htab d _ (by rw [htab_i d hnd]; exact hl)
          have := rep_v hr
          subst this
          simp [yielded, hd', hu]
        have hguardU : ∀ j b' d, o.guard = some (j, b') → ((all[j]?).bind (·.dst)) = some d → look d (states all V t0 i) = some (.tup []) → yielded all a.tmps j = none := by
          intro j b' d hg hd' hl
          have hnd : namesT all o d = true := by simp [namesT, hg, hd']
          obtain ⟨u, hu, hr⟩ := htab d _ (by rw [htab_i d hnd]; exact hl)
          have := rep_undef_eq hr
          subst this
          simp [yielded, hd', hu, undef]
        unfold wpOpIn
        simp only [ho]
        rcases hos with ⟨hE, ⟨hg, hq⟩ | ⟨j, b, d, hg, hd', hl, hq⟩ | ⟨j, b, b', d, hg, hd', hl, hne, hV⟩ | ⟨j, b, d, hg, hd', hl, hV⟩⟩ | ⟨id, en, en', hE, hst⟩
        · have hw : Region.wanted o (yielded all a.tmps) = true := by simp [Region.wanted, hg]
          rw [if_pos hw]
          exact ⟨fun _ _ => trivial, hq γ H a w sst.lam hopnd hmemσ _ _ (hnext hE)⟩
        · have hw : Region.wanted o (yielded all a.tmps) = true := by simp [Region.wanted, hg, hguard j b d b hg hd' hl]
          rw [if_pos hw]
          exact ⟨fun _ _ => trivial, hq γ H a w sst.lam hopnd hmemσ _ _ (hnext hE)⟩
        · have hw : Region.wanted o (yielded all a.tmps) = false := by simp [Region.wanted, hg, hguard j b d b' hg hd' hl, hne]
          simp only [hw, Bool.false_eq_true, if_false]
          exact ⟨fun _ _ => trivial, hnext hE undef γ [] H w (sst.mem.refl γ) (by rw [hV]; exact rep_undef)⟩
        · have hw : Region.wanted o (yielded all a.tmps) = false := by simp [Region.wanted, hg, hguardU j b d hg hd' hl]
          simp only [hw, Bool.false_eq_true, if_false]
          exact ⟨fun _ _ => trivial, hnext hE undef γ [] H w (sst.mem.refl γ) (by rw [hV]; exact rep_undef)⟩
        · obtain ⟨hg, hd0, hj⟩ := hst
          have hw : Region.wanted o (yielded all a.tmps) = true := by simp [Region.wanted, hg]
          rw [if_pos hw]
          refine ⟨fun _ _ => trivial, ?_⟩
          -- all temporaries, told as a list
          obtain ⟨tc, htc⟩ : ∃ tc : T, ∀ x, look x tc = tabAt all V t0 (fun j => listed.getD j false) m x := by
            obtain ⟨tc, h5⟩ := listT (fun x => tabAt all V t0 (fun j => listed.getD j false) m x) a.tmps.size
            refine ⟨tc, fun x => ?_⟩
            rw [h5]
            split
            · rfl
            · next hx =>
              cases hv : tabAt all V t0 (fun j => listed.getD j false) m x with
              | none => rfl
              | some b =>
                obtain ⟨u, hu, _⟩ := htab x b hv
                exact absurd (Array.getElem?_eq_some_iff.1 hu).1 hx
          have hsc : St X γ H tc (sAt F (fun j => listed.getD j false) σ m) a w := St.withT sst (fun x b hx => htab x b (by rw [← htc]; exact hx))
          have hlk : look id (sAt F (fun j => listed.getD j false) σ m) = some en := by
            rw [sAt_is (fun i j x e f e' f' hi hj h1 h2 => hds i j x e f e' f' hi hj h1 h2) him hE m (Nat.le_refl _) him]
            simp only [hif]
          have key := hj tc (sAt F (fun j => listed.getD j false) σ m) (fun x hx v hv => by
            cases x with
            | tmp y =>
              have hy : namesT all o y = true := by
                simp only [namesT, Bool.or_eq_true]
                exact .inl (.inr (List.any_eq_true.2 ⟨_, Array.mem_toList_iff.2 hx, by simp [hasT]⟩))
              show look y tc = some v
              rw [htc, htab_i y hy]; exact hv
            | const c => exact hv
            | func f => exact hv
            | global g => exact hv) hlk
          refine key γ H a w hsc _ _ ?_
          rintro γ' H' t' σ' a' w' s' ⟨rfl, rfl⟩
          refine ih _ γ' H' a' w' (by simpa using hs) htail' hclosed' hleft (fun x b hx => ?_) ?_
          · refine s'.tmp x b ?_
            rw [htc, ← hx]
            simp only [tabAt]
            rw [lastW_congr m fun j hj hd' => ?_]
            have e : i ≠ j := fun e => by subst e; simp [dstAt, ho, hd0] at hd'
            exact (getD_set_ne false e).symm
          · rw [hset]
            refine s'.wk (Wk.nil _) fun x e hx => ?_
            rw [sAt_step (fun i j x e f e' f' hi hj h1 h2 => hds i j x e f e' f' hi hj h1 h2) him hE m (Nat.le_refl _) him] at hx
            rw [look_cons]; exact hx

def CS (X : Cx) (all : Array Oper) (σ0 σ : Sg) (Q : T → Sg → Prop) : List Oper → T → Sg → Prop
  | [], t, ss => ∃ t', Wk t' t ∧ Q t' ss
  | o :: rest, t, ss =>
    (∃ V, OStep X all o t σ V ∧ dOk o.dst X.N = true ∧ CS X all σ0 σ Q rest (putT o.dst V t) ss) ∨
    (∃ id e f, StoreJ X o t id e f ∧ look id σ0 = some e ∧ look id σ = none ∧ look id ss = none ∧ CS X all σ0 σ Q rest t ((id, f) :: ss))
def consF : Option (Nat × Ent × Ent) → Sg → Sg
  | some (i, _, f), ss => (i, f) :: ss
  | none, ss => ss
def sFrom (F : Nat → Option (Nat × Ent × Ent)) (k : Nat) (ss : Sg) : Nat → Sg
  | 0 => ss
  | j + 1 => consF (F (k + j)) (sFrom F k ss j)
theorem sFrom_congr {F F' : Nat → Option (Nat × Ent × Ent)} {k : Nat} {ss : Sg} : ∀ j, (∀ i, k ≤ i → i < k + j → F i = F' i) → sFrom F k ss j = sFrom F' k ss j
  | 0, _ => rfl
  | j + 1, h => by
    simp only [sFrom]
    rw [h (k + j) (by omega) (by omega), sFrom_congr j (fun i h1 h2 => h i h1 (by omega))]
theorem sFrom_succ {F : Nat → Option (Nat × Ent × Ent)} {k : Nat} {ss : Sg} : ∀ j, sFrom F k ss (j + 1) = sFrom F (k + 1) (consF (F k) ss) j
  | 0 => rfl
  | j + 1 => by
    rw [sFrom, sFrom_succ j, sFrom]
    rw [show k + (j + 1) = k + 1 + j from by omega]
theorem sAt_all {F : Nat → Option (Nat × Ent × Ent)} {σ : Sg} : ∀ j, sAt F (fun _ => true) σ j = sFrom F 0 [] j ++ σ
  | 0 => rfl
  | j + 1 => by
    simp only [sAt, sFrom, Nat.zero_add]
    rw [sAt_all j]
    cases F j <;> rfl
def STab (X : Cx) (all : Array Oper) (σ0 σ : Sg) (Q : T → Sg → Prop) (rest : List Oper) (k : Nat) (t : T) (ss : Sg) : Prop :=
    ∃ (V : Nat → AV) (F : Nat → Option (Nat × Ent × Ent)), (∀ j o, j < rest.length → all[k + j]? = some o → SStep X all o (statesFrom all V t k j) σ (V (k + j)) (F (k + j)) ∧ dOk o.dst X.N = true) ∧
      (∃ t', Wk t' (statesFrom all V t k rest.length) ∧ Q t' (sFrom F k ss rest.length)) ∧
      (∀ j x e f, j < rest.length → F (k + j) = some (x, e, f) → look x σ0 = some e ∧ look x σ = none ∧ look x ss = none) ∧
      (∀ i j x e f e' f', i < rest.length → j < rest.length → F (k + i) = some (x, e, f) → F (k + j) = some (x, e', f') → i = j)
theorem CS.table {X : Cx} {all : Array Oper} {σ0 σ : Sg} {Q : T → Sg → Prop} : ∀ (rest : List Oper) (k : Nat) (t : T) (ss : Sg), (∀ j, j < rest.length → all[k + j]? = rest[j]?) → CS X all σ0 σ Q rest t ss → STab X all σ0 σ Q rest k t ss
  | [], k, t, ss, _, h => ⟨fun _ => .junk, fun _ => none, fun j o hj => by simp at hj, h, fun j x e f hj => by simp at hj, fun i j x e f e' f' hi => by simp at hi⟩
  | p :: rest, k, t, ss, ha, h => by
    have hk : all[k]? = some p := by simpa using ha 0 (by simp)
    have hdk : dstAt all k = p.dst := by simp [dstAt, hk]
    have ha' : ∀ j, j < rest.length → all[k + 1 + j]? = rest[j]? := fun j hj => by have := ha (j + 1) (by simp; omega); rw [show k + 1 + j = k + (j + 1) from by omega]; simpa using this
    have hne : ∀ j, k + (j + 1) ≠ k := fun j => by omega
    have hadd : ∀ j, k + (j + 1) = k + 1 + j := fun j => by omega
    have key : ∀ (V0 : AV) (F0 : Option (Nat × Ent × Ent)), SStep X all p t σ V0 F0 → dOk p.dst X.N = true → CS X all σ0 σ Q rest (putT p.dst V0 t) (consF F0 ss) →
        (∀ x e f, F0 = some (x, e, f) → look x σ0 = some e ∧ look x σ = none ∧ look x ss = none) → STab X all σ0 σ Q (p :: rest) k t ss := by
      intro V0 F0 hB hdok h4 hF0
      obtain ⟨V', F', i1, ⟨t', i2, i3⟩, ia, ib⟩ := CS.table rest (k + 1) _ _ ha' h4
      have hV : ∀ j, statesFrom all (fun i => if i = k then V0 else V' i) t k (j + 1) = statesFrom all V' (putT p.dst V0 t) (k + 1) j := fun j => by
        rw [statesFrom_succ, hdk]
        simp only [if_true]
        exact statesFrom_congr j fun i h7 h8 => if_neg (by omega)
      have hFF : ∀ j, sFrom (fun i => if i = k then F0 else F' i) k ss (j + 1) = sFrom F' (k + 1) (consF F0 ss) j := fun j => by
        rw [sFrom_succ]
        simp only [if_true]
        exact sFrom_congr (F := fun i => if i = k then F0 else F' i) (F' := F') j fun i h7 h8 => if_neg (by omega)
      refine ⟨fun i => if i = k then V0 else V' i, fun i => if i = k then F0 else F' i, ?_, ⟨t', by rw [List.length_cons, hV]; exact i2, by rw [List.length_cons, hFF]; exact i3⟩, ?_, ?_⟩
      · intro j o hj ho
        cases j with
        | zero =>
          rw [Nat.add_zero, hk] at ho
          simp only [Option.some.injEq] at ho
          subst ho
          simp only [Nat.add_zero, if_true, statesFrom]
          exact ⟨hB, hdok⟩
        | succ j =>
          rw [hV]
          simp only [if_neg (hne j)]
          have := i1 j o (by simpa using hj) (by rw [← hadd j]; exact ho)
          rw [hadd j]; exact this
      · intro j x e f hj hF
        cases j with
        | zero =>
          simp only [Nat.add_zero, if_true] at hF
          exact hF0 x e f hF
        | succ j =>
          simp only [if_neg (hne j)] at hF; rw [hadd j] at hF
          obtain ⟨g1, g2, g3⟩ := ia j x e f (by simpa using hj) hF
          refine ⟨g1, g2, ?_⟩
          cases F0 with
          | none => exact g3
          | some q =>
            obtain ⟨y, e0, f0⟩ := q
            simp only [consF] at g3
            rw [look_cons] at g3
            split at g3
            · cases g3
            · exact g3
      · have cross : ∀ j x e f e' f', j < rest.length → F0 = some (x, e, f) → F' (k + 1 + j) = some (x, e', f') → False := fun j x e f e' f' hj h1 h2 => by
          obtain ⟨_, _, g3⟩ := ia j x e' f' hj h2
          rw [h1] at g3
          simp only [consF] at g3
          rw [look_cons, if_pos rfl] at g3; cases g3
        intro i j x e f e' f' hi hj h1 h2
        cases i with
        | zero =>
          simp only [Nat.add_zero, if_true] at h1
          cases j with
          | zero => rfl
          | succ j =>
            simp only [if_neg (hne j)] at h2; rw [hadd j] at h2
            exact (cross j x e f e' f' (by simpa using hj) h1 h2).elim
        | succ i =>
          simp only [if_neg (hne i)] at h1; rw [hadd i] at h1
          cases j with
          | zero =>
            simp only [Nat.add_zero, if_true] at h2
            exact (cross i x e' f' e f (by simpa using hi) h2 h1).elim
          | succ j =>
            simp only [if_neg (hne j)] at h2; rw [hadd j] at h2
            rw [ib i j x e f e' f' (by simpa using hi) (by simpa using hj) h1 h2]
    rcases h with ⟨V0, h1, h2, h4⟩ | ⟨id0, e0, f0, hs, g1, g2, g3, h4⟩
    · exact key V0 none (.inl ⟨rfl, h1⟩) h2 h4 (fun x e f h => by cases h)
    · have hd0 := hs.2.1
      exact key .junk (some (id0, e0, f0)) (.inr ⟨id0, e0, f0, rfl, hs⟩) (by rw [hd0]; rfl) (by rw [hd0]; exact h4) (fun x e f h => by cases h; exact ⟨g1, g2, g3⟩)
theorem WJ.calmS {X : Cx} {id : Nat} {ops : Array Oper} {t : T} {σ0 σ : Sg} {R : T → Sg → Prop} {Q' : Exit → Act → World → Prop} (m : Nat) (hm : X.P.follows .mixedOrders = true) (hc : CalmR ops m) (hle : m ≤ ops.size) (hσ : Wk σ σ0)
    (hend : ∀ t ss, R t ss → ∀ γ H a w listed, St X γ H t (ss ++ σ) a w → listed.size = ops.size → (∀ j, j < ops.size → listed.getD j false = decide (j < m)) → wpAnyIn (Fr X.ro) 0 X.P .any ops Q' (ops.size - m) listed a w)
    (h : CS X ops σ0 σ R (ops.toList.take m) t []) : ∀ γ H a w, St X γ H t σ0 a w → (Code.region id ops true).wpIn (Fr X.ro) 0 X.P Q' a w := by
  intro γ H a w s
  refine wpIn_region_any hm ?_
  have hlen : (ops.toList.take m).length = m := by simp; omega
  obtain ⟨V, F, h1, ⟨t', h2, h3⟩, ha, hb⟩ := CS.table (ops.toList.take m) 0 t [] (fun j hj => by rw [hlen] at hj; rw [Nat.zero_add, List.getElem?_take, if_pos hj]; simp) h
  simp only [hlen, Nat.zero_add] at h1 h2 h3 ha hb
  have s' : St X γ H t σ0 a { w with drawn := w.drawn + 1 } := ⟨s.lam, s.round, s.defers, s.size, s.pinned, s.tmp, s.mem.drew⟩
  have hall : ∀ j, (Array.replicate ops.size false).getD j false = false := fun j => by
    rw [Array.getD_eq_getD_getElem?, Array.getElem?_replicate]; split <;> rfl
  refine calm_anyS hc hle (V := V) (F := F) (σ := σ) (fun i o hi ho => by
    have := h1 i o hi ho
    rw [statesFrom_zero] at this
    exact this) (fun i j x e f e' f' hi hj h1 h2 => hb i j x e f e' f' hi hj h1 h2) (fun i x e f hi hF => (ha i x e f hi hF).2.1) (fun γ H a w lst st hls hlst => ?_) ops.size _ γ H a _ (by simp) (fun j _ => hall j) (fun i o hi => by rw [hall i] at hi; cases hi) ?_ ?_ ?_
  · rw [sAt_all] at st
    exact hend _ _ h3 γ H a w lst (st.wk (by rw [statesFrom_zero] at h2; exact h2) (Wk.refl _)) hls hlst
  · have : ((List.range m).filter fun j => !(Array.replicate ops.size false).getD j false) = List.range m := List.filter_eq_self.2 fun j _ => by rw [hall j]; rfl
    rw [this, List.length_range]; omega
  · intro x b hx
    have : lastW ops (fun j => (Array.replicate ops.size false).getD j false) x m = none := by
      have h0 : ∀ k, lastW ops (fun _ => false) x k = none := fun k => by
        induction k with
        | zero => rfl
        | succ k ih => simp [lastW, ih]
      rw [lastW_congr (S' := fun _ => false) m (fun j _ _ => hall j)]; exact h0 m
    simp only [tabAt, this] at hx
    exact s.tmp x b hx
  · have e0 : sAt F (fun j => (Array.replicate ops.size false).getD j false) σ m = sAt F (fun _ => false) σ m := sAt_congr m fun j _ _ => hall j
    rw [e0]
    refine s'.wk (Wk.nil _) fun x e hx => ?_
    have up : ∀ k, k ≤ m → look x (sAt F (fun _ => false) σ k) = some e → look x σ0 = some e := fun k => by
      induction k with
      | zero => exact fun _ h => hσ x e h
      | succ k ih =>
        intro hk h
        simp only [sAt] at h
        cases hF : F k with
        | none => rw [hF] at h; exact ih (by omega) h
        | some q =>
          obtain ⟨y, e1, f1⟩ := q
          rw [hF] at h
          simp only at h
          rw [look_cons] at h
          split at h
          · next hy =>
            subst hy
            cases h
            exact (ha k _ _ _ (by omega) hF).1
          · exact ih (by omega) h
    exact up m (Nat.le_refl _) hx
/-! ### The reckoning -/
def inN (i : Nat) : List Nat → Bool
  | [] => false
  | j :: r => match Nat.beq i j with | true => true | false => inN i r
def hideS (ks : List Nat) : Sg → Sg
  | [] => []
  | (i, e) :: σ => match inN i ks with | true => hideS ks σ | false => (i, e) :: hideS ks σ
theorem hideS_wk (ks : List Nat) : ∀ σ : Sg, Wk (hideS ks σ) σ ∧ ∀ i, inN i ks = true → look i (hideS ks σ) = none
  | [] => ⟨Wk.nil _, fun _ _ => rfl⟩
  | (j, e) :: σ => by
    obtain ⟨h1, h2⟩ := hideS_wk ks σ
    have go : ∀ i a, inN i ks = false → look i (hideS ks σ) = some a → look i σ = some a := fun i a _ h => h1 i a h
    refine ⟨fun i a hi => ?_, fun i hi => ?_⟩
    · have hn : inN i ks = false := by
        cases h : inN i ks with
        | false => rfl
        | true =>
          have : look i (hideS ks ((j, e) :: σ)) = none := by
            simp only [hideS]
            split
            · exact h2 i h
            · next hj =>
              rw [look_cons, if_neg (fun e => by subst e; rw [h] at hj; cases hj)]
              exact h2 i h
          rw [this] at hi; cases hi
      simp only [hideS] at hi
      split at hi
      · next hj =>
        rw [look_cons, if_neg (fun e => by subst e; rw [hn] at hj; cases hj)]
        exact h1 i a hi
      · rw [look_cons] at hi ⊢
        split
        · next e => rw [if_pos e] at hi; exact hi
        · next e => rw [if_neg e] at hi; exact h1 i a hi
    · simp only [hideS]
      split
      · exact h2 i hi
      · next hj =>
        rw [look_cons, if_neg (fun e => by subst e; rw [hi] at hj; cases hj)]
        exact h2 i hi
/-- A store of the head. -/
def stS (X : Cx) (e : TypeId) (x y : Operand) (t : T) (σ0 σ ss : Sg) (K : Nat → Ent → Prop) : Prop := match szOf X.P e, ge t x, ge t y with
  | some n, some (.box i off), some v => (match look i σ0, look i σ, look i ss with
    | some (.cells cs), none, none => (match oneAV v && oneAll (avCells v) && Nat.beq (avCells v).length n && Nat.ble (off + n) cs.length with
      | true => frcN (off + n) (setF cs off (avCells v)) fun cs' => K i (.cells cs')
      | false => False)
    | _, _, _ => False)
  | _, _, _ => False
def stepS (X : Cx) (o : Oper) (t : T) (σ : Sg) (K : T → Prop) : Prop :=
  qw X o t σ (fun V => match dOk o.dst X.N with | true => K (putT o.dst V t) | false => False) (QuietP X o t σ (fun V => match dOk o.dst X.N with | true => K (putT o.dst V t) | false => False) fun _ _ _ => False)
def vS (X : Cx) (all : Array Oper) (σ0 σ : Sg) (Q : T → Sg → Prop) : List Oper → T → Sg → Prop
  | [], t, ss => Q t ss
  | o :: rest, t, ss => match o.op, o.dst, o.guard with
    | .store e x y, none, none => stS X e x y t σ0 σ ss fun i f => vS X all σ0 σ Q rest t ((i, f) :: ss)
    | _, _, none => stepS X o t σ fun t => vS X all σ0 σ Q rest t ss
    | _, _, some (j, b0) => match dstOf all j, dOk o.dst X.N with
      | some d, true => (match look d t with
        | some (.d (.v (.bool b))) => grd b0 b d t (fun t => stepS X o t σ fun t => vS X all σ0 σ Q rest t ss) (fun t => vS X all σ0 σ Q rest (putT o.dst (.tup []) t) ss)
        | some (.tup []) => vS X all σ0 σ Q rest (putT o.dst (.tup []) t) ss
        | _ => False)
      | _, _ => False
theorem StoreJ.wk {X : Cx} {o : Oper} {t t' : T} {id : Nat} {e f : Ent} (hw : Wk t' t) (h : StoreJ X o t' id e f) : StoreJ X o t id e f :=
  ⟨h.1, h.2.1, fun t2 σ2 hx hl => h.2.2 t2 σ2 (fun x hx2 v hv => hx x hx2 v (by
    cases x with
    | tmp i => exact hw i v hv
    | const c => exact hv
    | func f => exact hv
    | global g => exact hv)) hl⟩
theorem CS.wk {X : Cx} {all : Array Oper} {σ0 σ : Sg} {Q : T → Sg → Prop} : ∀ (rest : List Oper) (t t' : T) (ss : Sg), Wk t' t → CS X all σ0 σ Q rest t' ss → CS X all σ0 σ Q rest t ss
  | [], t, t', ss, hw, ⟨t'', h1, h2⟩ => ⟨t'', h1.trans hw, h2⟩
  | o :: rest, t, t', ss, hw, h => by
    rcases h with ⟨V, h1, h2, h4⟩ | ⟨id, e, f, hs, g1, g2, g3, h4⟩
    · exact .inl ⟨V, h1.wk hw, h2, CS.wk rest _ _ ss hw.put h4⟩
    · exact .inr ⟨id, e, f, hs.wk hw, g1, g2, g3, CS.wk rest _ _ _ hw h4⟩
theorem stepS_sound {X : Cx} {all : Array Oper} {o : Oper} {t : T} {σ0 σ ss : Sg} {rest : List Oper} {Q : T → Sg → Prop} {K : T → Prop} (hK : ∀ t, K t → CS X all σ0 σ Q rest t ss)
    (hg : o.guard = none ∨ ∃ j b d, o.guard = some (j, b) ∧ ((all[j]?).bind (·.dst)) = some d ∧ look d t = some (.d (.v (.bool b)))) (h : stepS X o t σ K) : CS X all σ0 σ Q (o :: rest) t ss := by
  have fin : ∀ V, QJ X o t σ V → (match dOk o.dst X.N with | true => K (putT o.dst V t) | false => False) → CS X all σ0 σ Q (o :: rest) t ss := fun V hq hk => by
    split at hk
    · next hb =>
      rcases hg with hg | ⟨j, b, d, h1, h2, h3⟩
      · exact .inl ⟨V, .inl ⟨hg, hq⟩, hb, hK _ hk⟩
      · exact .inl ⟨V, .inr (.inl ⟨j, b, d, h1, h2, h3, hq⟩), hb, hK _ hk⟩
    · exact hk.elim
  unfold stepS at h
  rcases qw_sound h with ⟨V, hq, hk⟩ | h
  · exact fin V hq hk
  · cases h with
    | of hq hk => exact fin _ hq hk
    | born hb hk => exact hk.elim
theorem stS_sound {X : Cx} {o : Oper} {e : TypeId} {x y : Operand} {t : T} {σ0 σ ss : Sg} {K : Nat → Ent → Prop} (ho : o.op = .store e x y) (hd : o.dst = none) (hg : o.guard = none) (h : stS X e x y t σ0 σ ss K) :
    ∃ id en f, StoreJ X o t id en f ∧ look id σ0 = some en ∧ look id σ = none ∧ look id ss = none ∧ K id f := by
  unfold stS at h
  split at h
  · next n i off v hs hx hy =>
    split at h
    · next cs h1 h2 h3 =>
      split at h
      · next hb =>
        simp only [Bool.and_eq_true, Nat.ble_eq, Nat.beq_eq] at hb
        rw [frcN_eq, setF_eq] at h
        obtain ⟨d, op, ty, pos, aft, g⟩ := o
        simp only at ho hd hg
        subst ho; subst hd; subst hg
        refine ⟨i, _, _, ⟨rfl, rfl, fun t' σ' hop hl => ?_⟩, h1, h2, h3, h⟩
        exact O.store (hop x (by simp [Op.operands]) _ hx) rfl (hop y (by simp [Op.operands]) _ hy) hl hb.1.1.1 hb.1.1.2 (szOf_run hs) hb.1.2 hb.2 rfl ⟨rfl, rfl⟩
      · exact h.elim
    · exact h.elim
  · exact h.elim
theorem vS_sound {X : Cx} {all : Array Oper} {σ0 σ : Sg} {Q : T → Sg → Prop} : ∀ (rest : List Oper) (t : T) (ss : Sg), vS X all σ0 σ Q rest t ss → CS X all σ0 σ Q rest t ss
  | [], t, ss, h => ⟨t, Wk.refl t, h⟩
  | o :: rest, t, ss, h => by
    unfold vS at h
    split at h
    · next e x y ho hd hg =>
      obtain ⟨id, en, f, h1, h2, h3, h4, h5⟩ := stS_sound ho hd hg h
      exact .inr ⟨id, en, f, h1, h2, h3, h4, vS_sound rest t _ h5⟩
    · next hg _ => exact stepS_sound (fun t h => vS_sound rest t ss h) (.inl hg) h
    · next j b0 hg =>
      split at h
      · next d hd hN =>
        have hd' : ((all[j]?).bind (·.dst)) = some d := by rw [dstOf_eq]; exact hd
        split at h
        · next b hb =>
          have yes : ∀ c, b = c → stepS X o ((d, .d (.v (.bool c))) :: t) σ (fun t => vS X all σ0 σ Q rest t ss) → c = b0 → CS X all σ0 σ Q (o :: rest) t ss := fun c hc he hcb => by
            subst hc; subst hcb
            exact CS.wk _ _ _ _ (Wk.cons hb (Wk.refl t)) (stepS_sound (fun t h => vS_sound rest t ss h) (.inr ⟨j, b, d, hg, hd', by rw [look_cons, if_pos rfl]⟩) he)
          have no : ∀ c, b = c → vS X all σ0 σ Q rest (putT o.dst (.tup []) ((d, .d (.v (.bool c))) :: t)) ss → c ≠ b0 → CS X all σ0 σ Q (o :: rest) t ss := fun c hc he hcb => by
            subst hc
            exact CS.wk _ _ _ _ (Wk.cons hb (Wk.refl t)) (.inl ⟨.tup [], .inr (.inr (.inl ⟨j, b0, b, d, hg, hd', by rw [look_cons, if_pos rfl], hcb, rfl⟩)), hN, vS_sound rest _ ss he⟩)
          cases b0 with
          | true => cases b with
            | true => exact yes true rfl (h.1 rfl) rfl
            | false => exact no false rfl (h.2 rfl) (by simp)
          | false => cases b with
            | true => exact no true rfl (h.1 rfl) (by simp)
            | false => exact yes false rfl (h.2 rfl) rfl
        · next hb => exact .inl ⟨.tup [], .inr (.inr (.inr ⟨j, b0, d, hg, hd', hb, rfl⟩)), hN, vS_sound rest _ ss h⟩
        · exact h.elim
      · exact h.elim
/-- **A region that draws its order: quiet operations ahead, and stores into the variables ks, in any order, the rest by all orders.** -/
theorem RegP.mixS {X : Cx} {id : Nat} {ops : Array Oper} {t : T} {σ : Sg} {Q : T → Sg → Prop} (m : Nat) (ks : List Nat) (hm : X.P.follows .mixedOrders = true) (hc : (calmB2 ops m && Nat.ble m ops.size) = true)
    (h : vS X ops σ (hideS ks σ) (fun t ss => vO X ops Q (ops.size - m) (trues m (falses (ops.size - m))) t (ss ++ hideS ks σ)) (ops.toList.take m) t []) : RegP X id ops t σ Q := by
  intro Q' hQ
  simp only [Bool.and_eq_true, Nat.ble_eq] at hc
  refine WJ.calmS m hm (calmB2_R hc.1) hc.2 (hideS_wk ks σ).1 (fun t σ h3 γ H a w lst hst hls hlst => ?_) (vS_sound _ _ _ h)
  have e : lst = (trues m (falses (ops.size - m))).toArray := by
    rw [trues_eq, falses_eq]
    apply Array.ext
    · simp [hls]; omega
    · intro j h1 h2
      have hj := hlst j (by omega)
      rw [Array.getD_eq_getD_getElem?, Array.getElem?_eq_getElem h1, Option.getD_some] at hj
      rw [hj, List.getElem_toArray, List.getElem_append]
      split
      · next h3 => simp at h3; simp [h3]
      · next h3 => simp at h3; simp; omega
  rw [e]
  exact vO_sound (Q := Q) (Q' := Post X Q') (fun γ H t σ a w s q => ⟨γ, H, t, σ, s, hQ t σ q⟩) (ops.size - m) _ t _ h3 γ H a w hst
end Go.Gv
end
section
open Go Go.Gv
attribute [local irreducible] Go.Gv.WJ Go.Gv.OpJ Go.Gv.QJ Go.Gv.Spl Go.Gv.Req Go.Gv.IdxP Go.Gv.RegP Go.Gv.FinP Go.Gv.CellP Go.Gv.CellsP Go.Gv.ArrP Go.Gv.ArrsP Go.Gv.DropP Go.Gv.ByteP Go.Gv.StoreP
set_option maxRecDepth 100000
namespace Go.Proofs.E
attribute [local irreducible] elems
theorem Take_c {s : SS} {l : List OP} (h : isS s l) (R : List OP) {o : OP} (hw : wrongO l o = 0) : Cv 58 [vv s l R, opv o, stv (appS s l o), iv (atO l o)] (.tup [vv (appS s l o) (l ++ [o]) R, chv (chO l o)]) := by
  have hd : Dn (l ++ [o]) := .snoc h.dn hw
  have hs := appS_is h o
  rw [show appL l o = l ++ [o] from if_pos hw] at hs
  have hsm := hs.small
  obtain ⟨n, e, hat, _, hget, hid⟩ := at_get h.dn hw
  have hlen := h.dn.len2
  have hoc := (wrong_0 hw).1
  have hch : chO l o = ⟨((l ++ [o]).length : Nat), rankL (rowE (l ++ [o])) (n : Nat), e.id, e.ch, decide (o.k = 1)⟩ := by
    unfold chO
    rw [hat, Int.toNat_natCast, hget, hid]; rfl
  have hatc := At_c (appS s l o).t (n : Nat) (by omega)
  rw [atT_row hs, hget] at hatc
  have hrk := Rank_c (appS s l o).t (n : Nat) (by omega) (by omega) (by have := (List.getElem?_eq_some_iff.1 hget).1; have := row_le hd; omega)
  rw [hs.els] at hrk
  rw [hat, hch]
  have hwr : IntKind.i64.wrap ((l.length : Nat) + 1) = ((l ++ [o]).length : Nat) := by rw [wrap_id _ (by omega) (by omega)]; simp
  have hput : o.k = 0 → Cv 90 [tlv (sumV l), idv o.i] (.tup [tlv (sumV (l ++ [o])), iv 0]) := fun hk => by
    rw [sumV_snoc0 hk]
    refine PutOk_c (sumV l) o.i (sum_ok h.dn) (checkO_may hoc) ?_
    have h1 := hd.is.len
    rw [insL_snoc0 hk, List.length_append] at h1
    rw [sumV_n]; simp at h1; omega
  have hsame : o.k ≠ 0 → sumV (l ++ [o]) = sumV l := sumV_snoc1
  generalize appS s l o = s' at *
  generalize rankL (rowE (l ++ [o])) (n : Nat) = rk at *
  refine Ct.of_vc Tryz.f58 Tryz.func58 rfl rfl fun w H B g0 => ?_
  refine OpJ.callV hatc (fun _ _ => rfl) rfl rfl rfl ?_
  (repeat (first | refine Spl.t rfl ?_ | refine Spl.f rfl ?_))
  refine Spl.of (fun h1 => ?_) (fun h1 => ?_)
  · have h1 : o.k = 0 := of_decide_eq_true h1
    have hput := hput h1
    rw [show vv s' (l ++ [o]) R = .agg [.d s'.t.d, .d s'.p.d, iv s'.n, .d (.sl 6 (R.map opD)), iv (IntKind.i64.wrap ((l.length : Nat) + 1)), iv (sumV (l ++ [o])).n, cx (sumV (l ++ [o])).a (sumV (l ++ [o])).b, cx (sumV (l ++ [o])).c (sumV (l ++ [o])).d] by rw [hwr], ← hwr]
    generalize sumV (l ++ [o]) = T at hput
    (repeat (first | refine Spl.t rfl ?_ | refine Spl.f rfl ?_))
    refine OpJ.callV hput (fun _ _ => rfl) rfl rfl rfl ?_
    (repeat (first | refine Spl.t rfl ?_ | refine Spl.f rfl ?_))
    refine RegP.mixS 17 [8, 9] rfl (by decide +kernel) ?_
    refine QuietP.of (QJ.call hrk (fun _ _ => rfl) rfl rfl) ?_
    exact FinP.open rfl rfl
  · have h1 := hsame (of_decide_eq_false h1)
    rw [show vv s' (l ++ [o]) R = .agg [.d s'.t.d, .d s'.p.d, iv s'.n, .d (.sl 6 (R.map opD)), iv (IntKind.i64.wrap ((l.length : Nat) + 1)), iv (sumV l).n, cx (sumV l).a (sumV l).b, cx (sumV l).c (sumV l).d] by rw [hwr, ← h1], ← hwr]
    (repeat (first | refine Spl.t rfl ?_ | refine Spl.f rfl ?_))
    refine RegP.mixS 17 [8, 9] rfl (by decide +kernel) ?_
    refine QuietP.of (QJ.call hrk (fun _ _ => rfl) rfl rfl) ?_
    exact FinP.open rfl rfl
end Go.Proofs.E
end
section
open Go Go.Gv
attribute [local irreducible] Go.Gv.WJ Go.Gv.OpJ Go.Gv.QJ Go.Gv.Spl Go.Gv.Req Go.Gv.IdxP Go.Gv.RegP Go.Gv.FinP Go.Gv.CellP Go.Gv.CellsP Go.Gv.ArrP Go.Gv.ArrsP Go.Gv.DropP Go.Gv.ByteP Go.Gv.StoreP
set_option maxRecDepth 100000
namespace Go.Proofs.E
attribute [local irreducible] elems
def outV (out : List CH) (l : List OP) (o : OP) : List CH := if wrongO l o = 0 then out ++ [chO l o] else out
theorem out_row (out : List CH) (c : CH) : out.map chD ++ [chD c] = (out ++ [c]).map chD := by simp
theorem In_c {s : SS} {l : List OP} (h : isS s l) (R : List OP) (o : OP) (out : List CH) (hn : out.length ≤ 900000) :
    Ct tab Tryz.prog 56 [opv o, .box 2 0, .box 8 0] [(2, .cells (vcs s l R)), (8, .cells [.arr 1000 6 out.length]), (1000, .arr 6 (out.map chD))]
      (fun q σ' => q = iv (wrongO l o) ∧ σ' = [(2, .cells (vcs (appS s l o) (appL l o) R)), (8, .cells [.arr 1000 6 (outV out l o).length]), (1000, .arr 6 ((outV out l o).map chD))]) := by
  have hap := Apply_c h o
  refine Ct.of_wv Tryz.f56 Tryz.func56 rfl rfl fun w H B g0 => ?_
  try refine WJ.cut ?_
  (first | refine Sq.go ?_ | refine vL_nil (Sq.go ?_) | skip)
  try refine WJ.cut ?_
  refine OpJ.callV hap (fun _ _ => rfl) rfl rfl rfl ?_
  (first | refine Sq.go ?_ | refine vL_nil (Sq.go ?_) | skip)
  try refine WJ.cut ?_
  refine Spl.of (fun h1 => ?_) (fun h1 => ?_)
  · have h1 : wrongO l o = 0 := of_decide_eq_true h1
    have htk := Take_c h R h1
    have e1 : appL l o = l ++ [o] := if_pos h1
    have e2 : outV out l o = out ++ [chO l o] := if_pos h1
    rw [e1, e2]
    generalize appS s l o = s' at htk ⊢
    generalize chO l o = c at htk ⊢
    generalize l ++ [o] = l' at htk ⊢
    have hrow := out_row out c
    have hlc : (out ++ [c]).length = out.length + 1 := by simp
    rw [hlc, ← hrow]
    (repeat (first | refine Spl.t rfl ?_ | refine Spl.f rfl ?_))
    refine OpJ.callV htk (fun _ _ => rfl) rfl rfl rfl ?_
    refine O.allocN 1008 rfl rfl rfl rfl rfl ?_
    (first | refine Sq.go ?_ | refine vL_nil (Sq.go ?_) | skip)
    try refine WJ.cut ?_
    refine RegP.orders rfl ?_; (repeat' (refine And.intro ?_ ?_))
    all_goals refine Req.of ⟨by rw [List.length_map], by show _ + 1 ≤ _; omega⟩ ?_
    all_goals (repeat' (first | exact trivial | refine And.intro ?_ ?_))
    all_goals ((first | refine Sq.go ?_ | refine vL_nil (Sq.go ?_) | skip))
    all_goals (try refine vc_sound _ _ _ _ ?_)
    all_goals exact FinP.priv [(2, .cells (vcs s' l' R)), (8, .cells [.arr 1000 6 (out.length + 1)]), (1000, .arr 6 (out.map chD ++ [chD c]))] (Wk.cons rfl (Wk.cons rfl (Wk.cons rfl (Wk.nil _)))) rfl ⟨rfl, rfl⟩
  · have h1 : ¬ wrongO l o = 0 := of_decide_eq_false h1
    have e1 : appL l o = l := if_neg h1
    have e2 : outV out l o = out := if_neg h1
    have e3 : appS s l o = s := if_neg h1
    rw [e1, e2, e3]
    (repeat (first | refine Spl.t rfl ?_ | refine Spl.f rfl ?_))
    (first | refine Sq.go ?_ | refine vL_nil (Sq.go ?_) | skip)
    try refine vc_sound _ _ _ _ ?_
    exact FinP.priv [(2, .cells (vcs s l R)), (8, .cells [.arr 1000 6 out.length]), (1000, .arr 6 (out.map chD))] (Wk.cons rfl (Wk.cons rfl (Wk.cons rfl (Wk.nil _)))) rfl ⟨rfl, rfl⟩
end Go.Proofs.E
end
section
open Go Go.Gv
attribute [local irreducible] Go.Gv.WJ Go.Gv.OpJ Go.Gv.QJ Go.Gv.Spl Go.Gv.Req Go.Gv.IdxP Go.Gv.RegP Go.Gv.FinP Go.Gv.CellP Go.Gv.CellsP Go.Gv.ArrP Go.Gv.ArrsP Go.Gv.DropP Go.Gv.ByteP Go.Gv.StoreP
set_option maxRecDepth 100000
namespace Go.Proofs.E
attribute [local irreducible] elems
structure VS where
  s : SS
  l : List OP
  R : List OP
  out : List CH
/-- An operation taken in, if it can be applied. -/
def VS.take (v : VS) (o : OP) : VS := ⟨appS v.s v.l o, appL v.l o, v.R, outV v.out v.l o⟩
def VS.next (v : VS) : VS := VS.take ⟨v.s, v.l, nextR v.l v.R, v.out⟩ (nextO v.l v.R)
def drn : Nat → VS → VS
  | 0, v => v
  | n + 1, v => if nextIx v.l v.R < 0 then v else drn n v.next
def remV (v : VS) (o : OP) : VS := if wrongO v.l o = 0 then drn v.R.length (VS.take ⟨v.s, v.l, v.R, []⟩ o) else if wrongO v.l o = 6 then ⟨v.s, v.l, addR v.R o, []⟩ else ⟨v.s, v.l, v.R, []⟩
def remE (v : VS) (o : OP) : Int := if wrongO v.l o = 6 then addE v.R o else wrongO v.l o
theorem out_len (out : List CH) (l : List OP) (o : OP) : (outV out l o).length ≤ out.length + 1 := by unfold outV; split <;> simp
theorem nextR_lt {l R : List OP} (h : ¬ nextIx l R < 0) : (nextR l R).length + 1 = R.length := by
  have := nextIx_lt l R
  unfold nextR
  rw [if_neg h]; simp; omega
abbrev chs (out : List CH) : D := .sl 6 (out.map chD)
abbrev cellsV (v : VS) : List AV := vcs v.s v.l v.R
theorem Remote_c {s : SS} {l : List OP} (h : isS s l) (R : List OP) (out0 : List CH) (o : OP) (hR : R.length ≤ 100000) :
    Cv 11 [vv s l R, opv o] (.tup [vv (remV ⟨s, l, R, out0⟩ o).s (remV ⟨s, l, R, out0⟩ o).l (remV ⟨s, l, R, out0⟩ o).R, .d (chs (remV ⟨s, l, R, out0⟩ o).out), iv (remE ⟨s, l, R, out0⟩ o)]) := by
  have hin := In_c h R o [] (by simp)
  have hadd := Add_c R o (by omega)
  refine Ct.of_wv Tryz.f11 Tryz.func11 rfl rfl fun w H B g0 => ?_
  try refine WJ.cut ?_
  (first | refine Sq.go ?_ | refine vL_nil (Sq.go ?_) | skip)
  try refine WJ.cut ?_
  (first | refine Sq.go ?_ | refine vL_nil (Sq.go ?_) | skip)
  try refine WJ.cut ?_
  (first | refine Sq.go ?_ | refine vL_nil (Sq.go ?_) | skip)
  refine WJ.shift (SJ.nilCell 1000 8 0 6 rfl rfl rfl) ?_
  try refine WJ.cut ?_
  (first | refine Sq.go ?_ | refine vL_nil (Sq.go ?_) | skip)
  try refine WJ.cut ?_
  refine OpJ.callT rfl (FnIs.fnp _ _) hin (fun _ _ => rfl) rfl rfl (Wk.cons rfl (Wk.cons rfl (Wk.cons rfl (Wk.nil _)))) ?_
  rintro q σ' ⟨rfl, rfl⟩
  refine ⟨rfl, ?_⟩
  (first | refine Sq.go ?_ | refine vL_nil (Sq.go ?_) | skip)
  try refine WJ.cut ?_
  refine Spl.of (fun h1 => ?_) (fun h1 => ?_)
  · have h1 : wrongO l o = 0 := of_decide_eq_true h1
    have eR : remV ⟨s, l, R, out0⟩ o = drn R.length (VS.take ⟨s, l, R, []⟩ o) := if_pos h1
    have eE : remE ⟨s, l, R, out0⟩ o = 0 := by unfold remE; rw [h1]; rfl
    have hs := appS_is h o
    have ho := out_len [] l o
    rw [eR, eE]
    (repeat (first | refine Spl.t rfl ?_ | refine Spl.f rfl ?_))
    (first | refine Sq.go ?_ | refine vL_nil (Sq.go ?_) | skip)
    try refine vc_sound _ _ _ _ ?_
    refine WJ.loopK (V := VS) (fun v => []) (fun v => [(2, .cells (cellsV v)), (8, .cells [.arr 1000 6 v.out.length]), (1000, .arr 6 (v.out.map chD))]) [2, 8, 1000] (fun v => v.R.length) (fun v => isS v.s v.l ∧ v.out.length + v.R.length ≤ 100001 ∧ drn v.R.length v = drn R.length (VS.take ⟨s, l, R, []⟩ o)) (VS.take ⟨s, l, R, []⟩ o) ⟨hs, by simp only [VS.take]; simp at ho; omega, rfl⟩ (by repeat' (first | exact trivial | exact rfl | refine And.intro ?_ ?_)) (by repeat' (first | exact trivial | exact rfl | refine And.intro ?_ ?_)) ?_
    rintro ⟨s1, l1, R1, out1⟩ ⟨h2, h3, h4⟩
    simp only at h2 h3 h4
    have hnx := Next_c h2 R1 (by omega)
    have hin1 := In_c h2 (nextR l1 R1) (nextO l1 R1) out1 (by omega)
    (repeat (first | refine Spl.t rfl ?_ | refine Spl.f rfl ?_))
    refine OpJ.callV hnx (fun _ _ => rfl) rfl rfl rfl ?_
    (repeat (first | refine Spl.t rfl ?_ | refine Spl.f rfl ?_))
    refine Spl.of (fun h5 => ?_) (fun h5 => ?_)
    · have h5 : nextIx l1 R1 < 0 := by simpa using h5
      have e5 : drn R1.length ⟨s1, l1, R1, out1⟩ = ⟨s1, l1, R1, out1⟩ := by
        cases R1.length with
        | zero => rfl
        | succ n => rw [drn, if_pos h5]
      rw [← h4, e5]
      have hpl : out1.length ≤ (out1.map chD).length := by rw [List.length_map]; exact Nat.le_refl _
      (repeat (first | refine Spl.t rfl ?_ | refine Spl.f rfl ?_))
      refine RegP.mixS 5 [4] rfl (by decide +kernel) ?_
      refine FinP.pubTup 1000 1 rfl rfl hpl (by show out1.length ≤ _; omega) (FinP.open rfl ?_)
      exact congrArg (fun r => AV.tup [vv s1 l1 R1, .d (.sl 6 r), iv 0]) (List.take_of_length_le (Nat.le_of_eq (List.length_map ..)))
    · have h5 : ¬ nextIx l1 R1 < 0 := by simpa using h5
      have hlt := nextR_lt h5
      have ho1 := out_len out1 l1 (nextO l1 R1)
      have e5 : drn (nextR l1 R1).length (VS.next ⟨s1, l1, R1, out1⟩) = drn R.length (VS.take ⟨s, l, R, []⟩ o) := by
        rw [← h4, ← hlt, drn, if_neg h5]
      have hs1 := appS_is h2 (nextO l1 R1)
      (repeat (first | refine Spl.t rfl ?_ | refine Spl.f rfl ?_))
      refine OpJ.callT rfl (FnIs.fnp _ _) hin1 (fun _ _ => rfl) rfl rfl (Wk.cons rfl (Wk.cons rfl (Wk.cons rfl (Wk.nil _)))) ?_
      rintro q σ' ⟨rfl, rfl⟩
      refine ⟨rfl, ?_⟩
      (repeat (first | refine Spl.t rfl ?_ | refine Spl.f rfl ?_))
      exact ⟨VS.next ⟨s1, l1, R1, out1⟩, ⟨hs1, by simp only [VS.next, VS.take]; omega, e5⟩, by simp only [VS.next, VS.take]; omega, (by repeat' (first | exact trivial | exact rfl | refine And.intro ?_ ?_)), (by repeat' (first | exact trivial | exact rfl | refine And.intro ?_ ?_)), (by repeat' (first | exact trivial | exact rfl | refine And.intro ?_ ?_)), (by repeat' (first | exact trivial | exact rfl | refine And.intro ?_ ?_))⟩
  · have h1 : ¬ wrongO l o = 0 := of_decide_eq_false h1
    have e1 : appL l o = l := if_neg h1
    have e2 : outV [] l o = [] := if_neg h1
    have e3 : appS s l o = s := if_neg h1
    rw [e1, e2, e3]
    (repeat (first | refine Spl.t rfl ?_ | refine Spl.f rfl ?_))
    refine Spl.of (fun h2 => ?_) (fun h2 => ?_)
    · have h2 : wrongO l o = 6 := of_decide_eq_true h2
      have eR : remV ⟨s, l, R, out0⟩ o = ⟨s, l, addR R o, []⟩ := (if_neg h1).trans (if_pos h2)
      have eE : remE ⟨s, l, R, out0⟩ o = addE R o := if_pos h2
      rw [eR, eE]
      (repeat (first | refine Spl.t rfl ?_ | refine Spl.f rfl ?_))
      refine OpJ.callV hadd (fun _ _ => rfl) rfl rfl rfl ?_
      (repeat (first | refine Spl.t rfl ?_ | refine Spl.f rfl ?_))
      refine Spl.of (fun h3 => ?_) (fun h3 => ?_)
      · have h3 : ¬ addE R o = 0 := by simpa using h3
        have e4 : addR R o = R := if_neg h3
        rw [e4]
        (repeat (first | refine Spl.t rfl ?_ | refine Spl.f rfl ?_))
        refine .out (by simp) ?_
        refine FinP.viewTup 1 rfl (fun _ _ _ h => nil_sl 6 h) ?_
        exact FinP.open rfl rfl
      · have h3 : addE R o = 0 := by simpa using h3
        rw [h3]
        (repeat (first | refine Spl.t rfl ?_ | refine Spl.f rfl ?_))
        refine .out (by simp) ?_
        refine FinP.viewTup 1 rfl (fun _ _ _ h => nil_sl 6 h) ?_
        exact FinP.open rfl rfl
    · have h2 : ¬ wrongO l o = 6 := of_decide_eq_false h2
      have eR : remV ⟨s, l, R, out0⟩ o = ⟨s, l, R, []⟩ := (if_neg h1).trans (if_neg h2)
      have eE : remE ⟨s, l, R, out0⟩ o = wrongO l o := if_neg h2
      rw [eR, eE]
      (repeat (first | refine Spl.t rfl ?_ | refine Spl.f rfl ?_))
      refine .out (by simp) ?_
      refine FinP.viewTup 1 rfl (fun _ _ _ h => nil_sl 6 h) ?_
      exact FinP.open rfl rfl
end Go.Proofs.E
end
section
open Go Go.Gv
attribute [local irreducible] Go.Gv.WJ Go.Gv.OpJ Go.Gv.QJ Go.Gv.Spl Go.Gv.Req Go.Gv.IdxP Go.Gv.RegP Go.Gv.FinP Go.Gv.CellP Go.Gv.CellsP Go.Gv.ArrP Go.Gv.ArrsP Go.Gv.DropP Go.Gv.ByteP Go.Gv.StoreP
set_option maxRecDepth 100000
namespace Go.Proofs.E
attribute [local irreducible] elems
end Go.Proofs.E
end
section
open Go Go.Gv
attribute [local irreducible] Go.Gv.WJ Go.Gv.OpJ Go.Gv.QJ Go.Gv.Spl Go.Gv.Req Go.Gv.IdxP Go.Gv.RegP Go.Gv.FinP Go.Gv.CellP Go.Gv.CellsP Go.Gv.ArrP Go.Gv.ArrsP Go.Gv.DropP Go.Gv.ByteP Go.Gv.StoreP
set_option maxRecDepth 100000
namespace Go.Proofs.E
attribute [local irreducible] elems
def VS.same (v : VS) : VS := ⟨v.s, v.l, v.R, []⟩
def opI (v : VS) (site at_ ch : Int) : OP := ⟨0, ⟨cntV v.l v.R, site⟩, nameL (rowE v.l) (at_ - 1), ch⟩
def opX (v : VS) (at_ : Int) : OP := ⟨1, nameL (rowE v.l) at_, ⟨0, 0⟩, 0⟩
def doT (v : VS) (o : OP) : VS × OP × Int := if remE v o ≠ 0 then (v.same, OP0, remE v o) else (remV v o, o, 0)
def insVT (v : VS) (site at_ ch : Int) : VS × OP × Int :=
  if site < 1 ∨ site > 1000 ∨ at_ < 0 ∨ at_ > liveL (rowE v.l) then (v.same, OP0, 2)
  else if ch < 32 ∨ ch > 1114111 ∨ 55296 ≤ ch ∧ ch ≤ 57343 then (v.same, OP0, 1)
  else if 4096 ≤ (rowE v.l).length ∨ cntV v.l v.R > 1048576 then (v.same, OP0, 7)
  else doT v (opI v site at_ ch)
def delVT (v : VS) (at_ : Int) : VS × OP × Int := if 0 ≤ at_ ∧ at_ < liveL (rowE v.l) then doT v (opX v at_) else (v.same, OP0, 2)
def resT (p : VS × OP × Int) : AV := .tup [vv p.1.s p.1.l p.1.R, opv p.2.1, .d (chs p.1.out), iv p.2.2]
def prb (ch : Int) : OP := ⟨0, ⟨1, 1⟩, ⟨0, 0⟩, ch⟩
theorem prb_check (ch : Int) : checkO (prb ch) = if ch < 32 ∨ ch > 1114111 ∨ 55296 ≤ ch ∧ ch ≤ 57343 then 1 else 0 := by
  have h1 : mayI ⟨1, 1⟩ = true := by decide
  have h2 : noneI ⟨0, 0⟩ = true := by decide
  unfold checkO prb
  simp only [h1, h2]
  simp
theorem VDelete_c {s : SS} {l : List OP} (h : isS s l) (R : List OP) (hR : R.length ≤ 100000) (at_ : Int) :
    Cv 13 [vv s l R, iv at_] (resT (delVT ⟨s, l, R, []⟩ at_)) := by
  have hn := VNamed_c h R at_
  have hr := Remote_c h R [] (opX ⟨s, l, R, []⟩ at_) hR
  by_cases hk : 0 ≤ at_ ∧ at_ < liveL (rowE l)
  · have eD : delVT ⟨s, l, R, []⟩ at_ = doT ⟨s, l, R, []⟩ (opX ⟨s, l, R, []⟩ at_) := if_pos hk
    rw [eD]
    rw [decide_eq_true hk] at hn
    unfold opX at hr ⊢
    simp only at hr ⊢
    generalize nameL (rowE l) at_ = a at hn hr ⊢
    have e1 : remE ⟨s, l, R, []⟩ ⟨1, a, ⟨0, 0⟩, 0⟩ ≠ 0 → doT ⟨s, l, R, []⟩ ⟨1, a, ⟨0, 0⟩, 0⟩ = (⟨s, l, R, []⟩, OP0, remE ⟨s, l, R, []⟩ ⟨1, a, ⟨0, 0⟩, 0⟩) := fun h => if_pos h
    have e2 : remE ⟨s, l, R, []⟩ ⟨1, a, ⟨0, 0⟩, 0⟩ = 0 → doT ⟨s, l, R, []⟩ ⟨1, a, ⟨0, 0⟩, 0⟩ = (remV ⟨s, l, R, []⟩ ⟨1, a, ⟨0, 0⟩, 0⟩, ⟨1, a, ⟨0, 0⟩, 0⟩, 0) := fun h => if_neg (fun e => e h)
    generalize remE ⟨s, l, R, []⟩ ⟨1, a, ⟨0, 0⟩, 0⟩ = e at hr e1 e2
    generalize remV ⟨s, l, R, []⟩ ⟨1, a, ⟨0, 0⟩, 0⟩ = v' at hr e2
    generalize doT ⟨s, l, R, []⟩ ⟨1, a, ⟨0, 0⟩, 0⟩ = p at e1 e2 ⊢
    refine Ct.of_vc Tryz.f13 Tryz.func13 rfl rfl fun w H B g0 => ?_
    refine OpJ.callV hn (fun _ _ => rfl) rfl rfl rfl ?_
    (repeat (first | refine Spl.t rfl ?_ | refine Spl.f rfl ?_))
    refine OpJ.callV hr (fun _ _ => rfl) rfl rfl rfl ?_
    (repeat (first | refine Spl.t rfl ?_ | refine Spl.f rfl ?_))
    refine Spl.of (fun h1 => ?_) (fun h1 => ?_)
    · have h1 : e ≠ 0 := by simpa using h1
      rw [e1 h1]
      (repeat (first | refine Spl.t rfl ?_ | refine Spl.f rfl ?_))
      refine FinP.viewTup 2 rfl (fun _ _ _ h => nil_sl 6 h) ?_
      exact FinP.open rfl rfl
    · have h1 : e = 0 := by simpa using h1
      rw [e2 h1]
      (repeat (first | refine Spl.t rfl ?_ | refine Spl.f rfl ?_))
      refine RegP.mixS 7 [4, 5] rfl (by decide +kernel) ?_
      exact FinP.open rfl rfl
  · have eD : delVT ⟨s, l, R, []⟩ at_ = (⟨s, l, R, []⟩, OP0, 2) := if_neg hk
    rw [eD]
    rw [decide_eq_false hk] at hn
    refine Ct.of_vc Tryz.f13 Tryz.func13 rfl rfl fun w H B g0 => ?_
    refine OpJ.callV hn (fun _ _ => rfl) rfl rfl rfl ?_
    (repeat (first | refine Spl.t rfl ?_ | refine Spl.f rfl ?_))
    refine FinP.viewTup 2 rfl (fun _ _ _ h => nil_sl 6 h) ?_
    exact FinP.open rfl rfl
theorem ins_no1 {v : VS} {site at_ ch : Int} (h : site < 1 ∨ site > 1000 ∨ at_ < 0 ∨ at_ > liveL (rowE v.l)) : insVT v site at_ ch = (v.same, OP0, 2) := if_pos h
theorem live_le (L : List EL) : liveL L ≤ L.length := List.length_filter_le _ _
set_option maxHeartbeats 1000000 in
theorem VInsert_c {s : SS} {l : List OP} (h : isS s l) (R : List OP) (hR : R.length ≤ 100000) (hok : ∀ o, o ∈ R → checkO o = 0) (site at_ ch : Int) :
    Cv 12 [vv s l R, iv site, iv at_, cv' ch] (resT (insVT ⟨s, l, R, []⟩ site at_ ch)) := by
  have hlen := VLen_c h R
  have hck := Check5_c (prb ch)
  rw [prb_check] at hck
  have hct := VCounter_c h (by omega) hok
  have hts := TLen_c s.t
  rw [h.size, ← row_len h.dn] at hts
  have hlr := row_le h.dn
  have hlv := live_le (rowE l)
  have n1 := fun h => ins_no1 (v := ⟨s, l, R, []⟩) (site := site) (at_ := at_) (ch := ch) h
  refine Ct.of_wv Tryz.f12 Tryz.func12 rfl rfl fun w H B g0 => ?_
  try refine WJ.cut ?_
  (first | refine Sq.go ?_ | refine vL_nil (Sq.go ?_) | skip)
  try refine WJ.cut ?_
  refine Spl.of (fun a1 => ?_) (fun a1 => ?_)
  · rw [n1 (.inl (of_decide_eq_true a1))]
    ((repeat (first | refine Spl.t rfl ?_ | refine Spl.f rfl ?_)); refine .out (by simp) ?_; refine FinP.viewTup 2 rfl (fun _ _ _ h => nil_sl 6 h) ?_; exact FinP.open rfl rfl)
  have a1 := of_decide_eq_false a1
  (repeat (first | refine Spl.t rfl ?_ | refine Spl.f rfl ?_))
  refine Spl.of (fun a2 => ?_) (fun a2 => ?_)
  · rw [n1 (.inr (.inl (of_decide_eq_true a2)))]
    ((repeat (first | refine Spl.t rfl ?_ | refine Spl.f rfl ?_)); refine .out (by simp) ?_; refine FinP.viewTup 2 rfl (fun _ _ _ h => nil_sl 6 h) ?_; exact FinP.open rfl rfl)
  have a2 := of_decide_eq_false a2
  (repeat (first | refine Spl.t rfl ?_ | refine Spl.f rfl ?_))
  refine Spl.of (fun a3 => ?_) (fun a3 => ?_)
  · rw [n1 (.inr (.inr (.inl (of_decide_eq_true a3))))]
    ((repeat (first | refine Spl.t rfl ?_ | refine Spl.f rfl ?_)); refine .out (by simp) ?_; refine FinP.viewTup 2 rfl (fun _ _ _ h => nil_sl 6 h) ?_; exact FinP.open rfl rfl)
  have a3 := of_decide_eq_false a3
  (repeat (first | refine Spl.t rfl ?_ | refine Spl.f rfl ?_))
  refine OpJ.callV hlen (fun _ _ => rfl) rfl rfl rfl ?_
  (repeat (first | refine Spl.t rfl ?_ | refine Spl.f rfl ?_))
  refine Spl.of (fun a4 => ?_) (fun a4 => ?_)
  · rw [n1 (.inr (.inr (.inr (of_decide_eq_true a4))))]
    ((repeat (first | refine Spl.t rfl ?_ | refine Spl.f rfl ?_)); refine .out (by simp) ?_; refine FinP.viewTup 2 rfl (fun _ _ _ h => nil_sl 6 h) ?_; exact FinP.open rfl rfl)
  have a4 := of_decide_eq_false a4
  have g1 : ¬ (site < 1 ∨ site > 1000 ∨ at_ < 0 ∨ at_ > liveL (rowE l)) := by omega
  (repeat (first | refine Spl.t rfl ?_ | refine Spl.f rfl ?_))
  (first | refine Sq.go ?_ | refine vL_nil (Sq.go ?_) | skip)
  try refine WJ.cut ?_
  (first | refine Sq.go ?_ | refine vL_nil (Sq.go ?_) | skip)
  try refine WJ.cut ?_
  refine OpJ.callV hck (fun _ _ => rfl) rfl rfl rfl ?_
  (repeat (first | refine Spl.t rfl ?_ | refine Spl.f rfl ?_))
  by_cases c1 : ch < 32 ∨ ch > 1114111 ∨ 55296 ≤ ch ∧ ch ≤ 57343
  · have e : insVT ⟨s, l, R, []⟩ site at_ ch = (⟨s, l, R, []⟩, OP0, 1) := (if_neg g1).trans (if_pos c1)
    rw [e]
    refine Spl.t (by rw [if_pos c1]; rfl) ?_
    ((repeat (first | refine Spl.t rfl ?_ | refine Spl.f rfl ?_)); refine .out (by simp) ?_; refine FinP.viewTup 2 rfl (fun _ _ _ h => nil_sl 6 h) ?_; exact FinP.open rfl rfl)
  refine Spl.f (by rw [if_neg c1]; rfl) ?_
  (repeat (first | refine Spl.t rfl ?_ | refine Spl.f rfl ?_))
  refine OpJ.callV hts (fun _ _ => rfl) rfl rfl rfl ?_
  (repeat (first | refine Spl.t rfl ?_ | refine Spl.f rfl ?_))
  by_cases c2 : 4096 ≤ (rowE l).length
  · have e : insVT ⟨s, l, R, []⟩ site at_ ch = (⟨s, l, R, []⟩, OP0, 7) := (if_neg g1).trans ((if_neg c1).trans (if_pos (.inl c2)))
    rw [e]
    refine Spl.t (decide_eq_true (by omega)) ?_
    ((repeat (first | refine Spl.t rfl ?_ | refine Spl.f rfl ?_)); refine .out (by simp) ?_; refine FinP.viewTup 2 rfl (fun _ _ _ h => nil_sl 6 h) ?_; exact FinP.open rfl rfl)
  refine Spl.f (decide_eq_false (by omega)) ?_
  (repeat (first | refine Spl.t rfl ?_ | refine Spl.f rfl ?_))
  refine OpJ.callV hct (fun _ _ => rfl) rfl rfl rfl ?_
  (repeat (first | refine Spl.t rfl ?_ | refine Spl.f rfl ?_))
  refine Spl.of (fun c3 => ?_) (fun c3 => ?_)
  · have e : insVT ⟨s, l, R, []⟩ site at_ ch = (⟨s, l, R, []⟩, OP0, 7) := (if_neg g1).trans ((if_neg c1).trans (if_pos (.inr (of_decide_eq_true c3))))
    rw [e]
    ((repeat (first | refine Spl.t rfl ?_ | refine Spl.f rfl ?_)); refine .out (by simp) ?_; refine FinP.viewTup 2 rfl (fun _ _ _ h => nil_sl 6 h) ?_; exact FinP.open rfl rfl)
  have c3 := of_decide_eq_false c3
  have e : insVT ⟨s, l, R, []⟩ site at_ ch = doT ⟨s, l, R, []⟩ (opI ⟨s, l, R, []⟩ site at_ ch) := (if_neg g1).trans ((if_neg c1).trans (if_neg (fun h => by rcases h with h | h; exact c2 h; exact c3 h)))
  rw [e]
  have hw : IntKind.i64.wrap (at_ - 1) = at_ - 1 := wrap_id _ (by omega) (by omega)
  have hn := VNamed_c h R (IntKind.i64.wrap (at_ - 1))
  have hr := Remote_c h R [] (opI ⟨s, l, R, []⟩ site at_ ch) hR
  unfold opI at hr ⊢
  simp only at hr ⊢
  rw [← hw] at hr ⊢
  generalize nameL (rowE l) (IntKind.i64.wrap (at_ - 1)) = a at hn hr ⊢
  generalize cntV l R = c at hct hr ⊢
  have e1 : remE ⟨s, l, R, []⟩ ⟨0, ⟨c, site⟩, a, ch⟩ ≠ 0 → doT ⟨s, l, R, []⟩ ⟨0, ⟨c, site⟩, a, ch⟩ = (⟨s, l, R, []⟩, OP0, remE ⟨s, l, R, []⟩ ⟨0, ⟨c, site⟩, a, ch⟩) := fun h => if_pos h
  have e2 : remE ⟨s, l, R, []⟩ ⟨0, ⟨c, site⟩, a, ch⟩ = 0 → doT ⟨s, l, R, []⟩ ⟨0, ⟨c, site⟩, a, ch⟩ = (remV ⟨s, l, R, []⟩ ⟨0, ⟨c, site⟩, a, ch⟩, ⟨0, ⟨c, site⟩, a, ch⟩, 0) := fun h => if_neg (fun e => e h)
  generalize remE ⟨s, l, R, []⟩ ⟨0, ⟨c, site⟩, a, ch⟩ = er at hr e1 e2
  generalize remV ⟨s, l, R, []⟩ ⟨0, ⟨c, site⟩, a, ch⟩ = v' at hr e2
  generalize doT ⟨s, l, R, []⟩ ⟨0, ⟨c, site⟩, a, ch⟩ = p at e1 e2 ⊢
  (repeat (first | refine Spl.t rfl ?_ | refine Spl.f rfl ?_))
  (first | refine Sq.go ?_ | refine vL_nil (Sq.go ?_) | skip)
  try refine WJ.cut ?_
  refine OpJ.callV hct (fun _ _ => rfl) rfl rfl rfl ?_
  (repeat (first | refine Spl.t rfl ?_ | refine Spl.f rfl ?_))
  (first | refine Sq.go ?_ | refine vL_nil (Sq.go ?_) | skip)
  try refine WJ.cut ?_
  refine OpJ.callV hn (fun _ _ => rfl) rfl rfl rfl ?_
  (repeat (first | refine Spl.t rfl ?_ | refine Spl.f rfl ?_))
  (first | refine Sq.go ?_ | refine vL_nil (Sq.go ?_) | skip)
  try refine WJ.cut ?_
  refine OpJ.callV hr (fun _ _ => rfl) rfl rfl rfl ?_
  (repeat (first | refine Spl.t rfl ?_ | refine Spl.f rfl ?_))
  (first | refine Sq.go ?_ | refine vL_nil (Sq.go ?_) | skip)
  try refine WJ.cut ?_
  refine Spl.of (fun h1 => ?_) (fun h1 => ?_)
  · have h1 : er ≠ 0 := by simpa using h1
    rw [e1 h1]
    ((repeat (first | refine Spl.t rfl ?_ | refine Spl.f rfl ?_)); refine .out (by simp) ?_; refine FinP.viewTup 2 rfl (fun _ _ _ h => nil_sl 6 h) ?_; exact FinP.open rfl rfl)
  · have h1 : er = 0 := by simpa using h1
    rw [e2 h1]
    (repeat (first | refine Spl.t rfl ?_ | refine Spl.f rfl ?_))
    (first | refine Sq.go ?_ | refine vL_nil (Sq.go ?_) | skip)
    try refine vc_sound _ _ _ _ ?_
    refine RegP.mixS 7 [8, 9] rfl (by decide +kernel) ?_
    exact FinP.open rfl rfl
end Go.Proofs.E
end
section
open Go Go.Gv
attribute [local irreducible] Go.Gv.WJ Go.Gv.OpJ Go.Gv.QJ Go.Gv.Spl Go.Gv.Req Go.Gv.IdxP Go.Gv.RegP Go.Gv.FinP Go.Gv.CellP Go.Gv.CellsP Go.Gv.ArrP Go.Gv.ArrsP Go.Gv.DropP Go.Gv.ByteP Go.Gv.StoreP
set_option maxRecDepth 100000
namespace Go.Proofs.E
attribute [local irreducible] elems
end Go.Proofs.E
end
section
open Go Go.Gv
attribute [local irreducible] Go.Gv.WJ Go.Gv.OpJ Go.Gv.QJ Go.Gv.Spl Go.Gv.Req Go.Gv.IdxP Go.Gv.RegP Go.Gv.FinP Go.Gv.CellP Go.Gv.CellsP Go.Gv.ArrP Go.Gv.ArrsP Go.Gv.DropP Go.Gv.ByteP Go.Gv.StoreP
set_option maxRecDepth 100000
namespace Go.Proofs.E
attribute [local irreducible] elems
theorem Dn_pre : ∀ {a b : List OP}, Dn (a ++ b) → Dn a := by
  intro a b h
  generalize hl : a ++ b = l at h
  induction h generalizing a b with
  | nil => rw [(List.append_eq_nil_iff.1 hl).1]; exact .nil
  | @snoc l o h hw ih =>
    rcases List.eq_nil_or_concat b with hb | ⟨c, x, hb⟩
    · subst hb
      rw [List.append_nil] at hl
      rw [hl]; exact .snoc h hw
    · rw [hb, List.concat_eq_append, ← List.append_assoc] at hl
      exact ih (List.append_inj' hl rfl).1
end Go.Proofs.E
end
section
open Go Go.Gv
attribute [local irreducible] Go.Gv.WJ Go.Gv.OpJ Go.Gv.QJ Go.Gv.Spl Go.Gv.Req Go.Gv.IdxP Go.Gv.RegP Go.Gv.FinP Go.Gv.CellP Go.Gv.CellsP Go.Gv.ArrP Go.Gv.ArrsP Go.Gv.DropP Go.Gv.ByteP Go.Gv.StoreP
set_option maxRecDepth 100000
namespace Go.Proofs.E
attribute [local irreducible] elems
/-- What a version keeps to. -/
structure okV (v : VS) : Prop where
  is : isS v.s v.l
  ck : ∀ o, o ∈ v.R → checkO o = 0
  len : v.R.length ≤ 16
theorem okV.same {v : VS} (h : okV v) : okV v.same := ⟨h.is, h.ck, h.len⟩
theorem okV.take {v : VS} (h : okV v) (o : OP) : okV (v.take o) := ⟨appS_is h.is o, h.ck, h.len⟩
theorem next_mem {l R : List OP} : ∀ x, x ∈ nextR l R → x ∈ R := fun x hx => by
  unfold nextR at hx
  split at hx
  · exact hx
  · rcases List.mem_append.1 hx with h | h
    · exact List.mem_of_mem_take h
    · exact List.mem_of_mem_drop h
theorem nextR_le (l R : List OP) : (nextR l R).length ≤ R.length := by
  unfold nextR; split
  · exact Nat.le_refl _
  · simp; omega
theorem okV.next {v : VS} (h : okV v) : okV v.next := okV.take (v := ⟨v.s, v.l, nextR v.l v.R, v.out⟩) ⟨h.is, fun o ho => h.ck o (next_mem o ho), Nat.le_trans (nextR_le _ _) h.len⟩ _
theorem okV.drn : ∀ (n : Nat) {v : VS}, okV v → okV (drn n v)
  | 0, _, h => h
  | n + 1, v, h => by
    rw [E.drn]
    split
    · exact h
    · exact okV.drn n h.next
theorem drn_out : ∀ (n : Nat) (v : VS), (drn n v).out.length ≤ v.out.length + n
  | 0, _ => Nat.le_refl _
  | n + 1, v => by
    rw [drn]
    split
    · omega
    · have h1 := drn_out n v.next
      have h2 := out_len v.out v.l (nextO v.l v.R)
      have h3 : v.next.out = outV v.out v.l (nextO v.l v.R) := rfl
      rw [h3] at h1; omega
theorem addE_0 {R : List OP} {o : OP} (h : addE R o = 0) : checkO o = 0 ∧ R.length < 16 := by
  unfold addE at h
  split at h
  · next h1 => exact absurd h h1
  · next h1 =>
    split at h
    · cases h
    · split at h
      · cases h
      · split at h
        · cases h
        · exact ⟨by simpa using h1, by omega⟩
theorem okV.rem {v : VS} (h : okV v) (o : OP) : okV (remV v o) := by
  unfold remV
  split
  · exact okV.drn _ (okV.take h.same o)
  · split
    · refine ⟨h.is, fun x hx => ?_, ?_⟩
      · simp only at hx
        unfold addR at hx
        split at hx
        · next h0 =>
          rcases List.mem_append.1 hx with hx | hx
          · exact h.ck x hx
          · rw [List.mem_singleton.1 hx]; exact (addE_0 h0).1
        · exact h.ck x hx
      · simp only
        unfold addR
        split
        · next h0 => have := (addE_0 h0).2; simp; omega
        · exact h.len
    · exact h.same
theorem rem_out {v : VS} (h : okV v) (o : OP) : (remV v o).out.length ≤ 17 := by
  have hl := h.len
  unfold remV
  split
  · have h1 := drn_out v.R.length (VS.take ⟨v.s, v.l, v.R, []⟩ o)
    have h2 := out_len [] v.l o
    have h3 : (VS.take ⟨v.s, v.l, v.R, []⟩ o).out = outV [] v.l o := rfl
    rw [h3] at h1
    simp at h2; omega
  · split <;> simp
theorem okV.doT {v : VS} (h : okV v) (o : OP) : okV (doT v o).1 ∧ (doT v o).1.out.length ≤ 17 := by
  unfold E.doT
  split
  · exact ⟨h.same, by simp [VS.same]⟩
  · exact ⟨h.rem o, rem_out h o⟩
theorem okV.ins {v : VS} (h : okV v) (site at_ ch : Int) : okV (insVT v site at_ ch).1 ∧ (insVT v site at_ ch).1.out.length ≤ 17 := by
  have h0 : okV v.same ∧ v.same.out.length ≤ 17 := ⟨h.same, by simp [VS.same]⟩
  unfold insVT
  split
  · exact h0
  · split
    · exact h0
    · split
      · exact h0
      · exact h.doT _
theorem okV.del {v : VS} (h : okV v) (at_ : Int) : okV (delVT v at_).1 ∧ (delVT v at_).1.out.length ≤ 17 := by
  unfold delVT
  split
  · exact h.doT _
  · exact ⟨h.same, by simp [VS.same]⟩
structure ACT where
  k : Int
  o : OP
  site : Int
  at_ : Int
  ch : Int
abbrev actD (x : ACT) : List D := [.v (.int .u8 x.k), .v (.int .i64 x.o.k), .v (.int .i64 x.o.i.c), .v (.int .i64 x.o.i.s), .v (.int .i64 x.o.a.c), .v (.int .i64 x.o.a.s), .v (.int .i32 x.o.ch), .v (.int .i64 x.site), .v (.int .i64 x.at_), .v (.int .i32 x.ch)]
end Go.Proofs.E
end
section
open Go Go.Gv
attribute [local irreducible] Go.Gv.WJ Go.Gv.OpJ Go.Gv.QJ Go.Gv.Spl Go.Gv.Req Go.Gv.IdxP Go.Gv.RegP Go.Gv.FinP Go.Gv.CellP Go.Gv.CellsP Go.Gv.ArrP Go.Gv.ArrsP Go.Gv.DropP Go.Gv.ByteP Go.Gv.StoreP
set_option maxRecDepth 100000
namespace Go.Proofs.E
attribute [local irreducible] elems
theorem nilRoom {γ : Ids} {H : HF} {u : Value} (r : Rep γ H (.agg [.d (.v (.slice none 0 0))]) u) : Rep γ H (rmv []) u := rep_agg_set (j := 0) r rfl fun _ h => nil_sl 6 h
theorem AddN_c (o : OP) : Cv 59 [.agg [.d (.v (.slice none 0 0))], opv o] (.tup [rmv (addR [] o), iv (addE [] o)]) := by
  refine Ct.view (Add_c [] o (by decide)) rfl fun j a b ha hb γ H u r => ?_
  match j, ha, hb with
  | 0, ha, hb => cases ha; cases hb; exact nilRoom r
  | 1, ha, hb => cases ha; cases hb; exact r
def aw7 : OP := ⟨0, ⟨2, 1⟩, ⟨1, 1⟩, 98⟩
theorem Awake7_c : Cv 55 [] (bv true) := by
  have hadd := AddN_c aw7
  rw [show addR [] aw7 = [aw7] by decide +kernel, show addE [] aw7 = 0 by decide +kernel] at hadd
  have hnx := Next_c isS_nil [aw7] (by decide)
  rw [show nextR [] [aw7] = [aw7] by decide +kernel, show nextO [] [aw7] = OP0 by decide +kernel, show decide (0 ≤ nextIx [] [aw7]) = false by decide +kernel] at hnx
  have hln := RLen_c [aw7]
  have htp := Top_c [aw7] (by decide)
  rw [show topR [aw7] = 2 by decide +kernel] at htp
  refine Ct.of_wv Tryz.f55 Tryz.func55 rfl rfl fun w H B g0 => ?_
  try refine WJ.cut ?_
  (first | refine Sq.go ?_ | refine vL_nil (Sq.go ?_) | skip)
  try refine WJ.cut ?_
  refine OpJ.callV hadd (fun _ _ => rfl) rfl rfl rfl ?_
  (first | refine Sq.go ?_ | refine vL_nil (Sq.go ?_) | skip)
  try refine WJ.cut ?_
  refine OpJ.callV hnx (fun _ _ => rfl) rfl rfl rfl ?_
  (first | refine Sq.go ?_ | refine vL_nil (Sq.go ?_) | skip)
  try refine WJ.cut ?_
  refine OpJ.callV Awake6_c (fun _ _ => rfl) rfl rfl rfl ?_
  (repeat (first | refine Spl.t rfl ?_ | refine Spl.f rfl ?_))
  refine OpJ.callV hln (fun _ _ => rfl) rfl rfl rfl ?_
  (repeat (first | refine Spl.t rfl ?_ | refine Spl.f rfl ?_))
  refine OpJ.callV htp (fun _ _ => rfl) rfl rfl rfl ?_
  (repeat (first | refine Spl.t rfl ?_ | refine Spl.f rfl ?_))
  (first | refine Sq.go ?_ | refine vL_nil (Sq.go ?_) | skip)
  try refine vc_sound _ _ _ _ ?_
  exact FinP.open rfl rfl
end Go.Proofs.E
end
section
open Go Go.Gv
attribute [local irreducible] Go.Gv.WJ Go.Gv.OpJ Go.Gv.QJ Go.Gv.Spl Go.Gv.Req Go.Gv.IdxP Go.Gv.RegP Go.Gv.FinP Go.Gv.CellP Go.Gv.CellsP Go.Gv.ArrP Go.Gv.ArrsP Go.Gv.DropP Go.Gv.ByteP Go.Gv.StoreP
set_option maxRecDepth 100000
namespace Go.Proofs.E
attribute [local irreducible] elems
theorem nilV {γ : Ids} {H : HF} {u : Value} {t p : D} {n m k : Int} {z1 z2 : AV} (r : Rep γ H (.agg [.d t, .d p, iv n, .d (.v (.slice none 0 0)), iv m, iv k, z1, z2]) u) : Rep γ H (.agg [.d t, .d p, iv n, .d (.sl 6 []), iv m, iv k, z1, z2]) u := rep_agg_set (j := 3) r rfl fun _ h => nil_sl 6 h
/-- The zero version, as it lies. -/
abbrev vvN : AV := .agg [.d TR.nil.d, .d PT.nil.d, iv 0, .d (.v (.slice none 0 0)), iv 0, iv 0, cx 0 0, cx 0 0]
def vA0 : VS := ⟨⟨.nil, .nil, 0⟩, [], [], []⟩
theorem okA0 : okV vA0 := ⟨isS_nil, fun _ h => by simp [vA0] at h, by simp [vA0]⟩
def pA1 : VS × OP × Int := insVT vA0 1 0 97
def vA1 : VS := ⟨pA1.1.s, pA1.1.l, pA1.1.R, []⟩
def pA2 : VS × OP × Int := insVT vA1 1 1 98
def vA2 : VS := ⟨pA2.1.s, pA2.1.l, pA2.1.R, []⟩
def pA3 : VS × OP × Int := delVT vA2 0
theorem okV.out {v : VS} (h : okV v) : okV ⟨v.s, v.l, v.R, []⟩ := ⟨h.is, h.ck, h.len⟩
theorem okA1 : okV vA1 := (okA0.ins 1 0 97).1.out
theorem okA2 : okV vA2 := (okA1.ins 1 1 98).1.out
theorem okA3 : okV pA3.1 := (okA2.del 0).1
theorem InsN_c (site at_ ch : Int) : Cv 12 [vvN, iv site, iv at_, cv' ch] (resT (insVT vA0 site at_ ch)) := by
  refine Ct.view (VInsert_c (s := vA0.s) (l := vA0.l) okA0.is vA0.R (by decide) okA0.ck site at_ ch) rfl fun j a b ha hb γ H u r => ?_
  match j, ha, hb with
  | 0, ha, hb => cases ha; cases hb; exact nilV r
  | 1, ha, hb => cases ha; cases hb; exact r
  | 2, ha, hb => cases ha; cases hb; exact r
  | 3, ha, hb => cases ha; cases hb; exact r
theorem aw_l : byt (txtZ (rowE pA3.1.l)) = [98] := by decide +kernel
theorem aw_n : pA3.1.l.length = 3 := by decide +kernel
theorem aw_e : pA3.2.2 = 0 := by decide +kernel
theorem aw_out : pA3.1.out = [⟨3, 0, ⟨1, 1⟩, 97, true⟩] := by decide +kernel
theorem Awake8_c : Cv 10 [] (bv true) := by
  have h1 := InsN_c 1 0 97
  have h2 := VInsert_c okA1.is vA1.R (by have := okA1.len; omega) okA1.ck 1 1 98
  have h3 := VDelete_c okA2.is vA2.R (by have := okA2.len; omega) 0
  have tx := VText_c okA3.is pA3.1.R
  have sq := VSeq_c pA3.1.s pA3.1.l pA3.1.R
  rw [aw_l] at tx
  rw [aw_n] at sq
  have e1 : insVT vA0 1 0 97 = pA1 := rfl
  have e2 : insVT ⟨vA1.s, vA1.l, vA1.R, []⟩ 1 1 98 = pA2 := rfl
  have e3 : delVT ⟨vA2.s, vA2.l, vA2.R, []⟩ 0 = pA3 := rfl
  rw [e1] at h1
  rw [e2] at h2
  rw [e3] at h3
  have d1 : vA1 = ⟨pA1.1.s, pA1.1.l, pA1.1.R, []⟩ := rfl
  have d2 : vA2 = ⟨pA2.1.s, pA2.1.l, pA2.1.R, []⟩ := rfl
  rw [d1] at h2
  rw [d2] at h3
  have ho := aw_out
  have he := aw_e
  generalize pA3 = p3 at h3 tx sq ho he
  generalize pA2 = p2 at h2 h3
  generalize pA1 = p1 at h1 h2
  obtain ⟨v3, o3, e3'⟩ := p3
  obtain ⟨v2, o2, e2'⟩ := p2
  obtain ⟨v1, o1, e1'⟩ := p1
  unfold resT at h1 h2 h3
  simp only at h1 h2 h3 tx sq ho he
  rw [ho, he] at h3
  refine Ct.of_wv Tryz.f10 Tryz.func10 rfl rfl fun w H B g0 => ?_
  try refine WJ.cut ?_
  (first | refine Sq.go ?_ | refine vL_nil (Sq.go ?_) | skip)
  try refine WJ.cut ?_
  refine OpJ.callV h1 (fun _ _ => rfl) rfl rfl rfl ?_
  (repeat (first | refine Spl.t rfl ?_ | refine Spl.f rfl ?_))
  (first | refine Sq.go ?_ | refine vL_nil (Sq.go ?_) | skip)
  try refine WJ.cut ?_
  refine OpJ.callV h2 (fun _ _ => rfl) rfl rfl rfl ?_
  (repeat (first | refine Spl.t rfl ?_ | refine Spl.f rfl ?_))
  (first | refine Sq.go ?_ | refine vL_nil (Sq.go ?_) | skip)
  try refine WJ.cut ?_
  refine OpJ.callV h3 (fun _ _ => rfl) rfl rfl rfl ?_
  (repeat (first | refine Spl.t rfl ?_ | refine Spl.f rfl ?_))
  (first | refine Sq.go ?_ | refine vL_nil (Sq.go ?_) | skip)
  try refine vc_sound _ _ _ _ ?_
  refine OpJ.callV Awake2_c (fun _ _ => rfl) rfl rfl rfl ?_
  (repeat (first | refine Spl.t rfl ?_ | refine Spl.f rfl ?_))
  refine OpJ.callV Awake7_c (fun _ _ => rfl) rfl rfl rfl ?_
  (repeat (first | refine Spl.t rfl ?_ | refine Spl.f rfl ?_))
  refine OpJ.callV tx (fun _ _ => rfl) rfl rfl rfl ?_
  (repeat (first | refine Spl.t rfl ?_ | refine Spl.f rfl ?_))
  (try refine Spl.t (by decide) ?_)
  (repeat (first | refine Spl.t rfl ?_ | refine Spl.f rfl ?_))
  refine OpJ.callV sq (fun _ _ => rfl) rfl rfl rfl ?_
  (repeat (first | refine Spl.t rfl ?_ | refine Spl.f rfl ?_))
  (try refine Spl.t (by decide) ?_)
  (repeat (first | refine Spl.t rfl ?_ | refine Spl.f rfl ?_))
  refine IdxP.of (chD ⟨3, 0, ⟨1, 1⟩, 97, true⟩) (by decide) rfl ?_
  (repeat (first | refine Spl.t rfl ?_ | refine Spl.f rfl ?_))
  refine IdxP.of (chD ⟨3, 0, ⟨1, 1⟩, 97, true⟩) (by decide) rfl ?_
  (repeat (first | refine Spl.t rfl ?_ | refine Spl.f rfl ?_))
  exact FinP.open rfl rfl
end Go.Proofs.E
end
section
open Go Go.Gv
attribute [local irreducible] Go.Gv.WJ Go.Gv.OpJ Go.Gv.QJ Go.Gv.Spl Go.Gv.Req Go.Gv.IdxP Go.Gv.RegP Go.Gv.FinP Go.Gv.CellP Go.Gv.CellsP Go.Gv.ArrP Go.Gv.ArrsP Go.Gv.DropP Go.Gv.ByteP Go.Gv.StoreP
set_option maxRecDepth 100000
namespace Go.Proofs.E
attribute [local irreducible] elems
def okAct (x : ACT) : Prop := (-9223372036854775808 ≤ x.at_ ∧ x.at_ ≤ 9223372036854775807) ∧ (-2147483648 ≤ x.ch ∧ x.ch ≤ 2147483647)
theorem actRow (cs : List D) (h : (Ty.st [.int .u8, .st [.int .i64, .st [.int .i64, .int .i64], .st [.int .i64, .int .i64], .int .i32], .int .i64, .int .i64, .int .i32]).ok cs) : ∃ x : ACT, cs = actD x ∧ okAct x := by
  obtain ⟨_, _, rfl, ⟨k, rfl, _⟩, ⟨_, _, rfl, ⟨_, _, rfl, ⟨a0, rfl, _⟩, ⟨_, _, rfl, ⟨_, _, rfl, ⟨a1, rfl, _⟩, ⟨_, _, rfl, ⟨a2, rfl, _⟩, rfl⟩⟩, ⟨_, _, rfl, ⟨_, _, rfl, ⟨a3, rfl, _⟩, ⟨_, _, rfl, ⟨a4, rfl, _⟩, rfl⟩⟩, ⟨_, _, rfl, ⟨a5, rfl, _⟩, rfl⟩⟩⟩⟩, ⟨_, _, rfl, ⟨s, rfl, _⟩, ⟨_, _, rfl, ⟨at_, rfl, w⟩, ⟨_, _, rfl, ⟨ch, rfl, w2⟩, rfl⟩⟩⟩⟩⟩ := h
  exact ⟨⟨k, ⟨a0, ⟨a1, a2⟩, ⟨a3, a4⟩, a5⟩, s, at_, ch⟩, rfl, i64_rng w, i32_rng w2⟩
end Go.Proofs.E
end
section
open Go Go.Gv
attribute [local irreducible] Go.Gv.WJ Go.Gv.OpJ Go.Gv.QJ Go.Gv.Spl Go.Gv.Req Go.Gv.IdxP Go.Gv.RegP Go.Gv.FinP Go.Gv.CellP Go.Gv.CellsP Go.Gv.ArrP Go.Gv.ArrsP Go.Gv.DropP Go.Gv.ByteP Go.Gv.StoreP
set_option maxRecDepth 100000
namespace Go.Proofs.E
attribute [local irreducible] elems
end Go.Proofs.E
end
section
open Go Go.Gv
attribute [local irreducible] Go.Gv.WJ Go.Gv.OpJ Go.Gv.QJ Go.Gv.Spl Go.Gv.Req Go.Gv.IdxP Go.Gv.RegP Go.Gv.FinP Go.Gv.CellP Go.Gv.CellsP Go.Gv.ArrP Go.Gv.ArrsP Go.Gv.DropP Go.Gv.ByteP Go.Gv.StoreP
set_option maxRecDepth 100000
namespace Go.Proofs.E
attribute [local irreducible] elems
end Go.Proofs.E
end
section
open Go Go.Gv
attribute [local irreducible] Go.Gv.WJ Go.Gv.OpJ Go.Gv.QJ Go.Gv.Spl Go.Gv.Req Go.Gv.IdxP Go.Gv.RegP Go.Gv.FinP Go.Gv.CellP Go.Gv.CellsP Go.Gv.ArrP Go.Gv.ArrsP Go.Gv.DropP Go.Gv.ByteP Go.Gv.StoreP
set_option maxRecDepth 100000
namespace Go.Proofs.E
/-! ### Nothing that waits could be done -/
theorem rank_mono (L : List EL) {i j : Nat} (h : i ≤ j) : rankL L (i : Nat) ≤ rankL L (j : Nat) := by
  unfold rankL
  rw [Int.toNat_natCast, Int.toNat_natCast]
  have e : L.take i = (L.take j).take i := by rw [List.take_take, Nat.min_eq_left h]
  rw [e]
  have := (List.take_append_drop i (L.take j))
  conv => rhs; rw [← this]
  rw [List.filter_append, List.length_append]; omega
theorem rank_app (A B : List EL) {i : Nat} (h : A.length ≤ i) : rankL (A ++ B) (i : Nat) = liveL A + rankL B ((i - A.length : Nat) : Nat) := by
  unfold rankL liveL
  rw [Int.toNat_natCast, Int.toNat_natCast, List.take_append, List.take_of_length_le h, List.filter_append, List.length_append]
theorem rank_lt (A B : List EL) {i : Nat} (h : i ≤ A.length) : rankL (A ++ B) (i : Nat) = rankL A (i : Nat) := rank_left A B i (by omega)
theorem live_take (L : List EL) (p : Nat) : liveL (L.take p) = rankL L (p : Nat) := by unfold liveL rankL; rw [Int.toNat_natCast]
theorem one_alive {e : EL} (h : e.dead = false) : TR.one e = 1 := by unfold TR.one; rw [h]
theorem one_dead {e : EL} (h : e.dead = true) : TR.one e = 0 := by unfold TR.one; rw [h]
theorem rank_cons (x : EL) (L : List EL) (p : Nat) : rankL (x :: L) ((p + 1 : Nat) : Int) = TR.one x + rankL L (p : Nat) := by
  unfold rankL TR.one
  rw [Int.toNat_natCast, Int.toNat_natCast, List.take_succ_cons, List.filter_cons]
  cases x.dead <;> simp; omega
/-- Of a row with one more, alive, at a place. -/
theorem rank_ins {L : List EL} {p : Nat} (hp : p ≤ L.length) {e : EL} (he : e.dead = false) (q : Nat) :
    (q ≤ p → rankL (L.take p ++ e :: L.drop p) (q : Nat) = rankL L (q : Nat)) ∧ (p ≤ q → rankL (L.take p ++ e :: L.drop p) ((q + 1 : Nat) : Int) = rankL L (q : Nat) + 1) := by
  have hl : (L.take p).length = p := by rw [List.length_take]; omega
  have hL : L = L.take p ++ L.drop p := (List.take_append_drop p L).symm
  refine ⟨fun h => ?_, fun h => ?_⟩
  · rw [rank_lt _ _ (by omega)]
    conv => rhs; rw [hL]
    rw [rank_lt _ _ (by omega)]
  · rw [rank_app _ _ (by omega), hl, show q + 1 - p = (q - p) + 1 by omega, rank_cons, one_alive he]
    conv => rhs; rw [hL]
    rw [rank_app _ _ (by omega), hl]; omega
/-- Of a row one of which is no more alive. -/
theorem rank_del {L : List EL} {n : Nat} {e d : EL} (hn : L[n]? = some e) (he : e.dead = false) (hd : d.dead = true) (q : Nat) :
    (q ≤ n → rankL (L.set n d) (q : Nat) = rankL L (q : Nat)) ∧ (n < q → rankL (L.set n d) (q : Nat) + 1 = rankL L (q : Nat)) := by
  obtain ⟨hlt, hg⟩ := List.getElem?_eq_some_iff.1 hn
  have hl : (L.take n).length = n := by rw [List.length_take]; omega
  have e2 : L.drop n = e :: L.drop (n + 1) := by rw [List.drop_eq_getElem_cons hlt, hg]
  have hL : L = L.take n ++ e :: L.drop (n + 1) := by rw [← e2]; exact (List.take_append_drop n L).symm
  have hS : L.set n d = L.take n ++ d :: L.drop (n + 1) := List.set_eq_take_append_cons_drop .. |>.trans (if_pos hlt)
  refine ⟨fun h => ?_, fun h => ?_⟩
  · rw [hS, rank_lt _ _ (by omega)]
    conv => rhs; rw [hL]
    rw [rank_lt _ _ (by omega)]
  · rw [hS, rank_app _ _ (by omega), hl, show q - n = (q - n - 1) + 1 by omega, rank_cons, one_dead hd]
    conv => rhs; rw [hL]
    rw [rank_app _ _ (by omega), hl, show q - n = (q - n - 1) + 1 by omega, rank_cons, one_alive he]
    simp only [Nat.add_sub_cancel]; omega
end Go.Proofs.E
end
section
open Go Go.Gv
attribute [local irreducible] Go.Gv.WJ Go.Gv.OpJ Go.Gv.QJ Go.Gv.Spl Go.Gv.Req Go.Gv.IdxP Go.Gv.RegP Go.Gv.FinP Go.Gv.CellP Go.Gv.CellsP Go.Gv.ArrP Go.Gv.ArrsP Go.Gv.DropP Go.Gv.ByteP Go.Gv.StoreP
set_option maxRecDepth 100000
namespace Go.Proofs.E
end Go.Proofs.E
end
section
open Go Go.Gv
attribute [local irreducible] Go.Gv.WJ Go.Gv.OpJ Go.Gv.QJ Go.Gv.Spl Go.Gv.Req Go.Gv.IdxP Go.Gv.RegP Go.Gv.FinP Go.Gv.CellP Go.Gv.CellsP Go.Gv.ArrP Go.Gv.ArrsP Go.Gv.DropP Go.Gv.ByteP Go.Gv.StoreP
set_option maxRecDepth 100000
namespace Go.Proofs.E
theorem rank_live (L : List EL) (p : Nat) : rankL L (p : Nat) ≤ liveL L := by
  by_cases h : p ≤ L.length
  · have := rank_mono L h
    rw [rank_all] at this; exact this
  · unfold rankL
    rw [Int.toNat_natCast, List.take_of_length_le (by omega)]; exact Nat.le_refl _
end Go.Proofs.E
end
section
namespace Go.Gv
open Go.RowKit
/-! ### The bytes of a rune -/
def encN (m : Nat) : List Nat :=
  if m < 128 then [m] else if m < 2048 then [192 + m / 64, 128 + m % 64] else if m < 65536 then [224 + m / 4096, 128 + m / 64 % 64, 128 + m % 64]
  else [240 + m / 262144, 128 + m / 4096 % 64, 128 + m / 64 % 64, 128 + m % 64]
def validN (m : Nat) : Prop := m < 55296 ∨ (57344 ≤ m ∧ m ≤ 1114111)
theorem valid_is {m : Nat} (h : validN m) : Utf8.valid m = true := by
  unfold validN at h
  simp only [Utf8.valid, Bool.or_eq_true, Bool.and_eq_true, decide_eq_true_eq]; omega
theorem encN_Z {m : Nat} (h : validN m) : Lib.encodeRuneZ m = (encN m).map fun x : Nat => (x : Int) := by
  unfold validN at h
  unfold encN
  split
  · rw [Lib.encodeRuneZ_one (by omega) (by omega)]; rfl
  · split
    · rw [Lib.encodeRuneZ_two (by omega) (by omega)]; simp
    · split
      · rw [Lib.encodeRuneZ_three (by omega)]; simp
      · rw [Lib.encodeRuneZ_four (by omega) (by omega)]; simp
theorem encode_is {m : Nat} (h : validN m) : Utf8.encode m = ⟨⟨(encN m).map UInt8.ofNat⟩⟩ := by
  have hv := valid_is h
  unfold Utf8.encode encN
  simp only [hv, if_true, Int.toNat_natCast]
  split
  · rfl
  · split
    · rfl
    · split <;> rfl
theorem decode_is {s : ByteArray} {i m : Nat} (hv : validN m) (h : ∀ k x, (encN m)[k]? = some x → i + k < s.size ∧ (s.get! (i + k)).toNat = x) : Utf8.decode s i = (m, (encN m).length) := by
  have hvv := valid_is hv
  unfold validN at hv
  unfold encN at h ⊢
  by_cases h1 : m < 128
  · simp only [h1, if_true] at h ⊢
    have h0 := (h 0 _ rfl).2
    simp only [Nat.add_zero] at h0
    simp only [Utf8.decode, Nat.add_zero, h0, h1, if_true]; rfl
  · simp only [h1, if_false] at h ⊢
    by_cases h2 : m < 2048
    · simp only [h2, if_true] at h ⊢
      have h0 := (h 0 _ rfl).2
      obtain ⟨a1, e1⟩ := h 1 _ rfl
      simp only [Nat.add_zero] at h0
      have q0 : ¬ 192 + m / 64 < 128 := by omega
      have q1 : (192 + m / 64) / 32 = 6 := by omega
      have q2 : (128 + m % 64) / 64 = 2 := by omega
      have hc : (192 + m / 64) % 32 * 64 + (128 + m % 64) % 64 = m := by omega
      have q3 : m ≥ 128 := by omega
      simp only [Utf8.decode, Nat.add_zero, h0, e1, a1, q0, q1, q2, hc, q3, decide_true, beq_self_eq_true, Bool.and_self, if_true, if_false]; rfl
    · simp only [h2, if_false] at h ⊢
      by_cases h3 : m < 65536
      · simp only [h3, if_true] at h ⊢
        have h0 := (h 0 _ rfl).2
        obtain ⟨a1, e1⟩ := h 1 _ rfl
        obtain ⟨a2, e2⟩ := h 2 _ rfl
        simp only [Nat.add_zero] at h0
        have q0 : ¬ 224 + m / 4096 < 128 := by omega
        have q1 : ((224 + m / 4096) / 32 == 6) = false := by simp; omega
        have q1' : (224 + m / 4096) / 16 = 14 := by omega
        have q2 : (128 + m / 64 % 64) / 64 = 2 := by omega
        have q2' : (128 + m % 64) / 64 = 2 := by omega
        have hc : (224 + m / 4096) % 16 * 4096 + (128 + m / 64 % 64) % 64 * 64 + (128 + m % 64) % 64 = m := by omega
        have q3 : m ≥ 2048 := by omega
        simp only [Utf8.decode, Nat.add_zero, h0, e1, e2, a1, a2, q0, q1, q1', q2, q2', hc, hvv, q3, decide_true, beq_self_eq_true, Bool.and_self, Bool.false_and, Bool.false_eq_true, if_true, if_false]; rfl
      · simp only [h3, if_false] at h ⊢
        have h0 := (h 0 _ rfl).2
        obtain ⟨a1, e1⟩ := h 1 _ rfl
        obtain ⟨a2, e2⟩ := h 2 _ rfl
        obtain ⟨a3, e3⟩ := h 3 _ rfl
        simp only [Nat.add_zero] at h0
        have q0 : ¬ 240 + m / 262144 < 128 := by omega
        have q1 : ((240 + m / 262144) / 32 == 6) = false := by simp; omega
        have q1' : ((240 + m / 262144) / 16 == 14) = false := by simp; omega
        have q1'' : (240 + m / 262144) / 8 = 30 := by omega
        have q2 : (128 + m / 4096 % 64) / 64 = 2 := by omega
        have q2' : (128 + m / 64 % 64) / 64 = 2 := by omega
        have q2'' : (128 + m % 64) / 64 = 2 := by omega
        have hc : (240 + m / 262144) % 8 * 262144 + (128 + m / 4096 % 64) % 64 * 4096 + (128 + m / 64 % 64) % 64 * 64 + (128 + m % 64) % 64 = m := by omega
        have q3 : m ≥ 65536 := by omega
        simp only [Utf8.decode, Nat.add_zero, h0, e1, e2, e3, a1, a2, a3, q0, q1, q1', q1'', q2, q2', q2'', hc, hvv, q3, decide_true, beq_self_eq_true, Bool.and_self, Bool.false_and, Bool.false_eq_true, if_true, if_false]; rfl
theorem encN_lt {m : Nat} (h : validN m) : ∀ x, x ∈ encN m → x < 256 := fun x hx => by
  unfold validN at h
  unfold encN at hx
  split at hx
  · simp at hx; omega
  · split at hx
    · simp at hx; omega
    · split at hx
      · simp at hx; omega
      · simp at hx; omega
theorem encN_len (m : Nat) : 1 ≤ (encN m).length := by
  unfold encN
  split
  · simp
  · split
    · simp
    · split <;> simp
/-- The text of runes. -/
def bytesN (ms : List Nat) : List UInt8 := (ms.flatMap encN).map UInt8.ofNat
theorem runesFrom_is (l : List UInt8) : ∀ (ms : List Nat) (bound i : Nat) (acc : Array Value), (∀ m, m ∈ ms → validN m) → l.drop i = bytesN ms → i ≤ l.length → l.length - i ≤ bound →
    Conv.runesFrom ⟨⟨l⟩⟩ bound i acc = acc ++ (ms.map fun m : Nat => Value.int .i32 (m : Int)).toArray
  | [], bound, i, acc, _, hd, hi, hb => by
    have hz : l.length ≤ i := by
      have := congrArg List.length hd
      rw [List.length_drop] at this
      simp [bytesN] at this; omega
    cases bound with
    | zero => simp [Conv.runesFrom]
    | succ b =>
      unfold Conv.runesFrom
      rw [if_neg (show ¬ i < (⟨⟨l⟩⟩ : ByteArray).size from by show ¬ i < l.length; omega)]; simp
  | m :: ms, bound, i, acc, hv, hd, hi, hb => by
    have hvm := hv m (by simp)
    have hlen := encN_len m
    have hsplit : l.drop i = (encN m).map UInt8.ofNat ++ bytesN ms := by rw [hd]; simp [bytesN]
    have hll := congrArg List.length hsplit
    rw [List.length_drop, List.length_append, List.length_map] at hll
    have hdec := decode_is (s := ⟨⟨l⟩⟩) (i := i) hvm (fun k x hx => by
      have hk : k < (encN m).length := (List.getElem?_eq_some_iff.1 hx).1
      have h1 : l[i + k]? = some (UInt8.ofNat x) := by
        have := congrArg (fun r => r[k]?) hsplit
        simp only [List.getElem?_drop] at this
        rw [this, List.getElem?_append_left (by simpa using hk), List.getElem?_map, hx]; rfl
      have hik : i + k < l.length := (List.getElem?_eq_some_iff.1 h1).1
      refine ⟨hik, ?_⟩
      have h2 : (⟨⟨l⟩⟩ : ByteArray).get! (i + k) = UInt8.ofNat x := by
        show (⟨l⟩ : Array UInt8)[i + k]! = _
        rw [getElem!_def]
        have : (⟨l⟩ : Array UInt8)[i + k]? = some (UInt8.ofNat x) := by simpa using h1
        rw [this]
      rw [h2]
      have := encN_lt hvm x (List.mem_of_getElem? hx)
      simp; omega)
    cases bound with
    | zero => omega
    | succ b =>
      unfold Conv.runesFrom
      rw [if_pos (show i < (⟨⟨l⟩⟩ : ByteArray).size from by show i < l.length; omega), hdec]
      simp only
      rw [runesFrom_is l ms b (i + (encN m).length) _ (fun x hx => hv x (by simp [hx])) ?_ (by omega) (by omega)]
      · simp
      · have : l.drop (i + (encN m).length) = (l.drop i).drop (encN m).length := by rw [List.drop_drop]
        rw [this, hsplit, List.drop_append_of_le_length (by simp)]
        simp
theorem runesBytes_is : ∀ (ms : List Nat), (∀ m, m ∈ ms → validN m) → runesBytes (ms.map fun m : Nat => (m : Int)) = ⟨⟨bytesN ms⟩⟩ := by
  have gen : ∀ (ms : List Nat) (s : List UInt8), (∀ m, m ∈ ms → validN m) → (ms.map fun m : Nat => (m : Int)).foldl (fun r n => r ++ Utf8.encode n) (⟨⟨s⟩⟩ : ByteArray) = ⟨⟨s ++ bytesN ms⟩⟩ := fun ms => by
    induction ms with
    | nil => intro s _; simp [bytesN]
    | cons m ms ih =>
      intro s hv
      rw [List.map_cons, List.foldl_cons, encode_is (hv m (by simp))]
      have : (⟨⟨s⟩⟩ : ByteArray) ++ ⟨⟨(encN m).map UInt8.ofNat⟩⟩ = ⟨⟨s ++ (encN m).map UInt8.ofNat⟩⟩ := by
        apply ByteArray.ext
        simp
      rw [this, ih _ fun x hx => hv x (by simp [hx])]
      simp [bytesN]
  intro ms hv
  unfold runesBytes
  have := gen ms [] hv
  rw [List.nil_append] at this
  exact this
/-! ### The operations -/
abbrev ruD (n : Int) : List D := [.v (.int .i32 n)]
section ops
variable {X : Cx} {d : Option Nat} {ty : TypeId} {pos : String} {aft : Array Edge} {g : Option (Nat × Bool)} {t : T} {σ : Sg} {K : T → Sg → Prop}
theorem O.runesStr {src dst el : TypeId} {x : Operand} {av : AV} {xs : List (List D)} {ns : List Int} (hx : ge t x = some av) (hel : elems av = some (1, xs)) (hb : xs = ns.map ruD)
    (hs : X.P.underlying src = some (.slice el)) (hd : X.P.underlying dst = some .string) (he : X.P.underlying el = some (.int .i32)) :
    QJ X ⟨d, .convert src dst x, ty, pos, aft, g⟩ t σ (.d (.v (.string (runesBytes ns)))) :=
  QJ.value (by simp) (fun γ H a w so sm => by
    have h1 := rep_elems (so _ (by simp [Op.operands]) _ hx) hel
    refine ⟨.string (runesBytes ns), ?_, .d _ _ (.v _ rfl)⟩
    generalize hq : a.eval x = q at h1
    subst hb
    have hq2 : ∃ A n c, q = .slice A n c := by cases h1; exact ⟨_, _, _, rfl⟩
    have hconv : (Conv.runesToString q).run X.P w = .ok (.string (runesBytes ns)) w := by
      cases h1 with
      | sl _ _ A c b o us hk hn hc hA hH h =>
        rw [List.length_map] at hA hH ⊢
        cases A with
        | none =>
          have h0 : ns = [] := by
            cases ns with
            | nil => rfl
            | cons y r => exact absurd (hA (by simp)) (by simp)
          subst h0
          simp [Conv.runesToString, runesBytes]
        | some ad =>
          have hload : (loadCells ad ns.length).run X.P w = .ok (ns.map (Value.int .i32)).toArray w := by
            by_cases h0 : ns.length = 0
            · have e0 : ns = [] := List.length_eq_zero_iff.1 h0
              subst e0
              simp [loadCells, loadCellsFrom]
            · have hA' := hA (by omega)
              simp only [Option.some.injEq] at hA'
              subst hA'
              have key := load_cells (P := X.P) (w := w) (b := b) (vs := fun j => .int .i32 (ns.getD j 0)) ns.length o 0 #[] (fun j hj => by
                have hx1 : (ns.map ruD)[j]? = some (ruD ns[j]) := by simp [hj]
                have h3 := h j 0 _ _ hx1 (by rfl)
                have h4 : us j 0 = .int .i32 ns[j] := rep_v (γ := γ) (.d _ _ h3)
                have h5 := hH j 0 hj (by omega)
                rw [h4] at h5
                have h6 := sm.hok.c _ _ _ h5
                rw [show o + 0 + j = o + j * 1 + 0 from by omega, h6, Nat.zero_add, List.getD_eq_getElem?_getD, List.getElem?_eq_getElem hj]; rfl)
              simp only [loadCells]
              rw [key]
              congr 1
              apply Array.toList_inj.1
              simp only [Array.toList_append, List.nil_append, List.toList_toArray]
              apply List.ext_getElem?
              intro j
              by_cases hj : j < ns.length
              · simp [hj, List.getElem?_range', List.getD_eq_getElem?_getD]
              · rw [List.getElem?_eq_none (by simp; omega), List.getElem?_eq_none (by simp; omega)]
          exact run_runesToString w ad ns.length c ns hload
    obtain ⟨A, n, c, rfl⟩ := hq2
    have hcv : (convert src dst (.slice A n c)).run X.P w = .ok (.string (runesBytes ns)) w := by
      simp only [convert, Sem.run_bind, run_underlying hs, run_underlying hd, Result.andThen_ok, run_underlying he]
      exact hconv
    simp only [execOp, hq, Sem.run_bind, hcv, Result.andThen_ok]; rfl)
/-- A text as a row of runes, given to all at once. -/
theorem O.strRunes {src dst el : TypeId} {x : Operand} {s : ByteArray} {ns : List Int} (hx : ge t x = some (.d (.v (.string s)))) (hr : Conv.runesFrom s s.size 0 #[] = (ns.map (Value.int .i32)).toArray) (hn : ns.length ≤ 70368744177664)
    (hs : X.P.underlying src = some .string) (hd : X.P.underlying dst = some (.slice el)) (he : X.P.underlying el = some (.int .i32)) :
    QJ X ⟨d, .convert src dst x, ty, pos, aft, g⟩ t σ (.d (.sl 1 (ns.map ruD))) := by
  intro γ H a w hl so sm next Q' hk
  have hq := rep_v (so x (by simp [Op.operands]) _ hx)
  have hsz : (Conv.runesFrom s s.size 0 #[]).size = ns.length := by rw [hr]; simp
  have hrun := run_runes_of_string (P := X.P) w src dst el s hs hd he (by rw [hsz]; exact hn)
  rw [hsz, hr] at hrun
  have hcap := grownCap_ge w ns.length 0 el
  generalize grownCap w ns.length 0 el = cap at hrun hcap
  have hexec : (execOp a.eval ⟨d, .convert src dst x, ty, pos, aft, g⟩).run X.P w = .ok (.value (.slice (some ⟨w.heap.size, 0, none⟩) ns.length cap)) (w.drew.alloc (.cells ((ns.map (Value.int .i32)).toArray ++ Array.replicate (cap - ns.length) (.int .i32 0)) el)) := by
    simp only [execOp, hq, Sem.run_bind, hrun, Result.andThen_ok]; rfl
  rw [semAt_of (by simp), hexec, Oper.uponIn_value]
  have hm0 := sm.drew.new 0 (.arr 1 (ns.map ruD)) (.cells ((ns.map (Value.int .i32)).toArray ++ Array.replicate (cap - ns.length) (.int .i32 0)) el) cap
      ⟨by rw [upd_same, List.length_map]; exact hcap, fun cs hcs => by obtain ⟨n, _, rfl⟩ := List.mem_map.1 hcs; rfl, fun _ => by
        rw [upd_same]
        refine ⟨el, ns.map (Value.int .i32) ++ List.replicate (cap - ns.length) (.int .i32 0), ?_, ?_, ?_⟩
        · rw [World.alloc_heap_new]; simp
        · rw [List.length_append, List.length_map, List.length_replicate]
          show ns.length + (cap - ns.length) = cap * 1
          omega
        · intro j l cs a' u h1 h2 h3
          obtain ⟨n, hn', rfl⟩ := List.mem_map.1 (List.mem_of_getElem? h1)
          have hjl : j < ns.length := by have := (List.getElem?_eq_some_iff.1 h1).1; simpa using this
          have hl0 : l = 0 := by
            have := (List.getElem?_eq_some_iff.1 h2).1
            simp at this; omega
          subst hl0
          rw [List.getElem?_map, List.getElem?_eq_getElem hjl] at h1
          simp only [Option.map_some, Option.some.injEq] at h1
          rw [Nat.mul_one, Nat.add_zero, List.getElem?_append_left (by simpa using hjl), List.getElem?_map, List.getElem?_eq_getElem hjl] at h3
          simp only [Option.map_some, Option.some.injEq] at h3
          subst h3
          rw [← h1] at h2
          simp at h2
          subst h2
          exact .v _ rfl⟩ (fun _ _ h => by cases h)
  have hm' : Mem w H (fun _ => False) (upd γ 0 ⟨w.heap.size, cap, fun _ => False⟩) H [(0, .arr 1 (ns.map ruD))] (w.drew.alloc (.cells ((ns.map (Value.int .i32)).toArray ++ Array.replicate (cap - ns.length) (.int .i32 0)) el)) :=
    ⟨⟨hm0.keep.os, hm0.keep.tape, hm0.keep.output, hm0.keep.size, hm0.keep.block⟩, hm0.hle, ⟨hm0.hnew.c, hm0.hnew.m⟩, hm0.hok, hm0.ent, hm0.free, hm0.fresh, hm0.apart⟩
  have hl0 : look 0 ([(0, Ent.arr 1 (ns.map ruD))] : Sg) = some (.arr 1 (ns.map ruD)) := by rw [look_cons, if_pos rfl]
  obtain ⟨H', ok, hk2⟩ := hm'.pub hl0 rfl
  have hj := hm'.join (σr := []) hk2 (fun b hb => ⟨0, _, hl0, rfl, hb⟩) (Wk.nil _) (fun i e h => by cases h) (fun i e h => by cases h)
  refine hk _ _ _ H' _ hj (.d _ _ ?_)
  have h3 := ok ns.length (some ⟨w.heap.size, 0, none⟩) (by simp) (by rw [upd_same]; exact hcap) (fun _ => by rw [upd_same]) (by omega)
  rw [List.take_of_length_le (by simp), upd_same] at h3
  exact h3
abbrev ruN (m : Nat) : List D := ruD (m : Int)
theorem O.runesStrN {src dst el : TypeId} {x : Operand} {av : AV} {xs : List (List D)} (ms : List Nat) (hx : ge t x = some av) (hel : elems av = some (1, xs)) (hb : xs = ms.map ruN) (hv : ∀ m, m ∈ ms → validN m)
    (hs : X.P.underlying src = some (.slice el)) (hd : X.P.underlying dst = some .string) (he : X.P.underlying el = some (.int .i32)) :
    QJ X ⟨d, .convert src dst x, ty, pos, aft, g⟩ t σ (.d (.v (.string ⟨⟨bytesN ms⟩⟩))) := by
  have h := O.runesStr (X := X) (d := d) (ty := ty) (pos := pos) (aft := aft) (g := g) (t := t) (σ := σ) (ns := ms.map fun m : Nat => (m : Int)) hx hel (by rw [hb, List.map_map]; rfl) hs hd he
  rw [runesBytes_is ms hv] at h
  exact h
theorem O.strRunesN {src dst el : TypeId} {x : Operand} (ms : List Nat) (hx : ge t x = some (.d (.v (.string ⟨⟨bytesN ms⟩⟩)))) (hv : ∀ m, m ∈ ms → validN m) (hn : ms.length ≤ 70368744177664)
    (hs : X.P.underlying src = some .string) (hd : X.P.underlying dst = some (.slice el)) (he : X.P.underlying el = some (.int .i32)) :
    QJ X ⟨d, .convert src dst x, ty, pos, aft, g⟩ t σ (.d (.sl 1 (ms.map ruN))) := by
  have h := O.strRunes (X := X) (d := d) (ty := ty) (pos := pos) (aft := aft) (g := g) (t := t) (σ := σ) (ns := ms.map fun m : Nat => (m : Int)) hx (by
    have h0 := runesFrom_is (bytesN ms) ms (bytesN ms).length 0 #[] hv rfl (Nat.zero_le _) (Nat.sub_le _ _)
    refine Eq.trans h0 ?_
    simp) (by rw [List.length_map]; exact hn) hs hd he
  rw [List.map_map] at h
  exact h
end ops
end Go.Gv
end
section
open Go Go.Gv
attribute [local irreducible] Go.Gv.WJ Go.Gv.OpJ Go.Gv.QJ Go.Gv.Spl Go.Gv.Req Go.Gv.IdxP Go.Gv.RegP Go.Gv.FinP Go.Gv.CellP Go.Gv.CellsP Go.Gv.ArrP Go.Gv.ArrsP Go.Gv.DropP Go.Gv.ByteP Go.Gv.StoreP
set_option maxRecDepth 100000
namespace Go.Proofs.E
/-- The runes of those alive. -/
def msL (L : List EL) : List Nat := (L.filter fun e => !e.dead).map fun e => e.ch.toNat
theorem ms_len (L : List EL) : (msL L).length = liveL L := by unfold msL liveL; rw [List.length_map]
theorem ms_app (A B : List EL) : msL (A ++ B) = msL A ++ msL B := by unfold msL; rw [List.filter_append, List.map_append]
theorem ms_cons (e : EL) (L : List EL) : msL (e :: L) = if e.dead = true then msL L else e.ch.toNat :: msL L := by
  unfold msL
  rw [List.filter_cons]
  cases e.dead <;> simp
theorem ms_take (L : List EL) (p : Nat) : msL (L.take p) = (msL L).take (rankL L (p : Nat)) := by
  have h : msL L = msL (L.take p) ++ msL (L.drop p) := by rw [← ms_app, List.take_append_drop]
  rw [h, ← live_take, ← ms_len, List.take_left]
theorem ms_drop (L : List EL) (p : Nat) : msL (L.drop p) = (msL L).drop (rankL L (p : Nat)) := by
  have h : msL L = msL (L.take p) ++ msL (L.drop p) := by rw [← ms_app, List.take_append_drop]
  rw [h, ← live_take, ← ms_len, List.drop_left]
def okC (c : Int) : Prop := 32 ≤ c ∧ c ≤ 1114111 ∧ ¬ (55296 ≤ c ∧ c ≤ 57343)
theorem checkO_okC {o : OP} (h : checkO o = 0) (hk : o.k = 0) : okC o.ch := by
  unfold checkO at h
  split at h
  · cases h
  · split at h
    · cases h
    · split at h
      · cases h
      · split at h
        · cases h
        · split at h
          · cases h
          · next h5 =>
            unfold okC
            exact ⟨by omega, by omega, by omega⟩
theorem okC_valid {c : Int} (h : okC c) : validN c.toNat := by
  unfold okC at h
  unfold validN; omega
theorem row_ch {l : List OP} (h : Dn l) : ∀ e, e ∈ rowE l → okC e.ch := fun e he => by
  obtain ⟨o, ho, rfl⟩ := (row_mem h).1 he
  exact checkO_okC (ok_insL h o ho) (mem_insL.1 ho).2
theorem ms_valid {L : List EL} (h : ∀ e, e ∈ L → okC e.ch) : ∀ m, m ∈ msL L → validN m := fun m hm => by
  unfold msL at hm
  obtain ⟨e, he, rfl⟩ := List.mem_map.1 hm
  exact okC_valid (h e (List.mem_filter.1 he).1)
theorem byt_encN {c : Int} (h : okC c) : byt (Lib.encodeRuneZ c) = (encN c.toNat).map UInt8.ofNat := by
  have hv := okC_valid h
  obtain ⟨m, hm⟩ : ∃ m : Nat, c = m := ⟨c.toNat, by unfold okC at h; omega⟩
  subst hm
  rw [Int.toNat_natCast] at hv ⊢
  rw [encN_Z hv]
  unfold byt
  rw [List.map_map]
  simp [Function.comp_def]
/-- A row's text, by its runes. -/
theorem txt_ms : ∀ {L : List EL}, (∀ e, e ∈ L → okC e.ch) → byt (txtZ L) = bytesN (msL L)
  | [], _ => rfl
  | e :: L, h => by
    have ih := txt_ms (L := L) fun x hx => h x (by simp [hx])
    rw [txtZ, ms_cons]
    split
    · exact ih
    · have : byt (Lib.encodeRuneZ e.ch ++ txtZ L) = byt (Lib.encodeRuneZ e.ch) ++ byt (txtZ L) := by unfold byt; rw [List.map_append]
      rw [this, ih, byt_encN (h e (by simp))]
      simp [bytesN]
end Go.Proofs.E
end
section
open Go Go.Gv
attribute [local irreducible] Go.Gv.WJ Go.Gv.OpJ Go.Gv.QJ Go.Gv.Spl Go.Gv.Req Go.Gv.IdxP Go.Gv.RegP Go.Gv.FinP Go.Gv.CellP Go.Gv.CellsP Go.Gv.ArrP Go.Gv.ArrsP Go.Gv.DropP Go.Gv.ByteP Go.Gv.StoreP
set_option maxRecDepth 100000
namespace Go.Proofs.E
attribute [local irreducible] elems
abbrev evD (c : CH) : List D := [.ifa 59 (chD c)]
abbrev evv (c : CH) : AV := .d (.ifa 59 (chD c))
abbrev lgv (f u : Int) : AV := .d (.ifa 161 [.v (.int .i64 f), .v (.int .i64 u)])
def kindS (c : CH) : List UInt8 := if c.del = true then [100, 101, 108, 101, 116, 101] else [105, 110, 115, 101, 114, 116]
theorem Kind_c (c : CH) : Cv 76 [evv c] (sv (kindS c)) := by
  refine Ct.of_vc Tryz.f76 Tryz.func76 rfl rfl fun w H B g0 => ?_
  (repeat (first | refine Spl.t rfl ?_ | refine Spl.f rfl ?_))
  refine Spl.of (fun h => ?_) (fun h => ?_)
  · rw [show kindS c = [100, 101, 108, 101, 116, 101] from if_pos h]
    (repeat (first | refine Spl.t rfl ?_ | refine Spl.f rfl ?_))
    exact FinP.open rfl rfl
  · rw [show kindS c = [105, 110, 115, 101, 114, 116] from if_neg (by rw [h]; exact Bool.false_ne_true)]
    (repeat (first | refine Spl.t rfl ?_ | refine Spl.f rfl ?_))
    exact FinP.open rfl rfl
theorem KindL_c (f u : Int) (h : 1 ≤ f ∧ f ≤ u) : Cv 76 [lgv f u] (sv [108, 97, 103]) := by
  have hm : Cv 117 [.agg [iv f, iv u]] (bv true) := by
    refine Ct.of_vc Tryz.f117 Tryz.func117 rfl rfl fun w H B g0 => ?_
    refine Spl.t (decide_eq_true (by omega)) ?_
    (repeat (first | refine Spl.t rfl ?_ | refine Spl.f rfl ?_))
    exact FinP.open rfl (congrArg bv (decide_eq_true (by omega)))
  refine Ct.of_vc Tryz.f76 Tryz.func76 rfl rfl fun w H B g0 => ?_
  (repeat (first | refine Spl.t rfl ?_ | refine Spl.f rfl ?_))
  refine OpJ.callV hm (fun _ _ => rfl) rfl rfl rfl ?_
  (repeat (first | refine Spl.t rfl ?_ | refine Spl.f rfl ?_))
  exact FinP.open rfl rfl
theorem span_c (c : CH) : Cv 77 [evv c] (.tup [iv c.seq, iv c.seq]) := by
  refine Ct.of_vc Tryz.f77 Tryz.func77 rfl rfl fun w H B g0 => ?_
  (repeat (first | refine Spl.t rfl ?_ | refine Spl.f rfl ?_))
  refine RegP.mixS 6 [] rfl (by decide +kernel) ?_
  exact FinP.open rfl rfl
theorem spanL_c (f u : Int) : Cv 77 [lgv f u] (.tup [iv f, iv u]) := by
  refine Ct.of_vc Tryz.f77 Tryz.func77 rfl rfl fun w H B g0 => ?_
  (repeat (first | refine Spl.t rfl ?_ | refine Spl.f rfl ?_))
  refine RegP.mixS 6 [] rfl (by decide +kernel) ?_
  exact FinP.open rfl rfl
/-- Does a change fit a text? -/
def fitC (ms : List Nat) (c : CH) : Prop := 0 ≤ c.at_ ∧ (c.del = true → ms[c.at_.toNat]? = some c.ch.toNat ∧ 0 ≤ c.ch) ∧ (c.del = false → c.at_.toNat ≤ ms.length ∧ 0 ≤ c.ch)
def oneC (ms : List Nat) (c : CH) : List Nat := if c.del = true then ms.take c.at_.toNat ++ ms.drop (c.at_.toNat + 1) else ms.take c.at_.toNat ++ c.ch.toNat :: ms.drop c.at_.toNat
theorem oneD_c (ms : List Nat) (q : Int) (k : Nat) (a b ch : Int) (hn : ms.length ≤ 1000000) (h3 : ms[k]? = some ch.toNat) (h4 : 0 ≤ ch) :
    Cv 78 [.d (.sl 1 (ms.map ruN)), .agg [iv q, iv k, iv a, iv b, cv' ch, bv true]] (.tup [.d (.sl 1 ((ms.take k ++ ms.drop (k + 1)).map ruN)), iv 0]) := by
  have hlt := (List.getElem?_eq_some_iff.1 h3).1
  have hch : (ch.toNat : Int) = ch := Int.toNat_of_nonneg h4
  have hw : IntKind.i64.wrap ((k : Int) + 1) = k + 1 := wrap_id _ (by omega) (by omega)
  refine Ct.of_vc Tryz.f78 Tryz.func78 rfl rfl fun w H B g0 => ?_
  refine Spl.f (decide_eq_false (by omega)) ?_
  (repeat (first | refine Spl.t rfl ?_ | refine Spl.f rfl ?_))
  refine Spl.f (decide_eq_false (by rw [List.length_map]; omega)) ?_
  (repeat (first | refine Spl.t rfl ?_ | refine Spl.f rfl ?_))
  refine Spl.f (decide_eq_false (by rw [List.length_map]; omega)) ?_
  (repeat (first | refine Spl.t rfl ?_ | refine Spl.f rfl ?_))
  refine RegP.of rfl (by decide +kernel) ?_
  (repeat (first | refine Spl.t rfl ?_ | refine Spl.f rfl ?_))
  refine IdxP.of (ruN ch.toNat) (by omega) (by rw [Int.toNat_natCast, List.getElem?_map, h3]; rfl) ?_
  (repeat (first | refine Spl.t rfl ?_ | refine Spl.f rfl ?_))
  refine Spl.f (by rw [hch]; simp) ?_
  (repeat (first | refine Spl.t rfl ?_ | refine Spl.f rfl ?_))
  refine RegP.mixS 14 [] rfl (by decide +kernel) ?_
  refine Req.of ⟨by omega, by omega, by rw [List.length_map]; omega, rfl⟩ ?_
  (repeat (first | refine Spl.t rfl ?_ | refine Spl.f rfl ?_))
  refine Req.of ⟨by rw [hw]; omega, by rw [hw, List.length_map]; omega, by rw [List.length_map]; omega⟩ ?_
  (repeat (first | refine Spl.t rfl ?_ | refine Spl.f rfl ?_))
  refine QuietP.of (QJ.appG rfl (.full _ _) (FlatQ.data rfl rfl) rfl (by simp only [List.length_drop, List.length_take, List.length_map]; omega)) ?_
  (repeat (first | refine Spl.t rfl ?_ | refine Spl.f rfl ?_))
  refine FinP.open rfl ?_
  rw [hw]
  exact congrArg (fun r => AV.tup [.d (.sl 1 r), iv 0]) (by simp [List.map_take, List.map_drop, List.take_of_length_le])
theorem oneI_c (ms : List Nat) (q : Int) (k : Nat) (a b ch : Int) (hn : ms.length ≤ 1000000) (h3 : k ≤ ms.length) (h4 : 0 ≤ ch) :
    Cv 78 [.d (.sl 1 (ms.map ruN)), .agg [iv q, iv k, iv a, iv b, cv' ch, bv false]] (.tup [.d (.sl 1 ((ms.take k ++ ch.toNat :: ms.drop k).map ruN)), iv 0]) := by
  have hch : (ch.toNat : Int) = ch := Int.toNat_of_nonneg h4
  refine Ct.of_vc Tryz.f78 Tryz.func78 rfl rfl fun w H B g0 => ?_
  refine Spl.f (decide_eq_false (by omega)) ?_
  (repeat (first | refine Spl.t rfl ?_ | refine Spl.f rfl ?_))
  refine Spl.f (decide_eq_false (by rw [List.length_map]; omega)) ?_
  (repeat (first | refine Spl.t rfl ?_ | refine Spl.f rfl ?_))
  refine RegP.of rfl (by decide +kernel) ?_
  (repeat (first | refine Spl.t rfl ?_ | refine Spl.f rfl ?_))
  refine RegP.mix 14 rfl (by decide +kernel) ?_
  refine Req.of ⟨by omega, by omega, by rw [List.length_map]; omega, rfl⟩ ?_
  refine QuietP.born (Go.Gv.B.appF (i := 66) rfl (.full _ _) (FlatQ.data rfl rfl) rfl (by simp only [List.length_drop, List.length_take, List.length_map]; show _ + 1 ≤ _; omega) (.inl (List.cons_ne_nil _ _))) ?_
  (repeat' (first | exact trivial | refine And.intro ?_ ?_))
  refine Req.of ⟨by omega, by rw [List.length_map]; omega, by rw [List.length_map]; omega⟩ ?_
  (repeat' (first | exact trivial | refine And.intro ?_ ?_))
  refine Req.of ⟨by simp only [List.length_append, List.length_drop, List.length_take, List.length_map], by simp only [List.length_drop, List.length_take, List.length_map]; show _ + 1 + _ ≤ _; omega⟩ ?_
  (repeat' (first | exact trivial | refine And.intro ?_ ?_))
  refine FinP.pubTup 66 0 rfl rfl (len_app3 _ _ _) (by simp only [List.length_drop, List.length_take, List.length_map]; show _ + 1 + _ ≤ _; omega) (FinP.open rfl ?_)
  refine congrArg (fun r => AV.tup [.d (.sl 1 r), iv 0]) ((take_app3 _ _ _).trans ?_)
  show List.drop (Int.toNat 0) (List.take (k : Int).toNat (ms.map ruN)) ++ [ruD ch] ++ List.drop (k : Int).toNat (List.take ((ms.map ruN).length : Int).toNat (ms.map ruN)) = _
  rw [← hch]
  simp [List.map_take, List.map_drop, List.take_of_length_le]
theorem one9_c (ms : List Nat) (c : CH) (hn : ms.length ≤ 1000000) (h : fitC ms c) : Cv 78 [.d (.sl 1 (ms.map ruN)), chv c] (.tup [.d (.sl 1 ((oneC ms c).map ruN)), iv 0]) := by
  obtain ⟨q, at_, i, ch, del⟩ := c
  obtain ⟨h0, h1, h2⟩ := h
  simp only at h0 h1 h2
  obtain ⟨k, rfl⟩ : ∃ k : Nat, at_ = k := ⟨at_.toNat, by omega⟩
  rw [Int.toNat_natCast] at h1 h2
  cases del with
  | true =>
    obtain ⟨h3, h4⟩ := h1 rfl
    have e1 : oneC ms ⟨q, k, i, ch, true⟩ = ms.take k ++ ms.drop (k + 1) := by unfold oneC; rw [if_pos rfl, Int.toNat_natCast]
    rw [e1]
    exact oneD_c ms q k i.c i.s ch hn h3 h4
  | false =>
    obtain ⟨h3, h4⟩ := h2 rfl
    have e1 : oneC ms ⟨q, k, i, ch, false⟩ = ms.take k ++ ch.toNat :: ms.drop k := by unfold oneC; rw [if_neg (show ¬ false = true from Bool.false_ne_true), Int.toNat_natCast]
    rw [e1]
    exact oneI_c ms q k i.c i.s ch hn h3 h4
end Go.Proofs.E
end
section
open Go Go.Gv
attribute [local irreducible] Go.Gv.WJ Go.Gv.OpJ Go.Gv.QJ Go.Gv.Spl Go.Gv.Req Go.Gv.IdxP Go.Gv.RegP Go.Gv.FinP Go.Gv.CellP Go.Gv.CellsP Go.Gv.ArrP Go.Gv.ArrsP Go.Gv.DropP Go.Gv.ByteP Go.Gv.StoreP
set_option maxRecDepth 100000
namespace Go.Proofs.E
attribute [local irreducible] elems
theorem kind_ne (c : CH) : decide (kindS c = [110, 111, 110, 101]) = false := by
  unfold kindS
  split <;> exact decide_eq_false (by simp)
theorem Follow_c (q : Int) (cs : List CH) (h0 : 0 ≤ q) (h1 : q ≤ 1000000) (hn : cs.length ≤ 1000000) (hs : ∀ (j : Nat) (c : CH), cs[j]? = some c → c.seq = q + j + 1) :
    Cv 37 [iv q, .d (.sl 1 (cs.map evD))] (.tup [iv (q + cs.length), iv 0]) := by
  refine Ct.of_vc Tryz.f37 Tryz.func37 rfl rfl fun w H B g0 => ?_
  refine WJ.loopK (V := Nat) (fun i => [(12, iv i), (0, iv (q + i))]) (fun _ => []) [] (fun i => cs.length - i) (fun i => i ≤ cs.length) 0 (by omega) ⟨rfl, some_iv (by simp), trivial⟩ (by repeat' (first | exact trivial | exact rfl | refine And.intro ?_ ?_)) ?_
  intro i hi
  refine Spl.of (fun h2 => ?_) (fun h2 => ?_)
  · have hlt : i < cs.length := by have := of_decide_eq_true h2; simp at this; omega
    have hx : cs[i]? = some cs[i] := by simp
    have hq := hs i _ hx
    generalize cs[i] = c at hx hq
    have hk := Kind_c c
    have hne := kind_ne c
    generalize kindS c = ks at hk hne
    have hw : IntKind.i64.wrap (c.seq - 1) = q + i := by rw [hq, show q + (i : Int) + 1 - 1 = q + i by omega]; exact wrap_id _ (by omega) (by omega)
    (repeat (first | refine Spl.t rfl ?_ | refine Spl.f rfl ?_))
    refine IdxP.of (evD c) (by omega) (by simp [hx]) ?_
    (repeat (first | refine Spl.t rfl ?_ | refine Spl.f rfl ?_))
    refine OpJ.callV hk (fun _ _ => rfl) rfl rfl rfl ?_
    (repeat (first | refine Spl.t rfl ?_ | refine Spl.f rfl ?_))
    refine Spl.f hne ?_
    (repeat (first | refine Spl.t rfl ?_ | refine Spl.f rfl ?_))
    refine OpJ.callV (span_c c) (fun _ _ => rfl) rfl rfl rfl ?_
    (repeat (first | refine Spl.t rfl ?_ | refine Spl.f rfl ?_))
    refine Spl.f (decide_eq_false (by omega)) ?_
    (repeat (first | refine Spl.t rfl ?_ | refine Spl.f rfl ?_))
    refine Spl.f (by rw [hw]; simp) ?_
    (repeat (first | refine Spl.t rfl ?_ | refine Spl.f rfl ?_))
    exact ⟨i + 1, by omega, by omega, ⟨some_iv (wrap_id _ (by omega) (by omega)), some_iv (by rw [hq]; simp; omega), trivial⟩, (by repeat' (first | exact trivial | exact rfl | refine And.intro ?_ ?_)), (by repeat' (first | exact trivial | exact rfl | refine And.intro ?_ ?_)), (by repeat' (first | exact trivial | exact rfl | refine And.intro ?_ ?_))⟩
  · have hie : i = cs.length := by have := of_decide_eq_false h2; simp at this; omega
    subst hie
    (repeat (first | refine Spl.t rfl ?_ | refine Spl.f rfl ?_))
    exact FinP.open rfl rfl
def fitL : List Nat → List CH → Prop
  | _, [] => True
  | ms, c :: r => fitC ms c ∧ fitL (oneC ms c) r
theorem one_len (ms : List Nat) (c : CH) : (oneC ms c).length ≤ ms.length + 1 := by
  unfold oneC
  split
  · simp; omega
  · simp; omega
theorem Replay_c (ms : List Nat) (cs : List CH) (hn : ms.length + cs.length ≤ 900000) (hv : ∀ m, m ∈ ms → validN m) (hf : fitL ms cs) (hv' : ∀ m, m ∈ cs.foldl oneC ms → validN m) :
    Cv 38 [sv (bytesN ms), .d (.sl 1 (cs.map evD))] (.tup [sv (bytesN (cs.foldl oneC ms)), iv 0]) := by
  refine Ct.of_vc Tryz.f38 Tryz.func38 rfl rfl fun w H B g0 => ?_
  refine OpJ.qu (O.strRunesN ms rfl hv (by omega) rfl rfl rfl) rfl ?_
  (repeat (first | refine Spl.t rfl ?_ | refine Spl.f rfl ?_))
  refine WJ.loopK (V := Nat × List Nat) (fun v => [(17, iv v.1), (6, .d (.sl 1 (v.2.map ruN)))]) (fun _ => []) [] (fun v => cs.length - v.1) (fun v => v.1 ≤ cs.length ∧ v.2.length ≤ ms.length + v.1 ∧ fitL v.2 (cs.drop v.1) ∧ (cs.drop v.1).foldl oneC v.2 = cs.foldl oneC ms) (0, ms) ⟨by simp, by simp, hf, rfl⟩ (by repeat' (first | exact trivial | exact rfl | refine And.intro ?_ ?_)) (by repeat' (first | exact trivial | exact rfl | refine And.intro ?_ ?_)) ?_
  rintro ⟨i, mi⟩ ⟨hi, hl, hfi, hfo⟩
  simp only at hi hl hfi hfo
  refine Spl.of (fun h2 => ?_) (fun h2 => ?_)
  · have hlt : i < cs.length := by have := of_decide_eq_true h2; simp at this; omega
    have hx : cs[i]? = some cs[i] := by simp
    have hdr : cs.drop i = cs[i] :: cs.drop (i + 1) := List.drop_eq_getElem_cons hlt
    rw [hdr] at hfi hfo
    generalize cs[i] = c at hx hfi hfo
    obtain ⟨f1, f2⟩ := hfi
    have h1c := one9_c mi c (by omega) f1
    have hl1 := one_len mi c
    rw [List.foldl_cons] at hfo
    have hk := Kind_c c
    have hne := kind_ne c
    generalize kindS c = ks at hk hne
    (repeat (first | refine Spl.t rfl ?_ | refine Spl.f rfl ?_))
    refine IdxP.of (evD c) (by omega) (by simp [hx]) ?_
    (repeat (first | refine Spl.t rfl ?_ | refine Spl.f rfl ?_))
    refine OpJ.callV hk (fun _ _ => rfl) rfl rfl rfl ?_
    (repeat (first | refine Spl.t rfl ?_ | refine Spl.f rfl ?_))
    refine Spl.f hne ?_
    (repeat (first | refine Spl.t rfl ?_ | refine Spl.f rfl ?_))
    refine OpJ.callV h1c (fun _ _ => rfl) rfl rfl rfl ?_
    (repeat (first | refine Spl.t rfl ?_ | refine Spl.f rfl ?_))
    exact ⟨(i + 1, oneC mi c), ⟨by simp only; omega, by simp only; omega, f2, hfo⟩, by simp only; omega, ⟨some_iv (wrap_id _ (by omega) (by omega)), rfl, trivial⟩, (by repeat' (first | exact trivial | exact rfl | refine And.intro ?_ ?_)), (by repeat' (first | exact trivial | exact rfl | refine And.intro ?_ ?_)), (by repeat' (first | exact trivial | exact rfl | refine And.intro ?_ ?_))⟩
  · have hie : i = cs.length := by have := of_decide_eq_false h2; simp at this; omega
    subst hie
    rw [List.drop_length] at hfo
    have hfo : mi = cs.foldl oneC ms := hfo
    rw [← hfo] at hv' ⊢
    (repeat (first | refine Spl.t rfl ?_ | refine Spl.f rfl ?_))
    refine OpJ.qu (O.runesStrN mi rfl rfl rfl hv' rfl rfl rfl) rfl ?_
    (repeat (first | refine Spl.t rfl ?_ | refine Spl.f rfl ?_))
    exact FinP.open rfl rfl
/-! ### The changes of applied operations -/
def chgs : List OP → List OP → List CH
  | _, [] => []
  | l, o :: r => chO l o :: chgs (l ++ [o]) r
theorem chgs_len : ∀ (l ops : List OP), (chgs l ops).length = ops.length
  | _, [] => rfl
  | l, o :: r => by rw [chgs, List.length_cons, chgs_len, List.length_cons]
theorem chgs_app : ∀ (l a b : List OP), chgs l (a ++ b) = chgs l a ++ chgs (l ++ a) b
  | l, [], b => by simp [chgs]
  | l, o :: r, b => by
    rw [List.cons_append, chgs, chgs, chgs_app (l ++ [o]) r b]
    simp
theorem chgs_seq : ∀ (l ops : List OP) (j : Nat) (c : CH), (chgs l ops)[j]? = some c → c.seq = (l.length : Nat) + j + 1
  | l, [], j, c, h => by simp [chgs] at h
  | l, o :: r, 0, c, h => by
    rw [chgs] at h
    simp at h
    rw [← h]
    unfold chO; simp
  | l, o :: r, j + 1, c, h => by
    rw [chgs] at h
    have := chgs_seq (l ++ [o]) r j c (by simpa using h)
    rw [this]; simp; omega
theorem Dn_last {l : List OP} {o : OP} (h : Dn (l ++ [o])) : Dn l ∧ wrongO l o = 0 := by
  generalize hl : l ++ [o] = l' at h
  cases h with
  | nil => simp at hl
  | @snoc l1 o1 h1 h2 =>
    obtain ⟨e1, e2⟩ := List.append_inj' hl rfl
    simp at e2
    subst e1; subst e2
    exact ⟨h1, h2⟩
theorem rank_le_len (L : List EL) (p : Nat) : rankL L (p : Nat) ≤ (msL L).length := by rw [ms_len]; exact rank_live L p
/-- An operation's change, on the text. -/
theorem step_fit {l : List OP} {o : OP} (h : Dn (l ++ [o])) : fitC (msL (rowE l)) (chO l o) ∧ oneC (msL (rowE l)) (chO l o) = msL (rowE (l ++ [o])) := by
  obtain ⟨hd, hw⟩ := Dn_last h
  obtain ⟨hc, h1⟩ := wrong_0 hw
  obtain ⟨n, e, hat, hpl, hget, hid⟩ := at_get hd hw
  have hoc := row_ch h e (List.mem_of_getElem? hget)
  rcases h1 with ⟨hk, _⟩ | ⟨hk, _⟩
  · -- a delete
    obtain ⟨n', ch, p1, p2, _, p3, p4⟩ := row_del hd hw hk
    have hn : n' = n := by omega
    subst hn
    have hlt := (List.getElem?_eq_some_iff.1 p2).1
    have hr := (rank_del p2 rfl (d := ⟨o.i, ch, true⟩) rfl n').1 (Nat.le_refl _)
    rw [← p3] at hr
    have he : e = ⟨o.i, ch, true⟩ := by
      rw [p3, List.getElem?_set_self hlt] at hget
      exact (Option.some.inj hget).symm
    have hch : chO l o = ⟨((l ++ [o]).length : Nat), ((rankL (rowE l) (n' : Nat) : Nat) : Int), o.i, ch, true⟩ := by
      unfold chO
      rw [hat, Int.toNat_natCast, hget, hr, he, decide_eq_true hk]; rfl
    have hsp : msL (rowE l) = (msL (rowE l)).take (rankL (rowE l) (n' : Nat)) ++ ch.toNat :: (msL (rowE l)).drop (rankL (rowE l) (n' : Nat) + 1) := by
      have e1 : rowE l = (rowE l).take n' ++ ⟨o.i, ch, false⟩ :: (rowE l).drop (n' + 1) := by
        have := (List.take_append_drop n' (rowE l)).symm
        rw [List.drop_eq_getElem_cons hlt, (List.getElem?_eq_some_iff.1 p2).2] at this
        exact this
      have e2 : msL (rowE l) = msL ((rowE l).take n') ++ ch.toNat :: msL ((rowE l).drop (n' + 1)) := by
        conv => lhs; rw [e1]
        rw [ms_app, ms_cons]; rfl
      have e3 : rankL (rowE l) ((n' + 1 : Nat) : Int) = rankL (rowE l) (n' : Nat) + 1 := by rw [rank_snoc p2]; rfl
      conv => lhs; rw [e2, ms_take, ms_drop, e3]
    have hlen := congrArg List.length hsp
    have hrl := rank_le_len (rowE l) n'
    have hgm : (msL (rowE l))[rankL (rowE l) (n' : Nat)]? = some ch.toNat := by
      rw [hsp, List.getElem?_append_right (by rw [List.length_take]; omega), List.length_take, Nat.min_eq_left hrl, Nat.sub_self]; rfl
    rw [he] at hoc
    unfold okC at hoc
    simp only at hoc
    rw [hch]
    refine ⟨⟨by simp, fun _ => ⟨by rw [Int.toNat_natCast]; exact hgm, by show 0 ≤ ch; omega⟩, fun h => by cases h⟩, ?_⟩
    unfold oneC
    rw [if_pos rfl, Int.toNat_natCast, p3]
    have hset : (rowE l).set n' ⟨o.i, ch, true⟩ = (rowE l).take n' ++ ⟨o.i, ch, true⟩ :: (rowE l).drop (n' + 1) := List.set_eq_take_append_cons_drop .. |>.trans (if_pos hlt)
    have e3 : rankL (rowE l) ((n' + 1 : Nat) : Int) = rankL (rowE l) (n' : Nat) + 1 := by rw [rank_snoc p2]; rfl
    rw [hset, ms_app, ms_cons, if_pos rfl, ms_take, ms_drop, e3]
  · -- an insert
    have hrow := row_ins hd hw hk
    have hle := posO_le hd hw hk
    have hpi := place_ins hd hw hk
    have hn : n = posO l o := by omega
    subst hn
    have hr := (rank_ins hle (e := ⟨o.i, o.ch, false⟩) rfl (posO l o)).1 (Nat.le_refl _)
    rw [← hrow] at hr
    have he : e = ⟨o.i, o.ch, false⟩ := by
      rw [hrow, List.getElem?_append_right (by rw [List.length_take]; omega), List.length_take, Nat.min_eq_left hle, Nat.sub_self] at hget
      exact (Option.some.inj hget).symm
    have hch : chO l o = ⟨((l ++ [o]).length : Nat), ((rankL (rowE l) (posO l o : Nat) : Nat) : Int), o.i, o.ch, false⟩ := by
      unfold chO
      rw [hat, Int.toNat_natCast, hget, hr, he, decide_eq_false (by omega)]; rfl
    have hrl := rank_le_len (rowE l) (posO l o)
    rw [he] at hoc
    unfold okC at hoc
    simp only at hoc
    rw [hch]
    refine ⟨⟨by simp, fun h => (by cases h), fun _ => ⟨by rw [Int.toNat_natCast]; exact hrl, by show 0 ≤ o.ch; omega⟩⟩, ?_⟩
    unfold oneC
    rw [if_neg (show ¬ false = true from Bool.false_ne_true), Int.toNat_natCast, hrow, ms_app, ms_cons, ms_take, ms_drop]; rfl
theorem chgs_fit : ∀ (l ops : List OP), Dn (l ++ ops) → fitL (msL (rowE l)) (chgs l ops) ∧ (chgs l ops).foldl oneC (msL (rowE l)) = msL (rowE (l ++ ops))
  | l, [], _ => by rw [chgs, List.append_nil]; exact ⟨trivial, rfl⟩
  | l, o :: r, h => by
    have e : l ++ o :: r = (l ++ [o]) ++ r := by simp
    rw [e] at h ⊢
    obtain ⟨s1, s2⟩ := step_fit (Dn_pre h)
    obtain ⟨i1, i2⟩ := chgs_fit (l ++ [o]) r h
    rw [chgs, List.foldl_cons, s2]
    exact ⟨⟨s1, by rw [s2]; exact i1⟩, i2⟩
/-- What a call takes in, and its changes. -/
theorem take_chg {v : VS} {l0 ops : List OP} (h1 : v.l = l0 ++ ops) (h2 : v.out = chgs l0 ops) (o : OP) : ∃ ops', (v.take o).l = l0 ++ ops' ∧ (v.take o).out = chgs l0 ops' := by
  by_cases hw : wrongO v.l o = 0
  · refine ⟨ops ++ [o], ?_, ?_⟩
    · show appL v.l o = _
      unfold appL
      rw [if_pos hw, h1, List.append_assoc]
    · show outV v.out v.l o = _
      unfold outV
      rw [if_pos hw, h2, chgs_app, h1]; rfl
  · refine ⟨ops, ?_, ?_⟩
    · show appL v.l o = _
      unfold appL
      rw [if_neg hw, h1]
    · show outV v.out v.l o = _
      unfold outV
      rw [if_neg hw, h2]
theorem drn_chg : ∀ (n : Nat) {v : VS} {l0 ops : List OP}, v.l = l0 ++ ops → v.out = chgs l0 ops → ∃ ops', (drn n v).l = l0 ++ ops' ∧ (drn n v).out = chgs l0 ops'
  | 0, v, l0, ops, h1, h2 => ⟨ops, h1, h2⟩
  | n + 1, v, l0, ops, h1, h2 => by
    rw [drn]
    split
    · exact ⟨ops, h1, h2⟩
    · obtain ⟨ops', a1, a2⟩ := take_chg (v := ⟨v.s, v.l, nextR v.l v.R, v.out⟩) h1 h2 (nextO v.l v.R)
      exact drn_chg n (v := v.next) a1 a2
theorem rem_chg (v : VS) (o : OP) : ∃ ops, (remV v o).l = v.l ++ ops ∧ (remV v o).out = chgs v.l ops := by
  have h0 : ∀ w : VS, w.l = v.l → w.out = [] → ∃ ops, w.l = v.l ++ ops ∧ w.out = chgs v.l ops := fun w h1 h2 => ⟨[], by rw [h1, List.append_nil], h2⟩
  unfold remV
  split
  · obtain ⟨ops, a1, a2⟩ := take_chg (v := ⟨v.s, v.l, v.R, []⟩) (l0 := v.l) (ops := []) (by simp) rfl o
    exact drn_chg _ a1 a2
  · split
    · exact h0 _ rfl rfl
    · exact h0 _ rfl rfl
theorem doT_chg (v : VS) (o : OP) : ∃ ops, (doT v o).1.l = v.l ++ ops ∧ (doT v o).1.out = chgs v.l ops := by
  unfold doT
  split
  · exact ⟨[], by simp [VS.same], rfl⟩
  · exact rem_chg v o
theorem ins_chgs (v : VS) (site at_ ch : Int) : ∃ ops, (insVT v site at_ ch).1.l = v.l ++ ops ∧ (insVT v site at_ ch).1.out = chgs v.l ops := by
  have h0 : ∃ ops, v.same.l = v.l ++ ops ∧ v.same.out = chgs v.l ops := ⟨[], by simp [VS.same], rfl⟩
  unfold insVT
  split
  · exact h0
  · split
    · exact h0
    · split
      · exact h0
      · exact doT_chg v _
theorem del_chgs (v : VS) (at_ : Int) : ∃ ops, (delVT v at_).1.l = v.l ++ ops ∧ (delVT v at_).1.out = chgs v.l ops := by
  unfold delVT
  split
  · exact doT_chg v _
  · exact ⟨[], by simp [VS.same], rfl⟩
end Go.Proofs.E
end
section
open Go Go.Gv
attribute [local irreducible] Go.Gv.WJ Go.Gv.OpJ Go.Gv.QJ Go.Gv.Spl Go.Gv.Req Go.Gv.IdxP Go.Gv.RegP Go.Gv.FinP Go.Gv.CellP Go.Gv.CellsP Go.Gv.ArrP Go.Gv.ArrsP Go.Gv.DropP Go.Gv.ByteP Go.Gv.StoreP
set_option maxRecDepth 100000
namespace Go.Proofs.E
attribute [local irreducible] elems
end Go.Proofs.E
end
section
namespace Go.Gv
open Go.RowKit
theorem SJ.renew {X : Cx} {t : T} {σ : Sg} (i j k : Nat) (hj : look j (dropT i t) = some (.d (.v (.slice none 0 0)))) (hf : isFresh i (dropT i t) (hideS [i] (dropS i σ)) X.pin = true) :
    SJ X t σ ((j, .arr i k 0) :: dropT i t) ((i, .arr k []) :: hideS [i] (dropS i σ)) := fun γ H a w s =>
  SJ.nilArr i j k hj hf γ H a w ((s.drop i).wk (Wk.refl _) (hideS_wk [i] _).1)
end Go.Gv
end
section
open Go Go.Gv
attribute [local irreducible] Go.Gv.WJ Go.Gv.OpJ Go.Gv.QJ Go.Gv.Spl Go.Gv.Req Go.Gv.IdxP Go.Gv.RegP Go.Gv.FinP Go.Gv.CellP Go.Gv.CellsP Go.Gv.ArrP Go.Gv.ArrsP Go.Gv.DropP Go.Gv.ByteP Go.Gv.StoreP
set_option maxRecDepth 100000
namespace Go.Proofs.E
attribute [local irreducible] elems
def cA : CH := ⟨1, 0, ⟨0, 0⟩, 97, false⟩
def qA : Nat → Int
  | 0 => 0
  | 1 => 1
  | _ => 4
theorem FollowA_c : Cv 37 [iv 0, .full 1 [evD cA, [.ifa 161 [.v (.int .i64 2), .v (.int .i64 4)]]]] (.tup [iv 4, iv 0]) := by
  have hk := Kind_c cA
  have hl := KindL_c 2 4 (by decide)
  have h1 := span_c cA
  have h2 := spanL_c 2 4
  refine Ct.of_vc Tryz.f37 Tryz.func37 rfl rfl fun w H B g0 => ?_
  refine WJ.loopK (V := Nat) (fun i => [(12, iv i), (0, iv (qA i))]) (fun _ => []) [] (fun i => 2 - i) (fun i => i ≤ 2) 0 (by omega) (by repeat' (first | exact trivial | exact rfl | refine And.intro ?_ ?_)) (by repeat' (first | exact trivial | exact rfl | refine And.intro ?_ ?_)) ?_
  intro i hi
  obtain rfl | rfl | rfl : i = 0 ∨ i = 1 ∨ i = 2 := by omega
  · (repeat (first | refine Spl.t rfl ?_ | refine Spl.f rfl ?_))
    refine IdxP.of (evD cA) (by decide) rfl ?_
    (repeat (first | refine Spl.t rfl ?_ | refine Spl.f rfl ?_))
    refine OpJ.callV hk (fun _ _ => rfl) rfl rfl rfl ?_
    (repeat (first | refine Spl.t rfl ?_ | refine Spl.f rfl ?_))
    refine OpJ.callV h1 (fun _ _ => rfl) rfl rfl rfl ?_
    (repeat (first | refine Spl.t rfl ?_ | refine Spl.f rfl ?_))
    exact ⟨1, by decide, by decide, (by repeat' (first | exact trivial | exact rfl | refine And.intro ?_ ?_)), (by repeat' (first | exact trivial | exact rfl | refine And.intro ?_ ?_)), (by repeat' (first | exact trivial | exact rfl | refine And.intro ?_ ?_)), (by repeat' (first | exact trivial | exact rfl | refine And.intro ?_ ?_))⟩
  · (repeat (first | refine Spl.t rfl ?_ | refine Spl.f rfl ?_))
    refine IdxP.of [.ifa 161 [.v (.int .i64 2), .v (.int .i64 4)]] (by decide) rfl ?_
    (repeat (first | refine Spl.t rfl ?_ | refine Spl.f rfl ?_))
    refine OpJ.callV hl (fun _ _ => rfl) rfl rfl rfl ?_
    (repeat (first | refine Spl.t rfl ?_ | refine Spl.f rfl ?_))
    refine OpJ.callV h2 (fun _ _ => rfl) rfl rfl rfl ?_
    (repeat (first | refine Spl.t rfl ?_ | refine Spl.f rfl ?_))
    exact ⟨2, by decide, by decide, (by repeat' (first | exact trivial | exact rfl | refine And.intro ?_ ?_)), (by repeat' (first | exact trivial | exact rfl | refine And.intro ?_ ?_)), (by repeat' (first | exact trivial | exact rfl | refine And.intro ?_ ?_)), (by repeat' (first | exact trivial | exact rfl | refine And.intro ?_ ?_))⟩
  · (repeat (first | refine Spl.t rfl ?_ | refine Spl.f rfl ?_))
    exact FinP.open rfl rfl
theorem Awake9_c : Cv 36 [] (bv true) := by
  have hl := KindL_c 2 4 (by decide)
  refine Ct.of_vc Tryz.f36 Tryz.func36 rfl rfl fun w H B g0 => ?_
  refine OpJ.callV FollowA_c (fun _ _ => rfl) rfl rfl rfl ?_
  (repeat (first | refine Spl.t rfl ?_ | refine Spl.f rfl ?_))
  refine OpJ.callV Awake8_c (fun _ _ => rfl) rfl rfl rfl ?_
  (repeat (first | refine Spl.t rfl ?_ | refine Spl.f rfl ?_))
  refine OpJ.callV hl (fun _ _ => rfl) rfl rfl rfl ?_
  (repeat (first | refine Spl.t rfl ?_ | refine Spl.f rfl ?_))
  exact FinP.open rfl rfl
theorem evRow_app (cs : List CH) (c : CH) : cs.map evD ++ [evD c] = (cs ++ [c]).map evD := by simp
set_option maxHeartbeats 4000000 in
theorem EventReplays_c (acts : List ACT) (frm : Int) (hf0 : 0 ≤ frm) (hf1 : frm ≤ 255) :
    Cv 7 [.d (.sl 10 (acts.map actD)), .d (.v (.int .u8 frm))] (bv true) := by
  refine Ct.of_wv Tryz.f7 Tryz.func7 rfl rfl fun w H B g0 => ?_
  (try refine WJ.cut ?_)
  (first | refine Sq.go ?_ | refine vL_nil (Sq.go ?_) | skip)
  (try refine WJ.cut ?_)
  refine Spl.of (fun g1 => ?_) (fun g1 => ?_)
  · (repeat (first | refine Spl.t rfl ?_ | refine Spl.f rfl ?_))
    refine OpJ.callV Awake9_c (fun _ _ => rfl) rfl rfl rfl ?_
    (repeat (first | refine Spl.t rfl ?_ | refine Spl.f rfl ?_))
    refine .out (by simp) ?_
    exact FinP.open rfl rfl
  have hw : acts.length ≤ 40 := by have := of_decide_eq_false g1; simp at this; omega
  (repeat (first | refine Spl.t rfl ?_ | refine Spl.f rfl ?_))
  (first | refine Sq.go ?_ | refine vL_nil (Sq.go ?_) | skip)
  (try refine WJ.cut ?_)
  (first | refine Sq.go ?_ | refine vL_nil (Sq.go ?_) | skip)
  refine WJ.shift (SJ.viewCell 5 3 rfl rfl fun _ _ _ h => nil_sl 6 h) ?_
  (try refine WJ.cut ?_)
  (first | refine Sq.go ?_ | refine vL_nil (Sq.go ?_) | skip)
  refine WJ.shift (SJ.nilArr 1000 6 1 rfl rfl) ?_
  (try refine WJ.cut ?_)
  (first | refine Sq.go ?_ | refine vL_nil (Sq.go ?_) | skip)
  (try refine WJ.cut ?_)
  refine WJ.loopK (V := Nat × VS × List OP × List OP) (fun v => [(24, iv v.1), (6, .arr 1000 1 (chgs v.2.2.1 v.2.2.2).length), (7, sv (bytesN (msL (rowE v.2.2.1)))), (8, iv (v.2.2.1.length : Nat))]) (fun v => [(5, .cells (vcs v.2.1.s v.2.1.l v.2.1.R)), (1000, .arr 1 ((chgs v.2.2.1 v.2.2.2).map evD))]) [5, 1000] (fun v => acts.length - v.1) (fun v => v.1 ≤ acts.length ∧ okV ⟨v.2.1.s, v.2.1.l, v.2.1.R, []⟩ ∧ v.2.1.l = v.2.2.1 ++ v.2.2.2) (0, vA0, [], []) ⟨by simp, okA0, rfl⟩ (by repeat' (first | exact trivial | exact rfl | refine And.intro ?_ ?_)) (by repeat' (first | exact trivial | exact rfl | refine And.intro ?_ ?_)) ?_
  rintro ⟨i, ⟨s, l, R, out⟩, l0, ops⟩ ⟨hi, hv, hl⟩
  simp only at hi hv hl
  have hl16 : R.length ≤ 16 := hv.len
  have his := hv.is
  simp only at his
  have hd := his.dn
  have hl2 := hd.len2
  refine Spl.of (fun h1 => ?_) (fun h1 => ?_)
  · have hlt : i < acts.length := by have := of_decide_eq_true h1; simp at this; omega
    have hx : acts[i]? = some acts[i] := by simp
    generalize acts[i] = x at hx
    have hp0 := Remote_c his R [] x.o (by omega)
    have hp1 := VInsert_c his R (by omega) hv.ck x.site x.at_ x.ch
    have hp2 := VDelete_c his R (by omega) x.at_
    have tx := VText_c his R
    rw [txt_ms (row_ch hd)] at tx
    have sq := VSeq_c s l R
    (repeat (first | refine Spl.t rfl ?_ | refine Spl.f rfl ?_))
    refine IdxP.of (actD x) (by omega) (by simp [hx]) ?_
    (repeat (first | refine Spl.t rfl ?_ | refine Spl.f rfl ?_))
    by_cases hf : (i : Int) = IntKind.i64.wrap frm
    · refine Spl.t (decide_eq_true hf) ?_
      (repeat (first | refine Spl.t rfl ?_ | refine Spl.f rfl ?_))
      refine RegP.mixS 7 [] rfl (by decide +kernel) ?_
      refine QuietP.of (QJ.call tx (fun _ _ => rfl) rfl rfl) ?_
      refine QuietP.of (QJ.call sq (fun _ _ => rfl) rfl rfl) ?_
      (repeat (first | refine Spl.t rfl ?_ | refine Spl.f rfl ?_))
      by_cases c0 : x.k = 0
      · refine Spl.t (decide_eq_true c0) ?_
        obtain ⟨ops1, vL0, vO⟩ := rem_chg ⟨s, l, R, []⟩ x.o
        have vk := (hv.rem x.o).out
        generalize remV ⟨s, l, R, []⟩ x.o = v at vL0 vO vk hp0
        obtain ⟨vs1, vl, vR, vo⟩ := v
        simp only at vL0 vO vk hp0
        have vL : vl = l ++ (ops1) := vL0
        (repeat (first | refine Spl.t rfl ?_ | refine Spl.f rfl ?_))
        refine OpJ.callV hp0 (fun _ _ => rfl) rfl rfl rfl ?_
        (repeat (first | refine Spl.t rfl ?_ | refine Spl.f rfl ?_))
        refine WJ.shift (SJ.renew 1000 6 1 rfl rfl) ?_
        have hC : ([] : List CH) ++ vo = chgs l (ops1) := by rw [List.nil_append]; exact vO
        have q1 : vl.length ≤ 8192 := vk.is.dn.len2
        have q2 := congrArg List.length vL
        have q3 := congrArg List.length hC
        simp only [List.length_append, chgs_len, List.length_nil] at q2 q3
        have q4 : vo.length ≤ 8192 := by omega
        have q5 : ([] : List CH).length ≤ 8192 := by decide
        refine WJ.loopK (V := Nat) (fun j => [(77, iv j), (6, .arr 1000 1 (([] : List CH) ++ vo.take j).length)]) (fun j => [(1000, .arr 1 ((([] : List CH) ++ vo.take j).map evD))]) [1000] (fun j => vo.length - j) (fun j => j ≤ vo.length) 0 (by omega) ⟨rfl, some_arr (by simp), trivial⟩ ⟨some_ear (by simp), trivial⟩ ?_
        intro j hj
        refine Spl.of (fun k1 => ?_) (fun k1 => ?_)
        · have jlt : j < vo.length := by have := of_decide_eq_true k1; simp at this; omega
          have hy : vo[j]? = some vo[j] := by simp
          have hsn := take_snoc hy
          have hrow := evRow_app (([] : List CH) ++ vo.take j) vo[j]
          rw [List.append_assoc, ← hsn] at hrow
          have hlen : (([] : List CH) ++ vo.take (j + 1)).length = (([] : List CH) ++ vo.take j).length + 1 := by rw [hsn, ← List.append_assoc, List.length_append]; rfl
          have hbd : (([] : List CH) ++ vo.take j).length + 1 ≤ 1000000 := by rw [List.length_append, List.length_take]; omega
          generalize vo[j] = c at hy hrow
          generalize hE1 : ([] : List CH) ++ vo.take (j + 1) = E1 at hrow hlen
          generalize ([] : List CH) ++ vo.take j = E0 at hrow hlen hbd
          (repeat (first | refine Spl.t rfl ?_ | refine Spl.f rfl ?_))
          refine IdxP.of (chD c) (by omega) (by simp [hy]) ?_
          (repeat (first | refine Spl.t rfl ?_ | refine Spl.f rfl ?_))
          refine Req.of ⟨by rw [List.length_map], (show E0.length + 1 ≤ 1000000000 by omega)⟩ ?_
          (repeat (first | refine Spl.t rfl ?_ | refine Spl.f rfl ?_))
          exact ⟨j + 1, by omega, by omega, ⟨some_iv (wrap_id _ (by omega) (by omega)), some_arr (by rw [hE1, hlen]; rfl), trivial⟩, (by repeat' (first | exact trivial | exact rfl | refine And.intro ?_ ?_)), ⟨some_ear (by rw [hE1, ← hrow]; rfl), trivial⟩, (by repeat' (first | exact trivial | exact rfl | refine And.intro ?_ ?_))⟩
        · have hje : j = vo.length := by have := of_decide_eq_false k1; simp at this; omega
          subst hje
          (repeat (first | refine Spl.t rfl ?_ | refine Spl.f rfl ?_))
          exact ⟨(i + 1, ⟨vs1, vl, vR, []⟩, l, ops1), ⟨by simp only; omega, vk, vL⟩, by simp only; omega, ⟨some_iv (wrap_id _ (by omega) (by omega)), some_arr (by rw [List.take_length, hC]), rfl, rfl, trivial⟩, (by repeat' (first | exact trivial | exact rfl | refine And.intro ?_ ?_)), ⟨rfl, some_ear (by rw [List.take_length, hC]), trivial⟩, (by repeat' (first | exact trivial | exact rfl | refine And.intro ?_ ?_))⟩
      · refine Spl.f (decide_eq_false c0) ?_
        (repeat (first | refine Spl.t rfl ?_ | refine Spl.f rfl ?_))
        by_cases c1 : x.k = 1
        · refine Spl.t (decide_eq_true c1) ?_
          obtain ⟨ops1, vL0, vO⟩ := ins_chgs ⟨s, l, R, []⟩ x.site x.at_ x.ch
          have vk := (hv.ins x.site x.at_ x.ch).1.out
          generalize insVT ⟨s, l, R, []⟩ x.site x.at_ x.ch = v at vL0 vO vk hp1
          obtain ⟨⟨vs1, vl, vR, vo⟩, ov, ev⟩ := v
          unfold resT at hp1
          simp only at vL0 vO vk hp1
          have vL : vl = l ++ (ops1) := vL0
          (repeat (first | refine Spl.t rfl ?_ | refine Spl.f rfl ?_))
          refine OpJ.callV hp1 (fun _ _ => rfl) rfl rfl rfl ?_
          (repeat (first | refine Spl.t rfl ?_ | refine Spl.f rfl ?_))
          refine WJ.shift (SJ.renew 1000 6 1 rfl rfl) ?_
          have hC : ([] : List CH) ++ vo = chgs l (ops1) := by rw [List.nil_append]; exact vO
          have q1 : vl.length ≤ 8192 := vk.is.dn.len2
          have q2 := congrArg List.length vL
          have q3 := congrArg List.length hC
          simp only [List.length_append, chgs_len, List.length_nil] at q2 q3
          have q4 : vo.length ≤ 8192 := by omega
          have q5 : ([] : List CH).length ≤ 8192 := by decide
          refine WJ.loopK (V := Nat) (fun j => [(77, iv j), (6, .arr 1000 1 (([] : List CH) ++ vo.take j).length)]) (fun j => [(1000, .arr 1 ((([] : List CH) ++ vo.take j).map evD))]) [1000] (fun j => vo.length - j) (fun j => j ≤ vo.length) 0 (by omega) ⟨rfl, some_arr (by simp), trivial⟩ ⟨some_ear (by simp), trivial⟩ ?_
          intro j hj
          refine Spl.of (fun k1 => ?_) (fun k1 => ?_)
          · have jlt : j < vo.length := by have := of_decide_eq_true k1; simp at this; omega
            have hy : vo[j]? = some vo[j] := by simp
            have hsn := take_snoc hy
            have hrow := evRow_app (([] : List CH) ++ vo.take j) vo[j]
            rw [List.append_assoc, ← hsn] at hrow
            have hlen : (([] : List CH) ++ vo.take (j + 1)).length = (([] : List CH) ++ vo.take j).length + 1 := by rw [hsn, ← List.append_assoc, List.length_append]; rfl
            have hbd : (([] : List CH) ++ vo.take j).length + 1 ≤ 1000000 := by rw [List.length_append, List.length_take]; omega
            generalize vo[j] = c at hy hrow
            generalize hE1 : ([] : List CH) ++ vo.take (j + 1) = E1 at hrow hlen
            generalize ([] : List CH) ++ vo.take j = E0 at hrow hlen hbd
            (repeat (first | refine Spl.t rfl ?_ | refine Spl.f rfl ?_))
            refine IdxP.of (chD c) (by omega) (by simp [hy]) ?_
            (repeat (first | refine Spl.t rfl ?_ | refine Spl.f rfl ?_))
            refine Req.of ⟨by rw [List.length_map], (show E0.length + 1 ≤ 1000000000 by omega)⟩ ?_
            (repeat (first | refine Spl.t rfl ?_ | refine Spl.f rfl ?_))
            exact ⟨j + 1, by omega, by omega, ⟨some_iv (wrap_id _ (by omega) (by omega)), some_arr (by rw [hE1, hlen]; rfl), trivial⟩, (by repeat' (first | exact trivial | exact rfl | refine And.intro ?_ ?_)), ⟨some_ear (by rw [hE1, ← hrow]; rfl), trivial⟩, (by repeat' (first | exact trivial | exact rfl | refine And.intro ?_ ?_))⟩
          · have hje : j = vo.length := by have := of_decide_eq_false k1; simp at this; omega
            subst hje
            (repeat (first | refine Spl.t rfl ?_ | refine Spl.f rfl ?_))
            exact ⟨(i + 1, ⟨vs1, vl, vR, []⟩, l, ops1), ⟨by simp only; omega, vk, vL⟩, by simp only; omega, ⟨some_iv (wrap_id _ (by omega) (by omega)), some_arr (by rw [List.take_length, hC]), rfl, rfl, trivial⟩, (by repeat' (first | exact trivial | exact rfl | refine And.intro ?_ ?_)), ⟨rfl, some_ear (by rw [List.take_length, hC]), trivial⟩, (by repeat' (first | exact trivial | exact rfl | refine And.intro ?_ ?_))⟩
        · refine Spl.f (decide_eq_false c1) ?_
          (repeat (first | refine Spl.t rfl ?_ | refine Spl.f rfl ?_))
          by_cases c2 : x.k = 2
          · refine Spl.t (decide_eq_true c2) ?_
            obtain ⟨ops1, vL0, vO⟩ := del_chgs ⟨s, l, R, []⟩ x.at_
            have vk := (hv.del x.at_).1.out
            generalize delVT ⟨s, l, R, []⟩ x.at_ = v at vL0 vO vk hp2
            obtain ⟨⟨vs1, vl, vR, vo⟩, ov, ev⟩ := v
            unfold resT at hp2
            simp only at vL0 vO vk hp2
            have vL : vl = l ++ (ops1) := vL0
            (repeat (first | refine Spl.t rfl ?_ | refine Spl.f rfl ?_))
            refine OpJ.callV hp2 (fun _ _ => rfl) rfl rfl rfl ?_
            (repeat (first | refine Spl.t rfl ?_ | refine Spl.f rfl ?_))
            refine WJ.shift (SJ.renew 1000 6 1 rfl rfl) ?_
            have hC : ([] : List CH) ++ vo = chgs l (ops1) := by rw [List.nil_append]; exact vO
            have q1 : vl.length ≤ 8192 := vk.is.dn.len2
            have q2 := congrArg List.length vL
            have q3 := congrArg List.length hC
            simp only [List.length_append, chgs_len, List.length_nil] at q2 q3
            have q4 : vo.length ≤ 8192 := by omega
            have q5 : ([] : List CH).length ≤ 8192 := by decide
            refine WJ.loopK (V := Nat) (fun j => [(77, iv j), (6, .arr 1000 1 (([] : List CH) ++ vo.take j).length)]) (fun j => [(1000, .arr 1 ((([] : List CH) ++ vo.take j).map evD))]) [1000] (fun j => vo.length - j) (fun j => j ≤ vo.length) 0 (by omega) ⟨rfl, some_arr (by simp), trivial⟩ ⟨some_ear (by simp), trivial⟩ ?_
            intro j hj
            refine Spl.of (fun k1 => ?_) (fun k1 => ?_)
            · have jlt : j < vo.length := by have := of_decide_eq_true k1; simp at this; omega
              have hy : vo[j]? = some vo[j] := by simp
              have hsn := take_snoc hy
              have hrow := evRow_app (([] : List CH) ++ vo.take j) vo[j]
              rw [List.append_assoc, ← hsn] at hrow
              have hlen : (([] : List CH) ++ vo.take (j + 1)).length = (([] : List CH) ++ vo.take j).length + 1 := by rw [hsn, ← List.append_assoc, List.length_append]; rfl
              have hbd : (([] : List CH) ++ vo.take j).length + 1 ≤ 1000000 := by rw [List.length_append, List.length_take]; omega
              generalize vo[j] = c at hy hrow
              generalize hE1 : ([] : List CH) ++ vo.take (j + 1) = E1 at hrow hlen
              generalize ([] : List CH) ++ vo.take j = E0 at hrow hlen hbd
              (repeat (first | refine Spl.t rfl ?_ | refine Spl.f rfl ?_))
              refine IdxP.of (chD c) (by omega) (by simp [hy]) ?_
              (repeat (first | refine Spl.t rfl ?_ | refine Spl.f rfl ?_))
              refine Req.of ⟨by rw [List.length_map], (show E0.length + 1 ≤ 1000000000 by omega)⟩ ?_
              (repeat (first | refine Spl.t rfl ?_ | refine Spl.f rfl ?_))
              exact ⟨j + 1, by omega, by omega, ⟨some_iv (wrap_id _ (by omega) (by omega)), some_arr (by rw [hE1, hlen]; rfl), trivial⟩, (by repeat' (first | exact trivial | exact rfl | refine And.intro ?_ ?_)), ⟨some_ear (by rw [hE1, ← hrow]; rfl), trivial⟩, (by repeat' (first | exact trivial | exact rfl | refine And.intro ?_ ?_))⟩
            · have hje : j = vo.length := by have := of_decide_eq_false k1; simp at this; omega
              subst hje
              (repeat (first | refine Spl.t rfl ?_ | refine Spl.f rfl ?_))
              exact ⟨(i + 1, ⟨vs1, vl, vR, []⟩, l, ops1), ⟨by simp only; omega, vk, vL⟩, by simp only; omega, ⟨some_iv (wrap_id _ (by omega) (by omega)), some_arr (by rw [List.take_length, hC]), rfl, rfl, trivial⟩, (by repeat' (first | exact trivial | exact rfl | refine And.intro ?_ ?_)), ⟨rfl, some_ear (by rw [List.take_length, hC]), trivial⟩, (by repeat' (first | exact trivial | exact rfl | refine And.intro ?_ ?_))⟩
          · refine Spl.f (decide_eq_false c2) ?_
            obtain ⟨ops1, hops⟩ : ∃ o : List OP, o = [] := ⟨_, rfl⟩
            obtain ⟨vo, hvo⟩ : ∃ o : List CH, o = [] := ⟨_, rfl⟩
            obtain ⟨vl, hvl⟩ : ∃ o : List OP, o = l := ⟨_, rfl⟩
            have vL0 : vl = l ++ ops1 := by rw [hvl, hops, List.append_nil]
            have vO : vo = chgs l ops1 := by rw [hvo, hops]; rfl
            have vL : vl = l ++ (ops1) := vL0
            (repeat (first | refine Spl.t rfl ?_ | refine Spl.f rfl ?_))
            refine WJ.shift (SJ.nilD 11 6 rfl) ?_
            have vk : okV ⟨s, l, R, []⟩ := hv
            rw [← hvl] at vk
            refine WJ.shift (SJ.renew 1000 6 1 rfl rfl) ?_
            have hv0 : vo.length = 0 := by rw [hvo]; rfl
            have hC : ([] : List CH) ++ vo = chgs l (ops1) := by rw [List.nil_append]; exact vO
            have q1 : vl.length ≤ 8192 := vk.is.dn.len2
            have q2 := congrArg List.length vL
            have q3 := congrArg List.length hC
            simp only [List.length_append, chgs_len, List.length_nil] at q2 q3
            have q4 : vo.length ≤ 8192 := by omega
            have q5 : ([] : List CH).length ≤ 8192 := by decide
            refine WJ.loopK (V := Nat) (fun j => [(77, iv j), (6, .arr 1000 1 (([] : List CH) ++ vo.take j).length)]) (fun j => [(1000, .arr 1 ((([] : List CH) ++ vo.take j).map evD))]) [1000] (fun j => vo.length - j) (fun j => j ≤ vo.length) 0 (by omega) ⟨by rfl, some_arr (by simp), trivial⟩ ⟨some_ear (by simp), trivial⟩ ?_
            intro j hj
            refine Spl.of (fun k1 => ?_) (fun k1 => ?_)
            · exfalso
              have := of_decide_eq_true k1
              simp at this <;> omega
            · have hje : j = vo.length := by have := of_decide_eq_false k1; simp at this <;> omega
              subst hje
              (repeat (first | refine Spl.t rfl ?_ | refine Spl.f rfl ?_))
              exact ⟨(i + 1, ⟨s, vl, R, []⟩, l, ops1), ⟨by simp only; omega, vk, vL⟩, by simp only; omega, ⟨some_iv (wrap_id _ (by omega) (by omega)), some_arr (by rw [List.take_length, hC]), rfl, rfl, trivial⟩, (by repeat' (first | exact trivial | exact rfl | refine And.intro ?_ ?_)), ⟨by rw [hvl]; rfl, some_ear (by rw [List.take_length, hC]), trivial⟩, (by repeat' (first | exact trivial | exact rfl | refine And.intro ?_ ?_))⟩
    · refine Spl.f (decide_eq_false hf) ?_
      (repeat (first | refine Spl.t rfl ?_ | refine Spl.f rfl ?_))
      by_cases c0 : x.k = 0
      · refine Spl.t (decide_eq_true c0) ?_
        obtain ⟨ops1, vL0, vO⟩ := rem_chg ⟨s, l, R, []⟩ x.o
        have vk := (hv.rem x.o).out
        generalize remV ⟨s, l, R, []⟩ x.o = v at vL0 vO vk hp0
        obtain ⟨vs1, vl, vR, vo⟩ := v
        simp only at vL0 vO vk hp0
        have vL : vl = l0 ++ (ops ++ ops1) := by rw [vL0, hl, List.append_assoc]
        (repeat (first | refine Spl.t rfl ?_ | refine Spl.f rfl ?_))
        refine OpJ.callV hp0 (fun _ _ => rfl) rfl rfl rfl ?_
        (repeat (first | refine Spl.t rfl ?_ | refine Spl.f rfl ?_))
        have hC : chgs l0 ops ++ vo = chgs l0 (ops ++ ops1) := by rw [chgs_app, ← hl]; exact congrArg _ vO
        have q1 : vl.length ≤ 8192 := vk.is.dn.len2
        have q2 := congrArg List.length vL
        have q3 := congrArg List.length hC
        simp only [List.length_append, chgs_len, List.length_nil] at q2 q3
        have q4 : vo.length ≤ 8192 := by omega
        have q5 : (chgs l0 ops).length ≤ 8192 := by rw [chgs_len]; omega
        refine WJ.loopK (V := Nat) (fun j => [(77, iv j), (6, .arr 1000 1 (chgs l0 ops ++ vo.take j).length)]) (fun j => [(1000, .arr 1 ((chgs l0 ops ++ vo.take j).map evD))]) [1000] (fun j => vo.length - j) (fun j => j ≤ vo.length) 0 (by omega) ⟨rfl, some_arr (by simp), trivial⟩ ⟨some_ear (by simp), trivial⟩ ?_
        intro j hj
        refine Spl.of (fun k1 => ?_) (fun k1 => ?_)
        · have jlt : j < vo.length := by have := of_decide_eq_true k1; simp at this; omega
          have hy : vo[j]? = some vo[j] := by simp
          have hsn := take_snoc hy
          have hrow := evRow_app (chgs l0 ops ++ vo.take j) vo[j]
          rw [List.append_assoc, ← hsn] at hrow
          have hlen : (chgs l0 ops ++ vo.take (j + 1)).length = (chgs l0 ops ++ vo.take j).length + 1 := by rw [hsn, ← List.append_assoc, List.length_append]; rfl
          have hbd : (chgs l0 ops ++ vo.take j).length + 1 ≤ 1000000 := by rw [List.length_append, List.length_take]; omega
          generalize vo[j] = c at hy hrow
          generalize hE1 : chgs l0 ops ++ vo.take (j + 1) = E1 at hrow hlen
          generalize chgs l0 ops ++ vo.take j = E0 at hrow hlen hbd
          (repeat (first | refine Spl.t rfl ?_ | refine Spl.f rfl ?_))
          refine IdxP.of (chD c) (by omega) (by simp [hy]) ?_
          (repeat (first | refine Spl.t rfl ?_ | refine Spl.f rfl ?_))
          refine Req.of ⟨by rw [List.length_map], (show E0.length + 1 ≤ 1000000000 by omega)⟩ ?_
          (repeat (first | refine Spl.t rfl ?_ | refine Spl.f rfl ?_))
          exact ⟨j + 1, by omega, by omega, ⟨some_iv (wrap_id _ (by omega) (by omega)), some_arr (by rw [hE1, hlen]; rfl), trivial⟩, (by repeat' (first | exact trivial | exact rfl | refine And.intro ?_ ?_)), ⟨some_ear (by rw [hE1, ← hrow]; rfl), trivial⟩, (by repeat' (first | exact trivial | exact rfl | refine And.intro ?_ ?_))⟩
        · have hje : j = vo.length := by have := of_decide_eq_false k1; simp at this; omega
          subst hje
          (repeat (first | refine Spl.t rfl ?_ | refine Spl.f rfl ?_))
          exact ⟨(i + 1, ⟨vs1, vl, vR, []⟩, l0, ops ++ ops1), ⟨by simp only; omega, vk, vL⟩, by simp only; omega, ⟨some_iv (wrap_id _ (by omega) (by omega)), some_arr (by rw [List.take_length, hC]), rfl, rfl, trivial⟩, (by repeat' (first | exact trivial | exact rfl | refine And.intro ?_ ?_)), ⟨rfl, some_ear (by rw [List.take_length, hC]), trivial⟩, (by repeat' (first | exact trivial | exact rfl | refine And.intro ?_ ?_))⟩
      · refine Spl.f (decide_eq_false c0) ?_
        (repeat (first | refine Spl.t rfl ?_ | refine Spl.f rfl ?_))
        by_cases c1 : x.k = 1
        · refine Spl.t (decide_eq_true c1) ?_
          obtain ⟨ops1, vL0, vO⟩ := ins_chgs ⟨s, l, R, []⟩ x.site x.at_ x.ch
          have vk := (hv.ins x.site x.at_ x.ch).1.out
          generalize insVT ⟨s, l, R, []⟩ x.site x.at_ x.ch = v at vL0 vO vk hp1
          obtain ⟨⟨vs1, vl, vR, vo⟩, ov, ev⟩ := v
          unfold resT at hp1
          simp only at vL0 vO vk hp1
          have vL : vl = l0 ++ (ops ++ ops1) := by rw [vL0, hl, List.append_assoc]
          (repeat (first | refine Spl.t rfl ?_ | refine Spl.f rfl ?_))
          refine OpJ.callV hp1 (fun _ _ => rfl) rfl rfl rfl ?_
          (repeat (first | refine Spl.t rfl ?_ | refine Spl.f rfl ?_))
          have hC : chgs l0 ops ++ vo = chgs l0 (ops ++ ops1) := by rw [chgs_app, ← hl]; exact congrArg _ vO
          have q1 : vl.length ≤ 8192 := vk.is.dn.len2
          have q2 := congrArg List.length vL
          have q3 := congrArg List.length hC
          simp only [List.length_append, chgs_len, List.length_nil] at q2 q3
          have q4 : vo.length ≤ 8192 := by omega
          have q5 : (chgs l0 ops).length ≤ 8192 := by rw [chgs_len]; omega
          refine WJ.loopK (V := Nat) (fun j => [(77, iv j), (6, .arr 1000 1 (chgs l0 ops ++ vo.take j).length)]) (fun j => [(1000, .arr 1 ((chgs l0 ops ++ vo.take j).map evD))]) [1000] (fun j => vo.length - j) (fun j => j ≤ vo.length) 0 (by omega) ⟨rfl, some_arr (by simp), trivial⟩ ⟨some_ear (by simp), trivial⟩ ?_
          intro j hj
          refine Spl.of (fun k1 => ?_) (fun k1 => ?_)
          · have jlt : j < vo.length := by have := of_decide_eq_true k1; simp at this; omega
            have hy : vo[j]? = some vo[j] := by simp
            have hsn := take_snoc hy
            have hrow := evRow_app (chgs l0 ops ++ vo.take j) vo[j]
            rw [List.append_assoc, ← hsn] at hrow
            have hlen : (chgs l0 ops ++ vo.take (j + 1)).length = (chgs l0 ops ++ vo.take j).length + 1 := by rw [hsn, ← List.append_assoc, List.length_append]; rfl
            have hbd : (chgs l0 ops ++ vo.take j).length + 1 ≤ 1000000 := by rw [List.length_append, List.length_take]; omega
            generalize vo[j] = c at hy hrow
            generalize hE1 : chgs l0 ops ++ vo.take (j + 1) = E1 at hrow hlen
            generalize chgs l0 ops ++ vo.take j = E0 at hrow hlen hbd
            (repeat (first | refine Spl.t rfl ?_ | refine Spl.f rfl ?_))
            refine IdxP.of (chD c) (by omega) (by simp [hy]) ?_
            (repeat (first | refine Spl.t rfl ?_ | refine Spl.f rfl ?_))
            refine Req.of ⟨by rw [List.length_map], (show E0.length + 1 ≤ 1000000000 by omega)⟩ ?_
            (repeat (first | refine Spl.t rfl ?_ | refine Spl.f rfl ?_))
            exact ⟨j + 1, by omega, by omega, ⟨some_iv (wrap_id _ (by omega) (by omega)), some_arr (by rw [hE1, hlen]; rfl), trivial⟩, (by repeat' (first | exact trivial | exact rfl | refine And.intro ?_ ?_)), ⟨some_ear (by rw [hE1, ← hrow]; rfl), trivial⟩, (by repeat' (first | exact trivial | exact rfl | refine And.intro ?_ ?_))⟩
          · have hje : j = vo.length := by have := of_decide_eq_false k1; simp at this; omega
            subst hje
            (repeat (first | refine Spl.t rfl ?_ | refine Spl.f rfl ?_))
            exact ⟨(i + 1, ⟨vs1, vl, vR, []⟩, l0, ops ++ ops1), ⟨by simp only; omega, vk, vL⟩, by simp only; omega, ⟨some_iv (wrap_id _ (by omega) (by omega)), some_arr (by rw [List.take_length, hC]), rfl, rfl, trivial⟩, (by repeat' (first | exact trivial | exact rfl | refine And.intro ?_ ?_)), ⟨rfl, some_ear (by rw [List.take_length, hC]), trivial⟩, (by repeat' (first | exact trivial | exact rfl | refine And.intro ?_ ?_))⟩
        · refine Spl.f (decide_eq_false c1) ?_
          (repeat (first | refine Spl.t rfl ?_ | refine Spl.f rfl ?_))
          by_cases c2 : x.k = 2
          · refine Spl.t (decide_eq_true c2) ?_
            obtain ⟨ops1, vL0, vO⟩ := del_chgs ⟨s, l, R, []⟩ x.at_
            have vk := (hv.del x.at_).1.out
            generalize delVT ⟨s, l, R, []⟩ x.at_ = v at vL0 vO vk hp2
            obtain ⟨⟨vs1, vl, vR, vo⟩, ov, ev⟩ := v
            unfold resT at hp2
            simp only at vL0 vO vk hp2
            have vL : vl = l0 ++ (ops ++ ops1) := by rw [vL0, hl, List.append_assoc]
            (repeat (first | refine Spl.t rfl ?_ | refine Spl.f rfl ?_))
            refine OpJ.callV hp2 (fun _ _ => rfl) rfl rfl rfl ?_
            (repeat (first | refine Spl.t rfl ?_ | refine Spl.f rfl ?_))
            have hC : chgs l0 ops ++ vo = chgs l0 (ops ++ ops1) := by rw [chgs_app, ← hl]; exact congrArg _ vO
            have q1 : vl.length ≤ 8192 := vk.is.dn.len2
            have q2 := congrArg List.length vL
            have q3 := congrArg List.length hC
            simp only [List.length_append, chgs_len, List.length_nil] at q2 q3
            have q4 : vo.length ≤ 8192 := by omega
            have q5 : (chgs l0 ops).length ≤ 8192 := by rw [chgs_len]; omega
            refine WJ.loopK (V := Nat) (fun j => [(77, iv j), (6, .arr 1000 1 (chgs l0 ops ++ vo.take j).length)]) (fun j => [(1000, .arr 1 ((chgs l0 ops ++ vo.take j).map evD))]) [1000] (fun j => vo.length - j) (fun j => j ≤ vo.length) 0 (by omega) ⟨rfl, some_arr (by simp), trivial⟩ ⟨some_ear (by simp), trivial⟩ ?_
            intro j hj
            refine Spl.of (fun k1 => ?_) (fun k1 => ?_)
            · have jlt : j < vo.length := by have := of_decide_eq_true k1; simp at this; omega
              have hy : vo[j]? = some vo[j] := by simp
              have hsn := take_snoc hy
              have hrow := evRow_app (chgs l0 ops ++ vo.take j) vo[j]
              rw [List.append_assoc, ← hsn] at hrow
              have hlen : (chgs l0 ops ++ vo.take (j + 1)).length = (chgs l0 ops ++ vo.take j).length + 1 := by rw [hsn, ← List.append_assoc, List.length_append]; rfl
              have hbd : (chgs l0 ops ++ vo.take j).length + 1 ≤ 1000000 := by rw [List.length_append, List.length_take]; omega
              generalize vo[j] = c at hy hrow
              generalize hE1 : chgs l0 ops ++ vo.take (j + 1) = E1 at hrow hlen
              generalize chgs l0 ops ++ vo.take j = E0 at hrow hlen hbd
              (repeat (first | refine Spl.t rfl ?_ | refine Spl.f rfl ?_))
              refine IdxP.of (chD c) (by omega) (by simp [hy]) ?_
              (repeat (first | refine Spl.t rfl ?_ | refine Spl.f rfl ?_))
              refine Req.of ⟨by rw [List.length_map], (show E0.length + 1 ≤ 1000000000 by omega)⟩ ?_
              (repeat (first | refine Spl.t rfl ?_ | refine Spl.f rfl ?_))
              exact ⟨j + 1, by omega, by omega, ⟨some_iv (wrap_id _ (by omega) (by omega)), some_arr (by rw [hE1, hlen]; rfl), trivial⟩, (by repeat' (first | exact trivial | exact rfl | refine And.intro ?_ ?_)), ⟨some_ear (by rw [hE1, ← hrow]; rfl), trivial⟩, (by repeat' (first | exact trivial | exact rfl | refine And.intro ?_ ?_))⟩
            · have hje : j = vo.length := by have := of_decide_eq_false k1; simp at this; omega
              subst hje
              (repeat (first | refine Spl.t rfl ?_ | refine Spl.f rfl ?_))
              exact ⟨(i + 1, ⟨vs1, vl, vR, []⟩, l0, ops ++ ops1), ⟨by simp only; omega, vk, vL⟩, by simp only; omega, ⟨some_iv (wrap_id _ (by omega) (by omega)), some_arr (by rw [List.take_length, hC]), rfl, rfl, trivial⟩, (by repeat' (first | exact trivial | exact rfl | refine And.intro ?_ ?_)), ⟨rfl, some_ear (by rw [List.take_length, hC]), trivial⟩, (by repeat' (first | exact trivial | exact rfl | refine And.intro ?_ ?_))⟩
          · refine Spl.f (decide_eq_false c2) ?_
            obtain ⟨ops1, hops⟩ : ∃ o : List OP, o = [] := ⟨_, rfl⟩
            obtain ⟨vo, hvo⟩ : ∃ o : List CH, o = [] := ⟨_, rfl⟩
            obtain ⟨vl, hvl⟩ : ∃ o : List OP, o = l := ⟨_, rfl⟩
            have vL0 : vl = l ++ ops1 := by rw [hvl, hops, List.append_nil]
            have vO : vo = chgs l ops1 := by rw [hvo, hops]; rfl
            have vL : vl = l0 ++ (ops ++ ops1) := by rw [vL0, hl, List.append_assoc]
            (repeat (first | refine Spl.t rfl ?_ | refine Spl.f rfl ?_))
            refine WJ.shift (SJ.nilD 11 6 rfl) ?_
            have vk : okV ⟨s, l, R, []⟩ := hv
            rw [← hvl] at vk
            have hv0 : vo.length = 0 := by rw [hvo]; rfl
            have hC : chgs l0 ops ++ vo = chgs l0 (ops ++ ops1) := by rw [chgs_app, ← hl]; exact congrArg _ vO
            have q1 : vl.length ≤ 8192 := vk.is.dn.len2
            have q2 := congrArg List.length vL
            have q3 := congrArg List.length hC
            simp only [List.length_append, chgs_len, List.length_nil] at q2 q3
            have q4 : vo.length ≤ 8192 := by omega
            have q5 : (chgs l0 ops).length ≤ 8192 := by rw [chgs_len]; omega
            refine WJ.loopK (V := Nat) (fun j => [(77, iv j), (6, .arr 1000 1 (chgs l0 ops ++ vo.take j).length)]) (fun j => [(1000, .arr 1 ((chgs l0 ops ++ vo.take j).map evD))]) [1000] (fun j => vo.length - j) (fun j => j ≤ vo.length) 0 (by omega) ⟨by rfl, some_arr (by simp), trivial⟩ ⟨some_ear (by simp), trivial⟩ ?_
            intro j hj
            refine Spl.of (fun k1 => ?_) (fun k1 => ?_)
            · exfalso
              have := of_decide_eq_true k1
              simp at this <;> omega
            · have hje : j = vo.length := by have := of_decide_eq_false k1; simp at this <;> omega
              subst hje
              (repeat (first | refine Spl.t rfl ?_ | refine Spl.f rfl ?_))
              exact ⟨(i + 1, ⟨s, vl, R, []⟩, l0, ops ++ ops1), ⟨by simp only; omega, vk, vL⟩, by simp only; omega, ⟨some_iv (wrap_id _ (by omega) (by omega)), some_arr (by rw [List.take_length, hC]), rfl, rfl, trivial⟩, (by repeat' (first | exact trivial | exact rfl | refine And.intro ?_ ?_)), ⟨by rw [hvl]; rfl, some_ear (by rw [List.take_length, hC]), trivial⟩, (by repeat' (first | exact trivial | exact rfl | refine And.intro ?_ ?_))⟩
  have hlr := row_le hd
  have hd0 : Dn l0 := Dn_pre (hl ▸ hd)
  obtain ⟨f1, f2⟩ := chgs_fit l0 ops (hl ▸ hd)
  have hlv := live_le (rowE l)
  have hlr0 := row_le hd0
  have hlv0 := live_le (rowE l0)
  have hcl := chgs_len l0 ops
  have hle : l.length = l0.length + ops.length := by rw [hl, List.length_append]
  have hval0 := ms_valid (row_ch hd0)
  have hval := ms_valid (row_ch hd)
  have hml0 := ms_len (rowE l0)
  have tx := VText_c his R
  have sq := VSeq_c s l R
  rw [txt_ms (row_ch hd)] at tx
  rw [← hl] at f2
  have fl := Follow_c (l0.length : Nat) (chgs l0 ops) (by omega) (by omega) (by omega) (fun j c h => chgs_seq l0 ops j c h)
  have rp := Replay_c (msL (rowE l0)) (chgs l0 ops) (by omega) hval0 f1 (by rw [f2]; exact hval)
  rw [f2] at rp
  rw [show ((l0.length : Nat) : Int) + ((chgs l0 ops).length : Nat) = ((l.length : Nat) : Int) by omega] at fl
  clear hi h1
  (repeat (first | refine Spl.t rfl ?_ | refine Spl.f rfl ?_))
  (first | refine Sq.go ?_ | refine vL_nil (Sq.go ?_) | skip)
  refine WJ.shift (SJ.pubA 1000 6 (k := 1) (n := (chgs l0 ops).length) (xs := (chgs l0 ops).map evD) rfl rfl (by rw [List.length_map]; exact Nat.le_refl _) (by omega)) ?_
  rw [List.take_of_length_le (by rw [List.length_map]; exact Nat.le_refl _)]
  generalize chgs l0 ops = cs at fl rp
  (try refine WJ.cut ?_)
  refine OpJ.callV fl (fun _ _ => rfl) rfl rfl rfl ?_
  (repeat (first | refine Spl.t rfl ?_ | refine Spl.f rfl ?_))
  (first | refine Sq.go ?_ | refine vL_nil (Sq.go ?_) | skip)
  (try refine WJ.cut ?_)
  refine OpJ.callV rp (fun _ _ => rfl) rfl rfl rfl ?_
  (repeat (first | refine Spl.t rfl ?_ | refine Spl.f rfl ?_))
  (first | refine Sq.go ?_ | refine vL_nil (Sq.go ?_) | skip)
  (try refine vc_sound _ _ _ _ ?_)
  refine OpJ.callV Awake9_c (fun _ _ => rfl) rfl rfl rfl ?_
  (repeat (first | refine Spl.t rfl ?_ | refine Spl.f rfl ?_))
  refine OpJ.callV sq (fun _ _ => rfl) rfl rfl rfl ?_
  (repeat (first | refine Spl.t rfl ?_ | refine Spl.f rfl ?_))
  refine Spl.t (by simp) ?_
  (repeat (first | refine Spl.t rfl ?_ | refine Spl.f rfl ?_))
  refine OpJ.callV tx (fun _ _ => rfl) rfl rfl rfl ?_
  (repeat (first | refine Spl.t rfl ?_ | refine Spl.f rfl ?_))
  exact FinP.open rfl (congrArg bv (by simp))
end Go.Proofs.E
end
