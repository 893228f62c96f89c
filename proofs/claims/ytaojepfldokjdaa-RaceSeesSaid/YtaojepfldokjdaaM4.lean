/- Laws that the claim's text stands on: A region that draws its order, in which some stores into private variables do not wait for what stands ahead of them; A region that draws its order: quiet operations, births, and stores into private variables that do not wait for what stands ahead of them; Clocks: what ticks, and is joined, and compared; Traces: the clocks of all acts, and what they tell; Traces: which acts race; Traces: the small functions on acts and clocks; Clocks compared; the clocks of all acts of a trace; A private row is given up, and begun anew; A quiet call of a function's value; Rows of a map: a private thing of many rows, each known by its place; The clocks of all acts of a trace; Traces: which act is ahead; the acts of a place. -/
import Derived.Test.YtaojepfldokjdaaM1
import Derived.Test.YtaojepfldokjdaaM2
import Derived.Test.YtaojepfldokjdaaM3
import Derived.Laws.MakeOwn
set_option linter.unusedVariables false
set_option linter.unusedSimpArgs false
section
namespace Go.Gv
open Go.RowKit
/-- What is private, some of the variables stored into anew. -/
def sAt (F : Nat → Option (Nat × Ent × Ent)) (S : Nat → Bool) (σ : Sg) : Nat → Sg
  | 0 => σ
  | k + 1 => match F k with
    | some (i, e, f) => (i, match S k with | true => f | false => e) :: sAt F S σ k
    | none => sAt F S σ k
theorem sAt_congr {F : Nat → Option (Nat × Ent × Ent)} {S S' : Nat → Bool} {σ : Sg} : ∀ k, (∀ j, j < k → F j ≠ none → S j = S' j) → sAt F S σ k = sAt F S' σ k
  | 0, _ => rfl
  | k + 1, h => by
    simp only [sAt]
    rw [sAt_congr k fun j hj => h j (by omega)]
    cases hE : F k with
    | none => rfl
    | some p => simp only [h k (by omega) (by rw [hE]; exact fun h => by cases h)]
theorem sAt_old {F : Nat → Option (Nat × Ent × Ent)} {S : Nat → Bool} {σ : Sg} {x : Nat} {a : Ent} {m : Nat} (hx : look x σ = some a) (hn : ∀ i y e f, i < m → F i = some (y, e, f) → y ≠ x) : ∀ k, k ≤ m → look x (sAt F S σ k) = some a
  | 0, _ => hx
  | k + 1, hk => by
    have ih := sAt_old (S := S) hx hn k (by omega)
    simp only [sAt]
    cases hF : F k with
    | none => exact ih
    | some q =>
      obtain ⟨y, e, f⟩ := q
      simp only
      rw [look_cons, if_neg (fun h => hn k y e f (by omega) hF h.symm)]
      exact ih
theorem sAt_is {F : Nat → Option (Nat × Ent × Ent)} {S : Nat → Bool} {σ : Sg} {m : Nat} (hd : ∀ i j x e f e' f', i < m → j < m → F i = some (x, e, f) → F j = some (x, e', f') → i = j) {i x : Nat} {e f : Ent} (him : i < m) (hE : F i = some (x, e, f)) :
    ∀ k, k ≤ m → i < k → look x (sAt F S σ k) = some (match S i with | true => f | false => e)
  | 0, _, h => by omega
  | k + 1, hk, h => by
    by_cases hik : i = k
    · subst hik
      simp only [sAt, hE, look_cons, if_true]
    · have ih := sAt_is (S := S) (σ := σ) hd him hE k (by omega) (by omega)
      simp only [sAt]
      cases hF : F k with
      | none => exact ih
      | some q =>
        obtain ⟨y, e', f'⟩ := q
        simp only
        rw [look_cons, if_neg (fun h => hik (by subst h; exact hd i k _ _ _ _ _ him (by omega) hE hF))]
        exact ih
theorem sAt_step {F : Nat → Option (Nat × Ent × Ent)} {S : Nat → Bool} {σ : Sg} {m : Nat} (hd : ∀ i j x e f e' f', i < m → j < m → F i = some (x, e, f) → F j = some (x, e', f') → i = j) {i x : Nat} {e f : Ent} (him : i < m) (hE : F i = some (x, e, f)) {y : Nat} :
    ∀ k, k ≤ m → i < k → look y (sAt F (fun j => if j = i then true else S j) σ k) = if y = x then some f else look y (sAt F S σ k) := by
  have same : ∀ k, k ≤ i → sAt F (fun j => if j = i then true else S j) σ k = sAt F S σ k := fun k hk => sAt_congr k fun j hj _ => if_neg (by omega)
  intro k
  induction k with
  | zero => intro _ h; omega
  | succ k ih =>
    intro hk h
    by_cases hik : i = k
    · subst hik
      simp only [sAt, hE, if_true, look_cons]
      split
      · rfl
      · rw [same i (Nat.le_refl _)]
    · have ih := ih (by omega) (by omega)
      simp only [sAt]
      cases hF : F k with
      | none => exact ih
      | some q =>
        obtain ⟨z, e', f'⟩ := q
        have hz : z ≠ x := fun h => hik (by subst h; exact hd i k _ _ _ _ _ him (by omega) hE hF)
        have hki : (if k = i then true else S k) = S k := if_neg (fun h => hik h.symm)
        simp only [hki]
        rw [look_cons, look_cons]
        by_cases hy : y = z
        · rw [if_pos hy, if_pos hy, if_neg (fun h => hz (hy.symm.trans h))]
        · rw [if_neg hy, if_neg hy]; exact ih
theorem listT (f : Nat → Option AV) : ∀ n, ∃ t : T, ∀ x, look x t = if x < n then f x else none
  | 0 => ⟨[], fun x => by rw [if_neg (by omega)]; rfl⟩
  | n + 1 => by
    obtain ⟨t, ht⟩ := listT f n
    cases hf : f n with
    | none =>
      refine ⟨t, fun x => ?_⟩
      rw [ht]
      by_cases e : x = n
      · subst e; rw [if_neg (by omega), if_pos (by omega), hf]
      · by_cases h : x < n
        · rw [if_pos h, if_pos (by omega)]
        · rw [if_neg h, if_neg (by omega)]
    | some v =>
      refine ⟨(n, v) :: t, fun x => ?_⟩
      rw [look_cons]
      by_cases e : x = n
      · subst e; rw [if_pos rfl, if_pos (by omega), hf]
      · rw [if_neg e, ht]
        by_cases h : x < n
        · rw [if_pos h, if_pos (by omega)]
        · rw [if_neg h, if_neg (by omega)]
/-- A store into a private variable, whenever it is done. -/
def StoreJ (X : Cx) (o : Oper) (t : T) (id : Nat) (e f : Ent) : Prop :=
  o.guard = none ∧ o.dst = none ∧ ∀ (t' : T) (σ' : Sg), (∀ x, x ∈ o.op.operands → ∀ v, ge t x = some v → ge t' x = some v) → look id σ' = some e → OpJ X o t' σ' (fun t2 σ2 => t2 = t' ∧ σ2 = (id, f) :: σ')
def SStep (X : Cx) (all : Array Oper) (o : Oper) (t : T) (σ : Sg) (V : AV) (F : Option (Nat × Ent × Ent)) : Prop :=
  (F = none ∧ OStep X all o t σ V) ∨ (∃ id e f, F = some (id, e, f) ∧ StoreJ X o t id e f)
theorem calm_anyS {X : Cx} {all : Array Oper} {m : Nat} {t0 : T} {σ : Sg} {V : Nat → AV} {F : Nat → Option (Nat × Ent × Ent)} {Q' : Exit → Act → World → Prop} (hc : CalmR all m) (hm : m ≤ all.size)
    (hstep : ∀ i o, i < m → all[i]? = some o → SStep X all o (states all V t0 i) σ (V i) (F i) ∧ dOk o.dst X.N = true)
    (hds : ∀ i j x e f e' f', i < m → j < m → F i = some (x, e, f) → F j = some (x, e', f') → i = j) (hout : ∀ i x e f, i < m → F i = some (x, e, f) → look x σ = none)
    (hend : ∀ γ H a w listed, St X γ H (states all V t0 m) (sAt F (fun _ => true) σ m) a w → listed.size = all.size → (∀ j, j < all.size → listed.getD j false = decide (j < m)) → wpAnyIn (Fr X.ro) 0 X.P .any all Q' (all.size - m) listed a w) :
    ∀ (fuel : Nat) (listed : Array Bool) (γ : Ids) (H : HF) (a : Act) (w : World), listed.size = all.size →
      (∀ j, m ≤ j → listed.getD j false = false) → (∀ i o, listed.getD i false = true → all[i]? = some o → ∀ e, e ∈ o.after → Region.binds .any e = true → listed.getD e.on false = true) →
      ((List.range m).filter fun j => !listed.getD j false).length + (all.size - m) = fuel →
      TabOk γ H (tabAt all V t0 (fun j => listed.getD j false) m) a.tmps → St X γ H [] (sAt F (fun j => listed.getD j false) σ m) a w →
      wpAnyIn (Fr X.ro) 0 X.P .any all Q' fuel listed a w := by
  intro fuel
  induction fuel with
  | zero =>
    intro listed γ H a w hs htail hclosed hcount htab sst
    have hall : ∀ j, j < m → listed.getD j false = true := fun j hj => by
      have h0 : ((List.range m).filter fun j => !listed.getD j false) = [] := List.length_eq_zero_iff.1 (by omega)
      have := List.filter_eq_nil_iff.1 h0 j (List.mem_range.2 hj)
      simpa using this
    have hmn : m = all.size := by omega
    have hst : St X γ H (states all V t0 m) (sAt F (fun _ => true) σ m) a w := St.withT (by have h9 := sst; rw [sAt_congr (S' := fun _ => true) m (fun j hj _ => hall j hj)] at h9; exact h9) (fun i b hi => htab i b (by
      rw [look_states] at hi
      rw [← hi]
      simp only [tabAt]
      rw [lastW_congr m (fun j hj _ => hall j hj)]))
    have := hend γ H a w listed hst hs (fun j hj => by rw [hall j (by omega)]; simp; omega)
    rw [show all.size - m = 0 from by omega] at this; exact this
  | succ fuel ih =>
    intro listed γ H a w hs htail hclosed hcount htab sst
    by_cases hall : ∀ j, j < m → listed.getD j false = true
    · -- the calm part is over
      have hst : St X γ H (states all V t0 m) (sAt F (fun _ => true) σ m) a w := St.withT (by have h9 := sst; rw [sAt_congr (S' := fun _ => true) m (fun j hj _ => hall j hj)] at h9; exact h9) (fun i b hi => htab i b (by
        rw [look_states] at hi
        rw [← hi]
        simp only [tabAt]
        rw [lastW_congr m (fun j hj _ => hall j hj)]))
      have h0 : ((List.range m).filter fun j => !listed.getD j false) = [] := List.filter_eq_nil_iff.2 fun j hj => by simp only [hall j (List.mem_range.1 hj)]; simp
      rw [h0] at hcount
      simp only [List.length_nil, Nat.zero_add] at hcount
      have := hend γ H a w listed hst hs (fun j hj => by
        by_cases hj' : j < m
        · rw [hall j hj']; simp [hj']
        · rw [htail j (by omega)]; simp; omega)
      rw [hcount] at this
      exact this
    · refine ⟨fun hn => ?_, fun i hi => ?_⟩
      · -- the least that is not listed is ready
        exfalso
        have hex : ∃ j, j < m ∧ listed.getD j false = false := by
          refine Classical.byContradiction fun hno => hall fun j hj => ?_
          cases hx : listed.getD j false with
          | true => rfl
          | false => exact absurd ⟨j, hj, hx⟩ hno
        have hmin : ∃ j, j < m ∧ listed.getD j false = false ∧ ∀ i, i < j → listed.getD i false = true := by
          obtain ⟨j, hj⟩ := hex
          induction j using Nat.strongRecOn with
          | _ j ihj =>
            by_cases hlow : ∀ i, i < j → listed.getD i false = true
            · exact ⟨j, hj.1, hj.2, hlow⟩
            · have : ∃ i, i < j ∧ listed.getD i false = false := by
                refine Classical.byContradiction fun hno => hlow fun i hi => ?_
                cases hx : listed.getD i false with
                | true => rfl
                | false => exact absurd ⟨i, hi, hx⟩ hno
              obtain ⟨i, hi, hx⟩ := this
              exact ihj i hi ⟨by omega, hx⟩
        obtain ⟨j, hj, hjl, hlow⟩ := hmin
        have hjn : j < all.size := by omega
        have hmem' : j ∈ Region.ready .any all listed := by
          rw [mem_ready]
          refine ⟨?_, all[j], by simp [hjn], fun e he hb => hlow _ (hc.back j all[j] (by simp [hjn]) e he hb)⟩
          rw [Array.getD_eq_getD_getElem?] at hjl ⊢
          rw [Array.getElem?_eq_getElem (by omega)] at hjl ⊢
          simpa using hjl
        rw [hn] at hmem'; cases hmem'
      · obtain ⟨h1, o, ho, h2⟩ := ready_sound hi
        obtain ⟨hil, hif⟩ := getD_of h1
        have hin : i < all.size := (Array.getElem?_eq_some_iff.1 ho).1
        have him : i < m := by
          refine Classical.byContradiction fun hge => hall fun j hj => ?_
          exact anc_listed hclosed (hc.tail i o ho (by omega) j hj) ho h2
        -- who writes what i names: listed just if it stands ahead
        have hwr : ∀ x, namesT all o x = true → ∀ j, j < m → dstAt all j = some x → listed.getD j false = decide (j < i) := by
          intro x hx j hj hd'
          cases hp : all[j]? with
          | none => simp [dstAt, hp] at hd'
          | some p =>
            simp only [dstAt, hp, Option.bind_some] at hd'
            by_cases hji : j < i
            · rcases hc.names i o (by omega) ho j p hji hp with h3 | ⟨h3, _⟩
              · rw [edge_listed h3 h2]; simp [hji]
              · rw [h3 x hd'] at hx; cases hx
            · by_cases e : j = i
              · subst e; rw [hif]; simp
              · rcases hc.names j p (by omega) hp i o (by omega) ho with h3 | ⟨_, h3⟩
                · cases hlj : listed.getD j false with
                  | false => simp; omega
                  | true =>
                    have := edge_listed h3 (hclosed j p hlj hp)
                    rw [hif] at this; cases this
                · rw [h3 x hd'] at hx; cases hx
        have htab_i : ∀ x, namesT all o x = true → tabAt all V t0 (fun j => listed.getD j false) m x = look x (states all V t0 i) := by
          intro x hx
          rw [look_states]
          simp only [tabAt]
          rw [lastW_congr m (fun j hj hd' => hwr x hx j hj hd'), lastW_top m (by omega)]
        have hopnd : ∀ x, x ∈ o.op.operands → ∀ v, ge (states all V t0 i) x = some v → Rep γ H v (a.eval x) := by
          intro x hx v hv
          cases x with
          | tmp y =>
            have hy : namesT all o y = true := by
              simp only [namesT, Bool.or_eq_true]
              exact .inl (.inr (List.any_eq_true.2 ⟨_, Array.mem_toList_iff.2 hx, by simp [hasT]⟩))
            obtain ⟨u, hu, hr⟩ := htab y v (by rw [htab_i y hy]; exact hv)
            simp only [Act.eval, Array.getD_eq_getD_getElem?, hu, Option.getD_some]
            exact hr
          | const c => simp only [ge, Option.some.injEq] at hv; subst hv; exact rep_const γ H c
          | func f => simp only [ge, Option.some.injEq] at hv; subst hv; exact .d _ _ (.fn f [] [] rfl (fun j a u h1 => by simp at h1))
          | global g => simp [ge] at hv
        obtain ⟨hos, hdok⟩ := hstep i o him ho
        -- how many are left
        have hleft : ((List.range m).filter fun j => !(listed.setIfInBounds i true).getD j false).length + (all.size - m) = fuel := by
          have hf : ((List.range m).filter fun j => !listed.getD j false).length = ((List.range m).filter fun j => !(listed.setIfInBounds i true).getD j false).length + 1 := by
            have h5 : ∀ (l : List Nat), l.Nodup → i ∈ l → (l.filter fun j => !listed.getD j false).length = (l.filter fun j => !(listed.setIfInBounds i true).getD j false).length + 1 := by
              intro l
              induction l with
              | nil => intro _ h; cases h
              | cons b l ihl =>
                intro hnd hmem'
                rw [List.nodup_cons] at hnd
                by_cases e : i = b
                · subst e
                  have h6 : (listed.setIfInBounds i true).getD i false = true := by
                    rw [Array.getD_eq_getD_getElem?]; simp [hil]
                  have h7 : (l.filter fun j => !listed.getD j false) = (l.filter fun j => !(listed.setIfInBounds i true).getD j false) := by
                    refine List.filter_congr fun j hj => ?_
                    have hne : i ≠ j := fun e => hnd.1 (e ▸ hj)
                    rw [getD_set_ne false hne]
                  simp only [List.filter_cons, hif, h6, Bool.not_false, Bool.not_true, if_true, h7, List.length_cons, Bool.false_eq_true, if_false]
                · have h6 := getD_set_ne (listed := listed) false e
                  have h7 := ihl hnd.2 (by rcases List.mem_cons.1 hmem' with h | h; exact absurd h e; exact h)
                  simp only [List.filter_cons, h6]
                  split <;> simp only [List.length_cons, h7]
            exact h5 _ List.nodup_range (List.mem_range.2 him)
          omega
        have hclosed' : ∀ j p, (listed.setIfInBounds i true).getD j false = true → all[j]? = some p → ∀ e, e ∈ p.after → Region.binds .any e = true → (listed.setIfInBounds i true).getD e.on false = true := fun j p hj hp e he hb => by
          by_cases e' : i = j
          · subst e'
            rw [ho] at hp; simp only [Option.some.injEq] at hp; subst hp
            exact getD_set_true (h2 e he hb)
          · rw [getD_set_ne false e'] at hj
            exact getD_set_true (hclosed j p hj hp e he hb)
        have htail' : ∀ j, m ≤ j → (listed.setIfInBounds i true).getD j false = false := fun j hj => by
          rw [getD_set_ne false (by omega)]; exact htail j hj
        have hset : (fun j => (listed.setIfInBounds i true).getD j false) = fun j => if j = i then true else listed.getD j false := funext fun j => by
          by_cases e : j = i
          · subst e; rw [if_pos rfl, Array.getD_eq_getD_getElem?]; simp [hil]
          · rw [if_neg e, getD_set_ne false (fun h => e h.symm)]
        -- behind a quiet one
        have hnext : F i = none → ∀ v γ' σ' H' w', Mem w H (fun _ => False) γ' H' σ' w' → Rep γ H' (V i) v → wpAnyIn (Fr X.ro) 0 X.P .any all Q' fuel (listed.setIfInBounds i true) (a.put o.dst v) w' := by
          intro hE v γ' σ' H' w' hm' hr
          have sst' : St X γ H' [] (sAt F (fun j => (listed.setIfInBounds i true).getD j false) σ m) (a.put o.dst v) w' := by
            have h9 := sst.calm (d := o.dst) hm' hdok hr
            rw [sAt_congr (S' := fun j => listed.getD j false) m (fun j hj hne => by
              have e' : i ≠ j := fun e => by subst e; exact hne hE
              exact getD_set_ne false e')]
            exact h9.wk (Wk.nil _) (Wk.refl _)
          refine ih _ γ H' _ w' (by simpa using hs) htail' hclosed' hleft ?_ sst'
          · -- the table
            intro x b hx
            by_cases hxd : o.dst = some x
            · have hlw : tabAt all V t0 (fun j => (listed.setIfInBounds i true).getD j false) m x = some (V i) := by
                have hnx : namesT all o x = true := by simp [namesT, hxd]
                simp only [tabAt]
                have : lastW all (fun j => (listed.setIfInBounds i true).getD j false) x m = lastW all (fun j => decide (j < i + 1)) x m := by
                  refine lastW_congr m fun j hj hd' => ?_
                  by_cases e : i = j
                  · subst e; rw [Array.getD_eq_getD_getElem?]; simp [hil]
                  · show (listed.setIfInBounds i true).getD j false = _
                    rw [getD_set_ne false e, hwr x hnx j hj hd']
                    simp; omega
                rw [this, lastW_top m (by omega)]
                have hda : dstAt all i = some x := by simp [dstAt, ho, hxd]
                simp [lastW, hda]
              rw [hlw] at hx
              simp only [Option.some.injEq] at hx
              subst hx
              have hlt : x < a.tmps.size := by have := sst.size; rw [hxd] at hdok; simp only [dOk, Nat.blt_eq] at hdok; omega
              exact ⟨v, by rw [hxd]; simp [Act.put, hlt], hr⟩
            · have hlw : tabAt all V t0 (fun j => (listed.setIfInBounds i true).getD j false) m x = tabAt all V t0 (fun j => listed.getD j false) m x := by
                simp only [tabAt]
                rw [lastW_congr m fun j hj hd' => ?_]
                have e : i ≠ j := fun e => by subst e; simp [dstAt, ho] at hd'; exact hxd hd'
                exact getD_set_ne false e
              rw [hlw] at hx
              obtain ⟨u, hu, hr'⟩ := htab x b hx
              refine ⟨u, ?_, hr'.mono hm'.hle⟩
              cases hod : o.dst with
              | none => simpa [Act.put, hod] using hu
              | some d =>
                have hne : d ≠ x := fun e => hxd (by rw [hod, e])
                simp only [Act.put]
                rw [Array.getElem?_setIfInBounds, if_neg hne]; exact hu
        have hmemσ : Mem X.w0 X.H0 X.B γ H σ w := sst.mem.wk (fun x e hx => sAt_old hx (fun j y e' f' hj hF hyx => by
          subst hyx
          rw [hout j _ _ _ hj hF] at hx; cases hx) m (Nat.le_refl _))
        -- its guard
        have hguard : ∀ j b' d b, o.guard = some (j, b') → ((all[j]?).bind (·.dst)) = some d → look d (states all V t0 i) = some (.d (.v (.bool b))) → yielded all a.tmps j = some b := by
          intro j b' d b hg hd' hl
          have hnd : namesT all o d = true := by simp [namesT, hg, hd']
          obtain ⟨u, hu, hr⟩ := htab d _ (by rw [htab_i d hnd]; exact hl)
          have := rep_v hr
          subst this
          simp [yielded, hd', hu]
        have hguardU : ∀ j b' d, o.guard = some (j, b') → ((all[j]?).bind (·.dst)) = some d → look d (states all V t0 i) = some (.tup []) → yielded all a.tmps j = none := by
          intro j b' d hg hd' hl
          have hnd : namesT all o d = true := by simp [namesT, hg, hd']
          obtain ⟨u, hu, hr⟩ := htab d _ (by rw [htab_i d hnd]; exact hl)
          have := rep_undef_eq hr
          subst this
          simp [yielded, hd', hu, undef]
        unfold wpOpIn
        simp only [ho]
        rcases hos with ⟨hE, ⟨hg, hq⟩ | ⟨j, b, d, hg, hd', hl, hq⟩ | ⟨j, b, b', d, hg, hd', hl, hne, hV⟩ | ⟨j, b, d, hg, hd', hl, hV⟩⟩ | ⟨id, en, en', hE, hst⟩
        · have hw : Region.wanted o (yielded all a.tmps) = true := by simp [Region.wanted, hg]
          rw [if_pos hw]
          exact ⟨fun _ _ => trivial, hq γ H a w sst.lam hopnd hmemσ _ _ (hnext hE)⟩
        · have hw : Region.wanted o (yielded all a.tmps) = true := by simp [Region.wanted, hg, hguard j b d b hg hd' hl]
          rw [if_pos hw]
          exact ⟨fun _ _ => trivial, hq γ H a w sst.lam hopnd hmemσ _ _ (hnext hE)⟩
        · have hw : Region.wanted o (yielded all a.tmps) = false := by simp [Region.wanted, hg, hguard j b d b' hg hd' hl, hne]
          simp only [hw, Bool.false_eq_true, if_false]
          exact ⟨fun _ _ => trivial, hnext hE undef γ [] H w (sst.mem.refl γ) (by rw [hV]; exact rep_undef)⟩
        · have hw : Region.wanted o (yielded all a.tmps) = false := by simp [Region.wanted, hg, hguardU j b d hg hd' hl]
          simp only [hw, Bool.false_eq_true, if_false]
          exact ⟨fun _ _ => trivial, hnext hE undef γ [] H w (sst.mem.refl γ) (by rw [hV]; exact rep_undef)⟩
        · obtain ⟨hg, hd0, hj⟩ := hst
          have hw : Region.wanted o (yielded all a.tmps) = true := by simp [Region.wanted, hg]
          rw [if_pos hw]
          refine ⟨fun _ _ => trivial, ?_⟩
          -- all temporaries, told asz a list
          obtain ⟨tc, htc⟩ : ∃ tc : T, ∀ x, look x tc = tabAt all V t0 (fun j => listed.getD j false) m x := by
            obtain ⟨tc, h5⟩ := listT (fun x => tabAt all V t0 (fun j => listed.getD j false) m x) a.tmps.size
            refine ⟨tc, fun x => ?_⟩
            rw [h5]
            split
            · rfl
            · next hx =>
              cases hv : tabAt all V t0 (fun j => listed.getD j false) m x with
              | none => rfl
              | some b =>
                obtain ⟨u, hu, _⟩ := htab x b hv
                exact absurd (Array.getElem?_eq_some_iff.1 hu).1 hx
          have hsc : St X γ H tc (sAt F (fun j => listed.getD j false) σ m) a w := St.withT sst (fun x b hx => htab x b (by rw [← htc]; exact hx))
          have hlk : look id (sAt F (fun j => listed.getD j false) σ m) = some en := by
            rw [sAt_is (fun i j x e f e' f' hi hj h1 h2 => hds i j x e f e' f' hi hj h1 h2) him hE m (Nat.le_refl _) him]
            simp only [hif]
          have key := hj tc (sAt F (fun j => listed.getD j false) σ m) (fun x hx v hv => by
            cases x with
            | tmp y =>
              have hy : namesT all o y = true := by
                simp only [namesT, Bool.or_eq_true]
                exact .inl (.inr (List.any_eq_true.2 ⟨_, Array.mem_toList_iff.2 hx, by simp [hasT]⟩))
              show look y tc = some v
              rw [htc, htab_i y hy]; exact hv
            | const c => exact hv
            | func f => exact hv
            | global g => exact hv) hlk
          refine key γ H a w hsc _ _ ?_
          rintro γ' H' t' σ' a' w' s' ⟨rfl, rfl⟩
          refine ih _ γ' H' a' w' (by simpa using hs) htail' hclosed' hleft (fun x b hx => ?_) ?_
          · refine s'.tmp x b ?_
            rw [htc, ← hx]
            simp only [tabAt]
            rw [lastW_congr m fun j hj hd' => ?_]
            have e : i ≠ j := fun e => by subst e; simp [dstAt, ho, hd0] at hd'
            exact (getD_set_ne false e).symm
          · rw [hset]
            refine s'.wk (Wk.nil _) fun x e hx => ?_
            rw [sAt_step (fun i j x e f e' f' hi hj h1 h2 => hds i j x e f e' f' hi hj h1 h2) him hE m (Nat.le_refl _) him] at hx
            rw [look_cons]; exact hx

def CS (X : Cx) (all : Array Oper) (σ0 σ : Sg) (Q : T → Sg → Prop) : List Oper → T → Sg → Prop
  | [], t, ss => ∃ t', Wk t' t ∧ Q t' ss
  | o :: rest, t, ss =>
    (∃ V, OStep X all o t σ V ∧ dOk o.dst X.N = true ∧ CS X all σ0 σ Q rest (putT o.dst V t) ss) ∨
    (∃ id e f, StoreJ X o t id e f ∧ look id σ0 = some e ∧ look id σ = none ∧ look id ss = none ∧ CS X all σ0 σ Q rest t ((id, f) :: ss))
def consF : Option (Nat × Ent × Ent) → Sg → Sg
  | some (i, _, f), ss => (i, f) :: ss
  | none, ss => ss
def sFrom (F : Nat → Option (Nat × Ent × Ent)) (k : Nat) (ss : Sg) : Nat → Sg
  | 0 => ss
  | j + 1 => consF (F (k + j)) (sFrom F k ss j)
theorem sFrom_congr {F F' : Nat → Option (Nat × Ent × Ent)} {k : Nat} {ss : Sg} : ∀ j, (∀ i, k ≤ i → i < k + j → F i = F' i) → sFrom F k ss j = sFrom F' k ss j
  | 0, _ => rfl
  | j + 1, h => by
    simp only [sFrom]
    rw [h (k + j) (by omega) (by omega), sFrom_congr j (fun i h1 h2 => h i h1 (by omega))]
theorem sFrom_succ {F : Nat → Option (Nat × Ent × Ent)} {k : Nat} {ss : Sg} : ∀ j, sFrom F k ss (j + 1) = sFrom F (k + 1) (consF (F k) ss) j
  | 0 => rfl
  | j + 1 => by
    rw [sFrom, sFrom_succ j, sFrom]
    rw [show k + (j + 1) = k + 1 + j from by omega]
theorem sAt_all {F : Nat → Option (Nat × Ent × Ent)} {σ : Sg} : ∀ j, sAt F (fun _ => true) σ j = sFrom F 0 [] j ++ σ
  | 0 => rfl
  | j + 1 => by
    simp only [sAt, sFrom, Nat.zero_add]
    rw [sAt_all j]
    cases F j <;> rfl
def STab (X : Cx) (all : Array Oper) (σ0 σ : Sg) (Q : T → Sg → Prop) (rest : List Oper) (k : Nat) (t : T) (ss : Sg) : Prop :=
    ∃ (V : Nat → AV) (F : Nat → Option (Nat × Ent × Ent)), (∀ j o, j < rest.length → all[k + j]? = some o → SStep X all o (statesFrom all V t k j) σ (V (k + j)) (F (k + j)) ∧ dOk o.dst X.N = true) ∧
      (∃ t', Wk t' (statesFrom all V t k rest.length) ∧ Q t' (sFrom F k ss rest.length)) ∧
      (∀ j x e f, j < rest.length → F (k + j) = some (x, e, f) → look x σ0 = some e ∧ look x σ = none ∧ look x ss = none) ∧
      (∀ i j x e f e' f', i < rest.length → j < rest.length → F (k + i) = some (x, e, f) → F (k + j) = some (x, e', f') → i = j)
theorem CS.table {X : Cx} {all : Array Oper} {σ0 σ : Sg} {Q : T → Sg → Prop} : ∀ (rest : List Oper) (k : Nat) (t : T) (ss : Sg), (∀ j, j < rest.length → all[k + j]? = rest[j]?) → CS X all σ0 σ Q rest t ss → STab X all σ0 σ Q rest k t ss
  | [], k, t, ss, _, h => ⟨fun _ => .junk, fun _ => none, fun j o hj => by simp at hj, h, fun j x e f hj => by simp at hj, fun i j x e f e' f' hi => by simp at hi⟩
  | p :: rest, k, t, ss, ha, h => by
    have hk : all[k]? = some p := by simpa using ha 0 (by simp)
    have hdk : dstAt all k = p.dst := by simp [dstAt, hk]
    have ha' : ∀ j, j < rest.length → all[k + 1 + j]? = rest[j]? := fun j hj => by have := ha (j + 1) (by simp; omega); rw [show k + 1 + j = k + (j + 1) from by omega]; simpa using this
    have hne : ∀ j, k + (j + 1) ≠ k := fun j => by omega
    have hadd : ∀ j, k + (j + 1) = k + 1 + j := fun j => by omega
    have key : ∀ (V0 : AV) (F0 : Option (Nat × Ent × Ent)), SStep X all p t σ V0 F0 → dOk p.dst X.N = true → CS X all σ0 σ Q rest (putT p.dst V0 t) (consF F0 ss) →
        (∀ x e f, F0 = some (x, e, f) → look x σ0 = some e ∧ look x σ = none ∧ look x ss = none) → STab X all σ0 σ Q (p :: rest) k t ss := by
      intro V0 F0 hB hdok h4 hF0
      obtain ⟨V', F', i1, ⟨t', i2, i3⟩, ia, ib⟩ := CS.table rest (k + 1) _ _ ha' h4
      have hV : ∀ j, statesFrom all (fun i => if i = k then V0 else V' i) t k (j + 1) = statesFrom all V' (putT p.dst V0 t) (k + 1) j := fun j => by
        rw [statesFrom_succ, hdk]
        simp only [if_true]
        exact statesFrom_congr j fun i h7 h8 => if_neg (by omega)
      have hFF : ∀ j, sFrom (fun i => if i = k then F0 else F' i) k ss (j + 1) = sFrom F' (k + 1) (consF F0 ss) j := fun j => by
        rw [sFrom_succ]
        simp only [if_true]
        exact sFrom_congr (F := fun i => if i = k then F0 else F' i) (F' := F') j fun i h7 h8 => if_neg (by omega)
      refine ⟨fun i => if i = k then V0 else V' i, fun i => if i = k then F0 else F' i, ?_, ⟨t', by rw [List.length_cons, hV]; exact i2, by rw [List.length_cons, hFF]; exact i3⟩, ?_, ?_⟩
      · intro j o hj ho
        cases j with
        | zero =>
          rw [Nat.add_zero, hk] at ho
          simp only [Option.some.injEq] at ho
          subst ho
          simp only [Nat.add_zero, if_true, statesFrom]
          exact ⟨hB, hdok⟩
        | succ j =>
          rw [hV]
          simp only [if_neg (hne j)]
          have := i1 j o (by simpa using hj) (by rw [← hadd j]; exact ho)
          rw [hadd j]; exact this
      · intro j x e f hj hF
        cases j with
        | zero =>
          simp only [Nat.add_zero, if_true] at hF
          exact hF0 x e f hF
        | succ j =>
          simp only [if_neg (hne j)] at hF; rw [hadd j] at hF
          obtain ⟨g1, g2, g3⟩ := ia j x e f (by simpa using hj) hF
          refine ⟨g1, g2, ?_⟩
          cases F0 with
          | none => exact g3
          | some q =>
            obtain ⟨y, e0, f0⟩ := q
            simp only [consF] at g3
            rw [look_cons] at g3
            split at g3
            · cases g3
            · exact g3
      · have cross : ∀ j x e f e' f', j < rest.length → F0 = some (x, e, f) → F' (k + 1 + j) = some (x, e', f') → False := fun j x e f e' f' hj h1 h2 => by
          obtain ⟨_, _, g3⟩ := ia j x e' f' hj h2
          rw [h1] at g3
          simp only [consF] at g3
          rw [look_cons, if_pos rfl] at g3; cases g3
        intro i j x e f e' f' hi hj h1 h2
        cases i with
        | zero =>
          simp only [Nat.add_zero, if_true] at h1
          cases j with
          | zero => rfl
          | succ j =>
            simp only [if_neg (hne j)] at h2; rw [hadd j] at h2
            exact (cross j x e f e' f' (by simpa using hj) h1 h2).elim
        | succ i =>
          simp only [if_neg (hne i)] at h1; rw [hadd i] at h1
          cases j with
          | zero =>
            simp only [Nat.add_zero, if_true] at h2
            exact (cross i x e' f' e f (by simpa using hi) h2 h1).elim
          | succ j =>
            simp only [if_neg (hne j)] at h2; rw [hadd j] at h2
            rw [ib i j x e f e' f' (by simpa using hi) (by simpa using hj) h1 h2]
    rcases h with ⟨V0, h1, h2, h4⟩ | ⟨id0, e0, f0, hs, g1, g2, g3, h4⟩
    · exact key V0 none (.inl ⟨rfl, h1⟩) h2 h4 (fun x e f h => by cases h)
    · have hd0 := hs.2.1
      exact key .junk (some (id0, e0, f0)) (.inr ⟨id0, e0, f0, rfl, hs⟩) (by rw [hd0]; rfl) (by rw [hd0]; exact h4) (fun x e f h => by cases h; exact ⟨g1, g2, g3⟩)
theorem WJ.calmS {X : Cx} {id : Nat} {ops : Array Oper} {t : T} {σ0 σ : Sg} {R : T → Sg → Prop} {Q' : Exit → Act → World → Prop} (m : Nat) (hm : X.P.follows .mixedOrders = true) (hc : CalmR ops m) (hle : m ≤ ops.size) (hσ : Wk σ σ0)
    (hend : ∀ t ss, R t ss → ∀ γ H a w listed, St X γ H t (ss ++ σ) a w → listed.size = ops.size → (∀ j, j < ops.size → listed.getD j false = decide (j < m)) → wpAnyIn (Fr X.ro) 0 X.P .any ops Q' (ops.size - m) listed a w)
    (h : CS X ops σ0 σ R (ops.toList.take m) t []) : ∀ γ H a w, St X γ H t σ0 a w → (Code.region id ops true).wpIn (Fr X.ro) 0 X.P Q' a w := by
  intro γ H a w s
  refine wpIn_region_any hm ?_
  have hlen : (ops.toList.take m).length = m := by simp; omega
  obtain ⟨V, F, h1, ⟨t', h2, h3⟩, ha, hb⟩ := CS.table (ops.toList.take m) 0 t [] (fun j hj => by rw [hlen] at hj; rw [Nat.zero_add, List.getElem?_take, if_pos hj]; simp) h
  simp only [hlen, Nat.zero_add] at h1 h2 h3 ha hb
  have s' : St X γ H t σ0 a { w with drawn := w.drawn + 1 } := ⟨s.lam, s.round, s.defers, s.size, s.pinned, s.tmp, s.mem.drew⟩
  have hall : ∀ j, (Array.replicate ops.size false).getD j false = false := fun j => by
    rw [Array.getD_eq_getD_getElem?, Array.getElem?_replicate]; split <;> rfl
  refine calm_anyS hc hle (V := V) (F := F) (σ := σ) (fun i o hi ho => by
    have := h1 i o hi ho
    rw [statesFrom_zero] at this
    exact this) (fun i j x e f e' f' hi hj h1 h2 => hb i j x e f e' f' hi hj h1 h2) (fun i x e f hi hF => (ha i x e f hi hF).2.1) (fun γ H a w lst st hls hlst => ?_) ops.size _ γ H a _ (by simp) (fun j _ => hall j) (fun i o hi => by rw [hall i] at hi; cases hi) ?_ ?_ ?_
  · rw [sAt_all] at st
    exact hend _ _ h3 γ H a w lst (st.wk (by rw [statesFrom_zero] at h2; exact h2) (Wk.refl _)) hls hlst
  · have : ((List.range m).filter fun j => !(Array.replicate ops.size false).getD j false) = List.range m := List.filter_eq_self.2 fun j _ => by rw [hall j]; rfl
    rw [this, List.length_range]; omega
  · intro x b hx
    have : lastW ops (fun j => (Array.replicate ops.size false).getD j false) x m = none := by
      have h0 : ∀ k, lastW ops (fun _ => false) x k = none := fun k => by
        induction k with
        | zero => rfl
        | succ k ih => simp [lastW, ih]
      rw [lastW_congr (S' := fun _ => false) m (fun j _ _ => hall j)]; exact h0 m
    simp only [tabAt, this] at hx
    exact s.tmp x b hx
  · have e0 : sAt F (fun j => (Array.replicate ops.size false).getD j false) σ m = sAt F (fun _ => false) σ m := sAt_congr m fun j _ _ => hall j
    rw [e0]
    refine s'.wk (Wk.nil _) fun x e hx => ?_
    have up : ∀ k, k ≤ m → look x (sAt F (fun _ => false) σ k) = some e → look x σ0 = some e := fun k => by
      induction k with
      | zero => exact fun _ h => hσ x e h
      | succ k ih =>
        intro hk h
        simp only [sAt] at h
        cases hF : F k with
        | none => rw [hF] at h; exact ih (by omega) h
        | some q =>
          obtain ⟨y, e1, f1⟩ := q
          rw [hF] at h
          simp only at h
          rw [look_cons] at h
          split at h
          · next hy =>
            subst hy
            cases h
            exact (ha k _ _ _ (by omega) hF).1
          · exact ih (by omega) h
    exact up m (Nat.le_refl _) hx
/-! ### The reckoning -/
def inN (i : Nat) : List Nat → Bool
  | [] => false
  | j :: r => match Nat.beq i j with | true => true | false => inN i r
def hideS (ks : List Nat) : Sg → Sg
  | [] => []
  | (i, e) :: σ => match inN i ks with | true => hideS ks σ | false => (i, e) :: hideS ks σ
theorem hideS_wk (ks : List Nat) : ∀ σ : Sg, Wk (hideS ks σ) σ ∧ ∀ i, inN i ks = true → look i (hideS ks σ) = none
  | [] => ⟨Wk.nil _, fun _ _ => rfl⟩
  | (j, e) :: σ => by
    obtain ⟨h1, h2⟩ := hideS_wk ks σ
    have go : ∀ i a, inN i ks = false → look i (hideS ks σ) = some a → look i σ = some a := fun i a _ h => h1 i a h
    refine ⟨fun i a hi => ?_, fun i hi => ?_⟩
    · have hn : inN i ks = false := by
        cases h : inN i ks with
        | false => rfl
        | true =>
          have : look i (hideS ks ((j, e) :: σ)) = none := by
            simp only [hideS]
            split
            · exact h2 i h
            · next hj =>
              rw [look_cons, if_neg (fun e => by subst e; rw [h] at hj; cases hj)]
              exact h2 i h
          rw [this] at hi; cases hi
      simp only [hideS] at hi
      split at hi
      · next hj =>
        rw [look_cons, if_neg (fun e => by subst e; rw [hn] at hj; cases hj)]
        exact h1 i a hi
      · rw [look_cons] at hi ⊢
        split
        · next e => rw [if_pos e] at hi; exact hi
        · next e => rw [if_neg e] at hi; exact h1 i a hi
    · simp only [hideS]
      split
      · exact h2 i hi
      · next hj =>
        rw [look_cons, if_neg (fun e => by subst e; rw [hi] at hj; cases hj)]
        exact h2 i hi
/-- A store of the head. -/
def stS (X : Cx) (e : TypeId) (x y : Operand) (t : T) (σ0 σ ss : Sg) (K : Nat → Ent → Prop) : Prop := match szOf X.P e, ge t x, ge t y with
  | some n, some (.box i off), some v => (match look i σ0, look i σ, look i ss with
    | some (.cells cs), none, none => (match oneAV v && oneAll (avCells v) && Nat.beq (avCells v).length n && Nat.ble (off + n) cs.length with
      | true => frcN (off + n) (setF cs off (avCells v)) fun cs' => K i (.cells cs')
      | false => False)
    | _, _, _ => False)
  | _, _, _ => False
def stepS (X : Cx) (o : Oper) (t : T) (σ : Sg) (K : T → Prop) : Prop :=
  qw X o t σ (fun V => match dOk o.dst X.N with | true => K (putT o.dst V t) | false => False) (QuietP X o t σ (fun V => match dOk o.dst X.N with | true => K (putT o.dst V t) | false => False) fun _ _ _ => False)
def vS (X : Cx) (all : Array Oper) (σ0 σ : Sg) (Q : T → Sg → Prop) : List Oper → T → Sg → Prop
  | [], t, ss => Q t ss
  | o :: rest, t, ss => match o.op, o.dst, o.guard with
    | .store e x y, none, none => stS X e x y t σ0 σ ss fun i f => vS X all σ0 σ Q rest t ((i, f) :: ss)
    | _, _, none => stepS X o t σ fun t => vS X all σ0 σ Q rest t ss
    | _, _, some (j, b0) => match dstOf all j, dOk o.dst X.N with
      | some d, true => (match look d t with
        | some (.d (.v (.bool b))) => grd b0 b d t (fun t => stepS X o t σ fun t => vS X all σ0 σ Q rest t ss) (fun t => vS X all σ0 σ Q rest (putT o.dst (.tup []) t) ss)
        | some (.tup []) => vS X all σ0 σ Q rest (putT o.dst (.tup []) t) ss
        | _ => False)
      | _, _ => False
theorem StoreJ.wk {X : Cx} {o : Oper} {t t' : T} {id : Nat} {e f : Ent} (hw : Wk t' t) (h : StoreJ X o t' id e f) : StoreJ X o t id e f :=
  ⟨h.1, h.2.1, fun t2 σ2 hx hl => h.2.2 t2 σ2 (fun x hx2 v hv => hx x hx2 v (by
    cases x with
    | tmp i => exact hw i v hv
    | const c => exact hv
    | func f => exact hv
    | global g => exact hv)) hl⟩
theorem CS.wk {X : Cx} {all : Array Oper} {σ0 σ : Sg} {Q : T → Sg → Prop} : ∀ (rest : List Oper) (t t' : T) (ss : Sg), Wk t' t → CS X all σ0 σ Q rest t' ss → CS X all σ0 σ Q rest t ss
  | [], t, t', ss, hw, ⟨t'', h1, h2⟩ => ⟨t'', h1.trans hw, h2⟩
  | o :: rest, t, t', ss, hw, h => by
    rcases h with ⟨V, h1, h2, h4⟩ | ⟨id, e, f, hs, g1, g2, g3, h4⟩
    · exact .inl ⟨V, h1.wk hw, h2, CS.wk rest _ _ ss hw.put h4⟩
    · exact .inr ⟨id, e, f, hs.wk hw, g1, g2, g3, CS.wk rest _ _ _ hw h4⟩
theorem stepS_sound {X : Cx} {all : Array Oper} {o : Oper} {t : T} {σ0 σ ss : Sg} {rest : List Oper} {Q : T → Sg → Prop} {K : T → Prop} (hK : ∀ t, K t → CS X all σ0 σ Q rest t ss)
    (hg : o.guard = none ∨ ∃ j b d, o.guard = some (j, b) ∧ ((all[j]?).bind (·.dst)) = some d ∧ look d t = some (.d (.v (.bool b)))) (h : stepS X o t σ K) : CS X all σ0 σ Q (o :: rest) t ss := by
  have fin : ∀ V, QJ X o t σ V → (match dOk o.dst X.N with | true => K (putT o.dst V t) | false => False) → CS X all σ0 σ Q (o :: rest) t ss := fun V hq hk => by
    split at hk
    · next hb =>
      rcases hg with hg | ⟨j, b, d, h1, h2, h3⟩
      · exact .inl ⟨V, .inl ⟨hg, hq⟩, hb, hK _ hk⟩
      · exact .inl ⟨V, .inr (.inl ⟨j, b, d, h1, h2, h3, hq⟩), hb, hK _ hk⟩
    · exact hk.elim
  unfold stepS at h
  rcases qw_sound h with ⟨V, hq, hk⟩ | h
  · exact fin V hq hk
  · cases h with
    | of hq hk => exact fin _ hq hk
    | born hb hk => exact hk.elim
theorem stS_sound {X : Cx} {o : Oper} {e : TypeId} {x y : Operand} {t : T} {σ0 σ ss : Sg} {K : Nat → Ent → Prop} (ho : o.op = .store e x y) (hd : o.dst = none) (hg : o.guard = none) (h : stS X e x y t σ0 σ ss K) :
    ∃ id en f, StoreJ X o t id en f ∧ look id σ0 = some en ∧ look id σ = none ∧ look id ss = none ∧ K id f := by
  unfold stS at h
  split at h
  · next n i off v hs hx hy =>
    split at h
    · next cs h1 h2 h3 =>
      split at h
      · next hb =>
        simp only [Bool.and_eq_true, Nat.ble_eq, Nat.beq_eq] at hb
        rw [frcN_eq, setF_eq] at h
        obtain ⟨d, op, ty, pos, aft, g⟩ := o
        simp only at ho hd hg
        subst ho; subst hd; subst hg
        refine ⟨i, _, _, ⟨rfl, rfl, fun t' σ' hop hl => ?_⟩, h1, h2, h3, h⟩
        exact O.store (hop x (by simp [Op.operands]) _ hx) rfl (hop y (by simp [Op.operands]) _ hy) hl hb.1.1.1 hb.1.1.2 (szOf_run hs) hb.1.2 hb.2 rfl ⟨rfl, rfl⟩
      · exact h.elim
    · exact h.elim
  · exact h.elim
theorem vS_sound {X : Cx} {all : Array Oper} {σ0 σ : Sg} {Q : T → Sg → Prop} : ∀ (rest : List Oper) (t : T) (ss : Sg), vS X all σ0 σ Q rest t ss → CS X all σ0 σ Q rest t ss
  | [], t, ss, h => ⟨t, Wk.refl t, h⟩
  | o :: rest, t, ss, h => by
    unfold vS at h
    split at h
    · next e x y ho hd hg =>
      obtain ⟨id, en, f, h1, h2, h3, h4, h5⟩ := stS_sound ho hd hg h
      exact .inr ⟨id, en, f, h1, h2, h3, h4, vS_sound rest t _ h5⟩
    · next hg _ => exact stepS_sound (fun t h => vS_sound rest t ss h) (.inl hg) h
    · next j b0 hg =>
      split at h
      · next d hd hN =>
        have hd' : ((all[j]?).bind (·.dst)) = some d := by rw [dstOf_eq]; exact hd
        split at h
        · next b hb =>
          have yes : ∀ c, b = c → stepS X o ((d, .d (.v (.bool c))) :: t) σ (fun t => vS X all σ0 σ Q rest t ss) → c = b0 → CS X all σ0 σ Q (o :: rest) t ss := fun c hc he hcb => by
            subst hc; subst hcb
            exact CS.wk _ _ _ _ (Wk.cons hb (Wk.refl t)) (stepS_sound (fun t h => vS_sound rest t ss h) (.inr ⟨j, b, d, hg, hd', by rw [look_cons, if_pos rfl]⟩) he)
          have no : ∀ c, b = c → vS X all σ0 σ Q rest (putT o.dst (.tup []) ((d, .d (.v (.bool c))) :: t)) ss → c ≠ b0 → CS X all σ0 σ Q (o :: rest) t ss := fun c hc he hcb => by
            subst hc
            exact CS.wk _ _ _ _ (Wk.cons hb (Wk.refl t)) (.inl ⟨.tup [], .inr (.inr (.inl ⟨j, b0, b, d, hg, hd', by rw [look_cons, if_pos rfl], hcb, rfl⟩)), hN, vS_sound rest _ ss he⟩)
          cases b0 with
          | true => cases b with
            | true => exact yes true rfl (h.1 rfl) rfl
            | false => exact no false rfl (h.2 rfl) (by simp)
          | false => cases b with
            | true => exact no true rfl (h.1 rfl) (by simp)
            | false => exact yes false rfl (h.2 rfl) rfl
        · next hb => exact .inl ⟨.tup [], .inr (.inr (.inr ⟨j, b0, d, hg, hd', hb, rfl⟩)), hN, vS_sound rest _ ss h⟩
        · exact h.elim
      · exact h.elim
/-- **A region that draws its order: quiet operations ahead, and stores into the variables ks, in any order, the rest by all orders.** -/
theorem RegP.mixS {X : Cx} {id : Nat} {ops : Array Oper} {t : T} {σ : Sg} {Q : T → Sg → Prop} (m : Nat) (ks : List Nat) (hm : X.P.follows .mixedOrders = true) (hc : (calmB2 ops m && Nat.ble m ops.size) = true)
    (h : vS X ops σ (hideS ks σ) (fun t ss => vO X ops Q (ops.size - m) (trues m (falses (ops.size - m))) t (ss ++ hideS ks σ)) (ops.toList.take m) t []) : RegP X id ops t σ Q := by
  intro Q' hQ
  simp only [Bool.and_eq_true, Nat.ble_eq] at hc
  refine WJ.calmS m hm (calmB2_R hc.1) hc.2 (hideS_wk ks σ).1 (fun t σ h3 γ H a w lst hst hls hlst => ?_) (vS_sound _ _ _ h)
  have e : lst = (trues m (falses (ops.size - m))).toArray := by
    rw [trues_eq, falses_eq]
    apply Array.ext
    · simp [hls]; omega
    · intro j h1 h2
      have hj := hlst j (by omega)
      rw [Array.getD_eq_getD_getElem?, Array.getElem?_eq_getElem h1, Option.getD_some] at hj
      rw [hj, List.getElem_toArray, List.getElem_append]
      split
      · next h3 => simp at h3; simp [h3]
      · next h3 => simp at h3; simp; omega
  rw [e]
  exact vO_sound (Q := Q) (Q' := Post X Q') (fun γ H t σ a w s q => ⟨γ, H, t, σ, s, hQ t σ q⟩) (ops.size - m) _ t _ h3 γ H a w hst
end Go.Gv
end
section
namespace Go.Gv
open Go.RowKit
def TStep (X : Cx) (all : Array Oper) (o : Oper) (t : T) (σ : Sg) (V : AV) (E : Option (Nat × Ent)) (F : Option (Nat × Ent × Ent)) : Prop :=
  (E = none ∧ F = none ∧ OStep X all o t σ V) ∨ (∃ id e, E = some (id, e) ∧ F = none ∧ o.guard = none ∧ BirthJ X o t σ id V e) ∨ (∃ id e f, E = none ∧ F = some (id, e, f) ∧ StoreJ X o t id e f)
abbrev Bs := List (Nat × Nat × Ent)
def bsS (bs : Bs) : Sg := bs.map fun p => p.2
/-- The region's operations, in their order; k: the number of the next. -/
def CT (X : Cx) (all : Array Oper) (σ0 σ : Sg) (Q : T → Sg → Prop) : List Oper → Nat → T → Bs → Sg → Prop
  | [], _, t, bs, ss => ∃ t', Wk t' t ∧ Q t' (ss ++ bsS bs)
  | o :: rest, k, t, bs, ss =>
    (∃ V, OStep X all o t σ V ∧ dOk o.dst X.N = true ∧ (∀ p, p ∈ bs → has2 p.2.1 V = false) ∧ CT X all σ0 σ Q rest (k + 1) (putT o.dst V t) bs ss) ∨
    (∃ id V e, o.dst = some id ∧ o.guard = none ∧ BirthJ X o t σ id V e ∧ dOk (some id) X.N = true ∧ isFresh id t (ss ++ (bsS bs ++ σ0)) X.pin = true ∧
      (∀ p, p ∈ bs → entHas p.2.1 e = false ∧ has2 p.2.1 V = false) ∧ CT X all σ0 σ Q rest (k + 1) ((id, V) :: t) ((k, id, e) :: bs) ss) ∨
    (∃ x e f, StoreJ X o t x e f ∧ look x σ = none ∧ look x ss = none ∧ ((look x σ0 = some e ∧ ∀ p, p ∈ bs → p.2.1 ≠ x) ∨ (∃ b, (b, x, e) ∈ bs ∧ edge o b = true)) ∧
      (∀ p, p ∈ bs → edge o p.1 = true ∨ (x ≠ p.2.1 ∧ entHas p.2.1 f = false)) ∧ CT X all σ0 σ Q rest (k + 1) t bs ((x, f) :: ss))
structure TTab (X : Cx) (all : Array Oper) (σ0 σ : Sg) (Q : T → Sg → Prop) (n k : Nat) (t : T) (bs : Bs) (ss : Sg) (V : Nat → AV) (E : Nat → Option (Nat × Ent)) (F : Nat → Option (Nat × Ent × Ent)) : Prop where
  step : ∀ j o, j < n → all[k + j]? = some o → TStep X all o (statesFrom all V t k j) σ (V (k + j)) (E (k + j)) (F (k + j)) ∧ dOk o.dst X.N = true
  fin : ∃ t', Wk t' (statesFrom all V t k n) ∧ Q t' (sFrom F k ss n ++ bornFrom E k (bsS bs) n)
  fresh : ∀ j id e, j < n → E (k + j) = some (id, e) → isFresh id t (ss ++ (bsS bs ++ σ0)) X.pin = true
  ev : ∀ j j' x id e, j < n → j' < n → j' ≠ j → E (k + j) = some (id, e) → dstAt all (k + j') = some x → has2 id (V (k + j')) = false
  ee : ∀ j j' id e id' e', j < n → j' < n → j' ≠ j → E (k + j) = some (id, e) → E (k + j') = some (id', e') → id' ≠ id ∧ entHas id e' = false
  ef : ∀ j j' id e x e' f, j < n → j' < n → E (k + j) = some (id, e) → F (k + j') = some (x, e', f) → (∀ o, all[k + j']? = some o → edge o (k + j) = true) ∨ (x ≠ id ∧ entHas id f = false)
  old : ∀ j x e f, j < n → F (k + j) = some (x, e, f) → look x σ = none ∧ look x ss = none ∧
    ((look x σ0 = some e ∧ (∀ p, p ∈ bs → p.2.1 ≠ x) ∧ ∀ j' id e', j' < n → E (k + j') = some (id, e') → id ≠ x) ∨ (∃ b, (b, x, e) ∈ bs ∧ ∀ o, all[k + j]? = some o → edge o b = true) ∨ (∃ j', j' < n ∧ E (k + j') = some (x, e) ∧ ∀ o, all[k + j]? = some o → edge o (k + j') = true))
  ff : ∀ i j x e f e' f', i < n → j < n → F (k + i) = some (x, e, f) → F (k + j) = some (x, e', f') → i = j
  bv : ∀ p, p ∈ bs → ∀ j, j < n → (∀ x, dstAt all (k + j) = some x → has2 p.2.1 (V (k + j)) = false) ∧ (∀ id e, E (k + j) = some (id, e) → id ≠ p.2.1 ∧ entHas p.2.1 e = false) ∧
    ∀ x e f, F (k + j) = some (x, e, f) → (∀ o, all[k + j]? = some o → edge o p.1 = true) ∨ (x ≠ p.2.1 ∧ entHas p.2.1 f = false)
def consE (k : Nat) : Option (Nat × Ent) → Bs → Bs
  | some q, bs => (k, q) :: bs
  | none, bs => bs
theorem bsS_cons (k : Nat) (E0 : Option (Nat × Ent)) (bs : Bs) : bsS (consE k E0 bs) = consO E0 (bsS bs) := by cases E0 <;> rfl
theorem fresh_app {id : Nat} {t : T} {a b : Sg} {pin : List Nat} (h : isFresh id t (a ++ b) pin = true) : isFresh id t a pin = true ∧ isFresh id t b pin = true := by
  simp only [isFresh, Bool.and_eq_true, List.all_append] at h ⊢
  exact ⟨⟨⟨h.1.1, h.1.2.1⟩, h.2⟩, ⟨⟨h.1.1, h.1.2.2⟩, h.2⟩⟩
theorem fresh_mem {id : Nat} {t : T} {σ : Sg} {pin : List Nat} (h : isFresh id t σ pin = true) {p : Nat × Ent} (hp : p ∈ σ) : p.1 ≠ id ∧ entHas id p.2 = false := by
  simp only [isFresh, Bool.and_eq_true, List.all_eq_true] at h
  have := h.1.2 p hp
  simp only [Bool.and_eq_true, Bool.not_eq_true'] at this
  exact ⟨fun e => by rw [e] at this; simp at this, this.2⟩
theorem fresh_less {id : Nat} {t : T} {σ σ' : Sg} {pin : List Nat} (h : isFresh id t σ pin = true) (hs : ∀ p, p ∈ σ' → p ∈ σ) : isFresh id t σ' pin = true := by
  simp only [isFresh, Bool.and_eq_true, List.all_eq_true] at h ⊢
  exact ⟨⟨h.1.1, fun p hp => h.1.2 p (hs p hp)⟩, h.2⟩
theorem CT.table {X : Cx} {all : Array Oper} {σ0 σ : Sg} {Q : T → Sg → Prop} : ∀ (rest : List Oper) (k : Nat) (t : T) (bs : Bs) (ss : Sg), (∀ j, j < rest.length → all[k + j]? = rest[j]?) → CT X all σ0 σ Q rest k t bs ss → ∃ V E F, TTab X all σ0 σ Q rest.length k t bs ss V E F
  | [], k, t, bs, ss, _, h => ⟨fun _ => .junk, fun _ => none, fun _ => none, ⟨fun j o hj => by simp at hj, h, fun j id e hj => by simp at hj, fun j j' x id e hj => by simp at hj, fun j j' id e id' e' hj => by simp at hj, fun j j' id e x e' f hj => by simp at hj, fun j x e f hj => by simp at hj, fun i j x e f e' f' hi => by simp at hi, fun p _ j hj => by simp at hj⟩⟩
  | p :: rest, k, t, bs, ss, ha, h => by
    have hk : all[k]? = some p := by simpa using ha 0 (by simp)
    have hdk : dstAt all k = p.dst := by simp [dstAt, hk]
    have ha' : ∀ j, j < rest.length → all[k + 1 + j]? = rest[j]? := fun j hj => by have := ha (j + 1) (by simp; omega); rw [show k + 1 + j = k + (j + 1) from by omega]; simpa using this
    have hne : ∀ j, k + (j + 1) ≠ k := fun j => by omega
    have hadd : ∀ j, k + (j + 1) = k + 1 + j := fun j => by omega
    have key : ∀ (V0 : AV) (E0 : Option (Nat × Ent)) (F0 : Option (Nat × Ent × Ent)), TStep X all p t σ V0 E0 F0 → dOk p.dst X.N = true → CT X all σ0 σ Q rest (k + 1) (putT p.dst V0 t) (consE k E0 bs) (consF F0 ss) →
        (∀ id e, E0 = some (id, e) → isFresh id t (ss ++ (bsS bs ++ σ0)) X.pin = true) →
        (∀ x e f, F0 = some (x, e, f) → E0 = none ∧ look x σ = none ∧ look x ss = none ∧ ((look x σ0 = some e ∧ ∀ q, q ∈ bs → q.2.1 ≠ x) ∨ (∃ b, (b, x, e) ∈ bs ∧ edge p b = true))) →
        (∀ q, q ∈ bs → (∀ x, p.dst = some x → has2 q.2.1 V0 = false) ∧ (∀ id e, E0 = some (id, e) → id ≠ q.2.1 ∧ entHas q.2.1 e = false) ∧ ∀ x e f, F0 = some (x, e, f) → edge p q.1 = true ∨ (x ≠ q.2.1 ∧ entHas q.2.1 f = false)) →
        ∃ V E F, TTab X all σ0 σ Q (p :: rest).length k t bs ss V E F := by
      intro V0 E0 F0 hB hdok h4 hE0 hF0 hbs
      obtain ⟨V', E', F', tb⟩ := CT.table rest (k + 1) _ _ _ ha' h4
      obtain ⟨i1, ⟨t', i2, i3⟩, i4, i5, i6, i7, i8, i9, i10⟩ := tb
      have hV : ∀ j, statesFrom all (fun i => if i = k then V0 else V' i) t k (j + 1) = statesFrom all V' (putT p.dst V0 t) (k + 1) j := fun j => by
        rw [statesFrom_succ, hdk]
        simp only [if_true]
        exact statesFrom_congr j fun i h7 h8 => if_neg (by omega)
      have hFF : ∀ j, sFrom (fun i => if i = k then F0 else F' i) k ss (j + 1) = sFrom F' (k + 1) (consF F0 ss) j := fun j => by
        rw [sFrom_succ]
        simp only [if_true]
        exact sFrom_congr (F := fun i => if i = k then F0 else F' i) (F' := F') j fun i h7 h8 => if_neg (by omega)
      have hEE : ∀ j, bornFrom (fun i => if i = k then E0 else E' i) k (bsS bs) (j + 1) = bornFrom E' (k + 1) (bsS (consE k E0 bs)) j := fun j => by
        rw [bornFrom_succ, bsS_cons]
        simp only [if_true]
        exact bornFrom_congr (E := fun i => if i = k then E0 else E' i) (E' := E') j fun i h7 h8 => if_neg (by omega)
      -- the head's birth is a member of what is born behind it
      have memE : ∀ q, E0 = some q → (k, q) ∈ consE k E0 bs := fun q e => by rw [e]; simp [consE]
      have memB : ∀ q, q ∈ bs → q ∈ consE k E0 bs := fun q hq => by cases E0 <;> simp [consE, hq]
      have freshL : ∀ id, isFresh id (putT p.dst V0 t) (consF F0 ss ++ (bsS (consE k E0 bs) ++ σ0)) X.pin = true → isFresh id t (ss ++ (bsS bs ++ σ0)) X.pin = true ∧ (∀ x, p.dst = some x → has2 id V0 = false) ∧ (∀ id' e', E0 = some (id', e') → id' ≠ id ∧ entHas id e' = false) ∧ ∀ x e f, F0 = some (x, e, f) → x ≠ id ∧ entHas id f = false := by
        intro id hf
        obtain ⟨g1, g2⟩ := fresh_putT hf
        refine ⟨fresh_less g1 fun q hq => ?_, g2, fun id' e' h => ?_, fun x e f h => ?_⟩
        · rcases List.mem_append.1 hq with h | h
          · exact List.mem_append.2 (.inl (by cases F0 with | none => exact h | some r => exact List.mem_cons.2 (.inr h)))
          · rcases List.mem_append.1 h with h | h
            · refine List.mem_append.2 (.inr (List.mem_append.2 (.inl ?_)))
              rw [bsS_cons]; cases E0 with | none => exact h | some r => exact List.mem_cons.2 (.inr h)
            · exact List.mem_append.2 (.inr (List.mem_append.2 (.inr h)))
        · exact fresh_mem g1 (p := (id', e')) (List.mem_append.2 (.inr (List.mem_append.2 (.inl (by rw [bsS_cons, h]; simp [consO])))))
        · exact fresh_mem g1 (p := (x, f)) (List.mem_append.2 (.inl (by rw [h]; simp [consF])))
      refine ⟨fun i => if i = k then V0 else V' i, fun i => if i = k then E0 else E' i, fun i => if i = k then F0 else F' i, ?_, ⟨t', by rw [List.length_cons, hV]; exact i2, by rw [List.length_cons, hFF, hEE]; exact i3⟩, ?_, ?_, ?_, ?_, ?_, ?_, ?_⟩
      · intro j o hj ho
        cases j with
        | zero =>
          rw [Nat.add_zero, hk] at ho
          simp only [Option.some.injEq] at ho
          subst ho
          simp only [Nat.add_zero, if_true, statesFrom]
          exact ⟨hB, hdok⟩
        | succ j =>
          rw [hV]
          simp only [if_neg (hne j)]
          have := i1 j o (by simpa using hj) (by rw [← hadd j]; exact ho)
          rw [hadd j]; exact this
      · intro j id e hj hE
        cases j with
        | zero => simp only [Nat.add_zero, if_true] at hE; exact hE0 id e hE
        | succ j =>
          simp only [if_neg (hne j)] at hE; rw [hadd j] at hE
          exact (freshL id (i4 j id e (by simpa using hj) hE)).1
      · intro j j' x id e hj hj' hjj hE hx
        cases j with
        | zero =>
          simp only [Nat.add_zero, if_true] at hE
          cases j' with
          | zero => exact absurd rfl hjj
          | succ j' =>
            simp only [if_neg (hne j')] at hx ⊢; rw [hadd j'] at hx ⊢
            exact (i10 _ (memE _ hE) j' (by simpa using hj')).1 x hx
        | succ j =>
          simp only [if_neg (hne j)] at hE; rw [hadd j] at hE
          cases j' with
          | zero =>
            simp only [Nat.add_zero, if_true] at hx ⊢
            exact (freshL id (i4 j id e (by simpa using hj) hE)).2.1 x (by rw [← hdk]; exact hx)
          | succ j' =>
            simp only [if_neg (hne j')] at hx ⊢; rw [hadd j'] at hx ⊢
            exact i5 j j' x id e (by simpa using hj) (by simpa using hj') (by omega) hE hx
      · intro j j' id e id' e' hj hj' hjj hE hE'
        cases j with
        | zero =>
          simp only [Nat.add_zero, if_true] at hE
          cases j' with
          | zero => exact absurd rfl hjj
          | succ j' =>
            simp only [if_neg (hne j')] at hE'; rw [hadd j'] at hE'
            exact (i10 _ (memE _ hE) j' (by simpa using hj')).2.1 id' e' hE'
        | succ j =>
          simp only [if_neg (hne j)] at hE; rw [hadd j] at hE
          cases j' with
          | zero =>
            simp only [Nat.add_zero, if_true] at hE'
            exact (freshL id (i4 j id e (by simpa using hj) hE)).2.2.1 id' e' hE'
          | succ j' =>
            simp only [if_neg (hne j')] at hE'; rw [hadd j'] at hE'
            exact i6 j j' id e id' e' (by simpa using hj) (by simpa using hj') (by omega) hE hE'
      · intro j j' id e x e' f hj hj' hE hF
        cases j with
        | zero =>
          simp only [Nat.add_zero, if_true] at hE
          cases j' with
          | zero =>
            simp only [Nat.add_zero, if_true] at hF
            have := (hF0 x e' f hF).1
            rw [hE] at this; cases this
          | succ j' =>
            simp only [if_neg (hne j')] at hF; rw [hadd j'] at hF
            have := (i10 _ (memE _ hE) j' (by simpa using hj')).2.2 x e' f hF
            rw [hadd j']; exact this
        | succ j =>
          simp only [if_neg (hne j)] at hE; rw [hadd j] at hE
          cases j' with
          | zero =>
            simp only [Nat.add_zero, if_true] at hF
            exact .inr ((freshL id (i4 j id e (by simpa using hj) hE)).2.2.2 x e' f hF)
          | succ j' =>
            simp only [if_neg (hne j')] at hF; rw [hadd j'] at hF
            rw [hadd j, hadd j']
            exact i7 j j' id e x e' f (by simpa using hj) (by simpa using hj') hE hF
      · intro j x e f hj hF
        cases j with
        | zero =>
          simp only [Nat.add_zero, if_true] at hF
          obtain ⟨g0, g1, g2, g3⟩ := hF0 x e f hF
          refine ⟨g1, g2, ?_⟩
          rcases g3 with ⟨g4, g5⟩ | ⟨b, g4, g5⟩
          · refine .inl ⟨g4, g5, fun j' id e' hj' hE => ?_⟩
            cases j' with
            | zero => simp only [Nat.add_zero, if_true] at hE; rw [g0] at hE; cases hE
            | succ j' =>
              simp only [if_neg (hne j')] at hE; rw [hadd j'] at hE
              exact fun e => ((freshL id (i4 j' id e' (by simpa using hj') hE)).2.2.2 _ _ _ hF).1 e.symm
          · exact .inr (.inl ⟨b, g4, fun o ho => by rw [Nat.add_zero, hk] at ho; cases ho; exact g5⟩)
        | succ j =>
          simp only [if_neg (hne j)] at hF; rw [hadd j] at hF
          obtain ⟨g1, g2, g3⟩ := i8 j x e f (by simpa using hj) hF
          refine ⟨g1, ?_, ?_⟩
          · cases F0 with
            | none => exact g2
            | some q =>
              obtain ⟨y, e0, f0⟩ := q
              simp only [consF] at g2
              rw [look_cons] at g2
              split at g2
              · cases g2
              · exact g2
          · rcases g3 with ⟨g4, g5, g6⟩ | ⟨b, g4, g5⟩ | ⟨j', g4, g5, g6⟩
            · refine .inl ⟨g4, fun q hq => g5 q (memB q hq), fun j' id e' hj' hE => ?_⟩
              cases j' with
              | zero => simp only [Nat.add_zero, if_true] at hE; exact g5 _ (memE _ hE)
              | succ j' =>
                simp only [if_neg (hne j')] at hE; rw [hadd j'] at hE
                exact g6 j' id e' (by simpa using hj') hE
            · cases hE : E0 with
              | none => rw [hE] at g4; exact .inr (.inl ⟨b, g4, fun o ho => g5 o (by rw [← hadd j]; exact ho)⟩)
              | some q =>
                rw [hE] at g4
                rcases List.mem_cons.1 g4 with h | h
                · obtain ⟨y, e1⟩ := q
                  simp only [Prod.mk.injEq] at h
                  obtain ⟨rfl, rfl, rfl⟩ := h
                  exact .inr (.inr ⟨0, by simp, by simp [hE], fun o ho => g5 o (by rw [← hadd j]; exact ho)⟩)
                · exact .inr (.inl ⟨b, h, fun o ho => g5 o (by rw [← hadd j]; exact ho)⟩)
            · refine .inr (.inr ⟨j' + 1, by simp; omega, ?_, fun o ho => ?_⟩)
              · simp only [if_neg (hne j')]; rw [hadd j']; exact g5
              · rw [hadd j']; exact g6 o (by rw [← hadd j]; exact ho)
      · have cross : ∀ j x e f e' f', j < rest.length → F0 = some (x, e, f) → F' (k + 1 + j) = some (x, e', f') → False := fun j x e f e' f' hj h1 h2 => by
          obtain ⟨_, g3, _⟩ := i8 j x e' f' hj h2
          rw [h1] at g3
          simp only [consF] at g3
          rw [look_cons, if_pos rfl] at g3; cases g3
        intro i j x e f e' f' hi hj h1 h2
        cases i with
        | zero =>
          simp only [Nat.add_zero, if_true] at h1
          cases j with
          | zero => rfl
          | succ j =>
            simp only [if_neg (hne j)] at h2; rw [hadd j] at h2
            exact (cross j x e f e' f' (by simpa using hj) h1 h2).elim
        | succ i =>
          simp only [if_neg (hne i)] at h1; rw [hadd i] at h1
          cases j with
          | zero =>
            simp only [Nat.add_zero, if_true] at h2
            exact (cross i x e' f' e f (by simpa using hi) h2 h1).elim
          | succ j =>
            simp only [if_neg (hne j)] at h2; rw [hadd j] at h2
            rw [i9 i j x e f e' f' (by simpa using hi) (by simpa using hj) h1 h2]
      · intro q hq j hj
        cases j with
        | zero =>
          simp only [Nat.add_zero, if_true]
          obtain ⟨g1, g2, g3⟩ := hbs q hq
          refine ⟨fun x hx => g1 x (by rw [← hdk]; exact hx), g2, fun x e f hF => ?_⟩
          rcases g3 x e f hF with h | h
          · exact .inl fun o ho => by rw [hk] at ho; cases ho; exact h
          · exact .inr h
        | succ j =>
          simp only [if_neg (hne j)]; rw [hadd j]
          exact i10 q (memB q hq) j (by simpa using hj)
    rcases h with ⟨V0, h1, h2, h3, h4⟩ | ⟨id0, V0, e0, hd, hg, hnj, hN, hf, hb, h4⟩ | ⟨x0, e0, f0, hs, g1, g2, g3, g4, h4⟩
    · exact key V0 none none (.inl ⟨rfl, rfl, h1⟩) h2 h4 (fun id e h => by cases h) (fun x e f h => by cases h) fun q hq => ⟨fun x _ => h3 q hq, fun id e h => (by cases h), fun x e f h => (by cases h)⟩
    · refine key V0 (some (id0, e0)) none (.inr (.inl ⟨id0, e0, rfl, rfl, hg, hnj⟩)) (by rw [hd]; exact hN) (by rw [hd]; exact h4) (fun id e h => by cases h; exact hf) (fun x e f h => by cases h) fun q hq => ⟨fun x _ => (hb q hq).2, fun id e h => ?_, fun x e f h => by cases h⟩
      cases h
      have := fresh_mem (fresh_app (fresh_app hf).2).1 (p := q.2) (List.mem_map.2 ⟨q, hq, rfl⟩)
      exact ⟨fun e => this.1 e.symm, (hb q hq).1⟩
    · have hd0 := hs.2.1
      exact key .junk none (some (x0, e0, f0)) (.inr (.inr ⟨x0, e0, f0, rfl, rfl, hs⟩)) (by rw [hd0]; rfl) (by rw [hd0]; exact h4) (fun id e h => by cases h) (fun x e f h => by cases h; exact ⟨rfl, g1, g2, g3⟩) fun q hq => ⟨fun x hx => (by rw [hd0] at hx; cases hx), fun id e h => (by cases h), fun x e f h => (by cases h; exact g4 q hq)⟩
theorem CT.wk {X : Cx} {all : Array Oper} {σ0 σ : Sg} {Q : T → Sg → Prop} : ∀ (rest : List Oper) (k : Nat) (t t' : T) (bs : Bs) (ss : Sg), Wk t' t → (∀ p, p ∈ t → p ∈ t') → CT X all σ0 σ Q rest k t' bs ss → CT X all σ0 σ Q rest k t bs ss
  | [], k, t, t', bs, ss, hw, _, ⟨t'', h1, h2⟩ => ⟨t'', h1.trans hw, h2⟩
  | o :: rest, k, t, t', bs, ss, hw, hm, h => by
    rcases h with ⟨V, h1, h2, h3, h4⟩ | ⟨id, V, e, hd, hg, hn, hN, hf, hb, h4⟩ | ⟨x, e, f, hs, g1, g2, g3, g4, h4⟩
    · refine .inl ⟨V, h1.wk hw, h2, h3, CT.wk rest _ _ _ bs ss hw.put (fun p hp => ?_) h4⟩
      cases ho : o.dst with
      | none => rw [ho] at hp; exact hm p hp
      | some d =>
        rw [ho] at hp
        rcases List.mem_cons.1 hp with h | h
        · exact List.mem_cons.2 (.inl h)
        · exact List.mem_cons.2 (.inr (hm p h))
    · refine .inr (.inl ⟨id, V, e, hd, hg, hn.wk hw, hN, isFresh_wkT hf hm, hb, CT.wk rest _ _ _ _ ss (fun i a hi => ?_) (fun p hp => ?_) h4⟩)
      · rw [look_cons] at hi ⊢
        split
        · next e => rw [if_pos e] at hi; exact hi
        · next e => rw [if_neg e] at hi; exact hw i a hi
      · rcases List.mem_cons.1 hp with h | h
        · exact List.mem_cons.2 (.inl h)
        · exact List.mem_cons.2 (.inr (hm p h))
    · exact .inr (.inr ⟨x, e, f, hs.wk hw, g1, g2, g3, g4, CT.wk rest _ _ _ bs _ hw hm h4⟩)
end Go.Gv
end
section
open Go Go.Gv
attribute [local irreducible] Go.Gv.WJ Go.Gv.OpJ Go.Gv.QJ Go.Gv.Spl Go.Gv.Req Go.Gv.IdxP Go.Gv.RegP Go.Gv.FinP Go.Gv.CellP Go.Gv.CellsP Go.Gv.ArrP Go.Gv.ArrsP Go.Gv.DropP Go.Gv.ByteP Go.Gv.StoreP
set_option maxRecDepth 100000
namespace Go.Proofs.E
def w64 (x : Int) : Int := IntKind.i64.wrap x
def tickL (c : List Int) (i : Int) : List Int := if 0 ≤ i ∧ i < 16 then (wideL c (i + 1)).set i.toNat (w64 ((wideL c (i + 1)).getD i.toNat 0 + 1)) else wideL c 0
def jn (w d : List Int) (k : Nat) : List Int := w.mapIdx fun i x => if i < k then mx x (clAt d i) else x
def joinL (c d : List Int) : List Int := jn (wideL c d.length) d (wideL c d.length).length
theorem jn_zero (w d : List Int) : jn w d 0 = w := by
  apply List.ext_getElem?
  intro i
  simp [jn]
theorem jn_len (w d : List Int) (k : Nat) : (jn w d k).length = w.length := by simp [jn]
theorem jn_get (w d : List Int) (k : Nat) (h : k < w.length) : (jn w d k)[k]? = some (w.getD k 0) := by
  simp [jn, List.getD_eq_getElem?_getD, h]
theorem jn_set (w d : List Int) (k : Nat) (h : k < w.length) : (jn w d k).set k (mx (w.getD k 0) (clAt d k)) = jn w d (k + 1) := by
  apply List.ext_getElem?
  intro i
  rw [List.getElem?_set]
  simp only [jn, List.length_mapIdx, List.getElem?_mapIdx]
  by_cases e : k = i
  · subst e
    simp [h, List.getD_eq_getElem?_getD]
  · rw [if_neg e]
    by_cases h1 : i < k
    · simp [h1, show i < k + 1 from by omega]
    · simp [h1, show ¬ i < k + 1 from by omega]
theorem joinL_len (c d : List Int) : (joinL c d).length = max c.length d.length := by rw [joinL, jn_len, wideL_len]; omega
theorem tickL_len (c : List Int) {i : Int} (h0 : 0 ≤ i) (h1 : i < 16) : (tickL c i).length = max c.length (i.toNat + 1) := by
  rw [tickL, if_pos ⟨h0, h1⟩, List.length_set, wideL_len]; omega
theorem getD_none {c : List Int} {i : Nat} (h : c.length ≤ i) : c.getD i 0 = 0 := by rw [List.getD_eq_getElem?_getD, List.getElem?_eq_none h]; rfl
theorem joinL_at (c d : List Int) (x : Int) : clAt (joinL c d) x = mx (clAt c x) (clAt d x) := by
  by_cases h0 : 0 ≤ x
  · rw [clAt, clAt, clAt, if_pos h0, if_pos h0, if_pos h0]
    generalize x.toNat = i
    by_cases h : i < (wideL c d.length).length
    · have : (joinL c d)[i]? = some (mx ((wideL c d.length).getD i 0) (clAt d i)) := by
        simp [joinL, jn, h, List.getD_eq_getElem?_getD]
      rw [List.getD_eq_getElem?_getD, this, Option.getD_some, wideL_getD, clAt_nat]
    · have h' := h
      rw [wideL_len] at h'
      rw [getD_none (by rw [joinL_len]; omega), getD_none (by omega), getD_none (by omega)]
      rfl
  · rw [clAt, clAt, clAt, if_neg h0, if_neg h0, if_neg h0]; rfl
theorem tickL_at {c : List Int} {i : Int} (h0 : 0 ≤ i) (h1 : i < 16) (x : Int) (hb : -1000000 ≤ clAt c i ∧ clAt c i ≤ 1000000) : clAt (tickL c i) x = clAt c x + (if x = i then 1 else 0) := by
  have hl := wideL_len c (i + 1)
  rw [tickL, if_pos ⟨h0, h1⟩, wideL_getD]
  by_cases hx : x = i
  · subst hx
    rw [if_pos rfl, clAt, if_pos h0, List.getD_eq_getElem?_getD, List.getElem?_set, if_pos rfl, if_pos (by omega), Option.getD_some, clAt, if_pos h0]
    rw [clAt, if_pos h0] at hb
    exact wrap_id _ (by omega) (by omega)
  · rw [if_neg hx, Int.add_zero]
    by_cases h2 : 0 ≤ x
    · rw [clAt, clAt, if_pos h2, if_pos h2, List.getD_eq_getElem?_getD, List.getElem?_set, if_neg (by omega), ← List.getD_eq_getElem?_getD, wideL_getD]
    · rw [clAt, clAt, if_neg h2, if_neg h2]
theorem set_di (W : List Int) (i : Nat) (v : Int) : (W.map di).set i (di v) = (W.set i v).map di := by rw [List.map_set]
theorem Tick13_c (c : List Int) (i : Int) (hc : c.length ≤ 1000000) (h0 : 0 ≤ i) (h1 : i < 16) : Cv 22 [clv c, iv i] (clv (tickL c i)) := by
  have hw : IntKind.i64.wrap (i + 1) = i + 1 := wrap_id _ (by omega) (by omega)
  have hwd := Wide13_c c (i + 1) hc (by omega)
  have hl := wideL_len c (i + 1)
  have e : tickL c i = (wideL c (i + 1)).set i.toNat (w64 ((wideL c (i + 1)).getD i.toNat 0 + 1)) := if_pos ⟨h0, h1⟩
  have hg : (wideL c (i + 1))[i.toNat]? = some ((wideL c (i + 1)).getD i.toNat 0) := by
    rw [List.getD_eq_getElem?_getD, List.getElem?_eq_getElem (by omega)]; rfl
  rw [e]
  rw [← hw] at hwd
  refine Ct.of_vc Try.f22 Try.func22 rfl rfl fun w H B g0 => ?_
  refine Spl.f (decide_eq_false (by omega)) ?_
  (repeat (first | refine Spl.t rfl ?_ | refine Spl.f rfl ?_))
  refine Spl.f (decide_eq_false (by omega)) ?_
  (repeat (first | refine Spl.t rfl ?_ | refine Spl.f rfl ?_))
  refine OpJ.call hwd (fun _ _ => rfl) rfl rfl (Wk.nil _) ?_
  rw [hw]
  generalize wideL c (i + 1) = W at hl hg ⊢
  rintro q σ' ⟨rfl, rfl⟩
  refine ⟨rfl, ?_⟩
  (repeat (first | refine Spl.t rfl ?_ | refine Spl.f rfl ?_))
  have hg2 : (W.map di)[i.toNat]? = some (di (W.getD i.toNat 0)) := get_di (by omega)
  refine Req.of ⟨h0, by omega⟩ ?_
  refine ArrP.of i.toNat 0 _ (.v (.int .i64 (W.getD i.toNat 0))) (by show i.toNat * 1 = _; omega) hg2 rfl ?_
  (repeat (first | refine Spl.t rfl ?_ | refine Spl.f rfl ?_))
  refine Req.of ⟨h0, by omega⟩ ?_
  refine StoreP.of i.toNat 0 _ (by show i.toNat * 1 = _; omega) hg2 (Nat.le_refl 1) rfl ?_
  (repeat (first | refine Spl.t rfl ?_ | refine Spl.f rfl ?_))
  refine FinP.pubA 7 rfl (by simp) (by omega) ?_
  refine FinP.open rfl ?_
  rw [List.take_of_length_le (by simp)]
  exact congrArg (fun x => AV.d (D.sl 1 x)) (set_di W i.toNat _)
theorem Join13_c (c d : List Int) (hc : c.length ≤ 1000000) (hd : d.length ≤ 1000000) : Cv 18 [clv c, clv d] (clv (joinL c d)) := by
  have hl := wideL_len c d.length
  have hld : ((d.map di).length : Int) = (d.length : Int) := by rw [List.length_map]
  have hwd := Wide13_c c ((d.map di).length : Nat) hc (by omega)
  have hw : wideL c ((d.map di).length : Nat) = wideL c d.length := by rw [hld]
  rw [hw] at hwd
  refine Ct.of_vc Try.f18 Try.func18 rfl rfl fun w H B g0 => ?_
  refine OpJ.call hwd (fun _ _ => rfl) rfl rfl (Wk.nil _) ?_
  have hj : joinL c d = jn (wideL c d.length) d (wideL c d.length).length := rfl
  rw [hj]
  generalize wideL c d.length = W at hl ⊢
  rintro q σ' ⟨rfl, rfl⟩
  refine ⟨rfl, ?_⟩
  refine WJ.loopK (V := Nat) (fun k => [(12, iv W.length), (13, iv k)]) (fun k => [(7, .arr 1 ((jn W d k).map di))]) [7] (fun k => W.length - k) (fun k => k ≤ W.length) 0 (Nat.zero_le _) (by repeat' (first | exact trivial | exact rfl | refine And.intro ?_ ?_)) ⟨by rw [jn_zero]; rfl, trivial⟩ ?_
  intro k hk
  refine Spl.of (fun h => ?_) (fun h => ?_)
  · have h := of_decide_eq_true h
    have hlt : k < W.length := by omega
    have hjl := jn_len W d k
    have hg := jn_get W d k hlt
    have hg2 : ((jn W d k).map di)[k]? = some (di (W.getD k 0)) := by rw [List.getElem?_map, hg]; rfl
    (repeat (first | refine Spl.t rfl ?_ | refine Spl.f rfl ?_))
    refine RegP.mix 10 rfl (by decide +kernel) ?_
    refine Req.of ⟨by omega, by omega⟩ ?_
    refine ArrP.of k 0 _ (.v (.int .i64 (W.getD k 0))) (by show (k : Int).toNat * 1 = _; omega) hg2 rfl ?_
    refine QuietP.of (QJ.call (At13_c d k) (fun _ _ => rfl) rfl rfl) ?_
    refine Req.of ⟨by omega, by omega⟩ ?_
    refine StoreP.of k 0 _ (by show (k : Int).toNat * 1 = _; omega) hg2 (Nat.le_refl 1) rfl ?_
    (repeat' (refine And.intro ?_ ?_))
    (repeat (first | refine Spl.t rfl ?_ | refine Spl.f rfl ?_))
    all_goals first | exact trivial | skip
    refine ⟨k + 1, by omega, by omega, ⟨rfl, some_iv (wrap_id _ (by omega) (by omega)), trivial⟩, (by repeat' (first | exact trivial | exact rfl | refine And.intro ?_ ?_)), ⟨?_, trivial⟩, (by repeat' (first | exact trivial | exact rfl | refine And.intro ?_ ?_))⟩
    show some (Ent.arr 1 (List.set _ _ (di _))) = _
    rw [set_di]
    exact congrArg (fun x => some (Ent.arr 1 (x.map di))) (jn_set W d k hlt)
  · have h := of_decide_eq_false h
    obtain rfl : k = W.length := by omega
    (repeat (first | refine Spl.t rfl ?_ | refine Spl.f rfl ?_))
    refine FinP.pubA 7 rfl (by rw [List.length_map, jn_len]; exact Nat.le_refl _) (by omega) ?_
    refine FinP.open rfl ?_
    rw [List.take_of_length_le (by rw [List.length_map, jn_len]; exact Nat.le_refl _)]
end Go.Proofs.E
end
section
open Go Go.Gv
attribute [local irreducible] Go.Gv.WJ Go.Gv.OpJ Go.Gv.QJ Go.Gv.Spl Go.Gv.Req Go.Gv.IdxP Go.Gv.RegP Go.Gv.FinP Go.Gv.CellP Go.Gv.CellsP Go.Gv.ArrP Go.Gv.ArrsP Go.Gv.DropP Go.Gv.ByteP Go.Gv.StoreP
set_option maxRecDepth 100000
namespace Go.Proofs.E
def mayA (a : AC) : Bool := decide (0 ≤ a.t) && decide (a.t < 16) && decide (0 ≤ a.k) && decide (a.k ≤ 3)
theorem mayA_iff (a : AC) : mayA a = true ↔ 0 ≤ a.t ∧ a.t < 16 ∧ 0 ≤ a.k ∧ a.k ≤ 3 := by
  unfold mayA
  rw [Bool.and_eq_true, Bool.and_eq_true, Bool.and_eq_true, decide_eq_true_iff, decide_eq_true_iff, decide_eq_true_iff, decide_eq_true_iff]
  exact ⟨fun ⟨⟨⟨h1, h2⟩, h3⟩, h4⟩ => ⟨h1, h2, h3, h4⟩, fun ⟨h1, h2, h3, h4⟩ => ⟨⟨⟨h1, h2⟩, h3⟩, h4⟩⟩
structure CS where
  th : List (List Int)
  sg : List (Int × List Int)
  cs : List (List Int)
def CS.c0 (s : CS) (a : AC) : List Int := s.th.getD a.t.toNat []
def CS.g (s : CS) (loc : Int) : List Int := (alook loc s.sg).getD []
def CS.c1 (s : CS) (a : AC) : List Int := if a.k = 2 then joinL (s.c0 a) (s.g a.loc) else s.c0 a
def CS.c (s : CS) (a : AC) : List Int := tickL (s.c1 a) a.t
def CS.step (s : CS) (a : AC) : CS := ⟨s.th.set a.t.toNat (s.c a), if a.k = 3 then aset a.loc (joinL (s.g a.loc) (s.c a)) s.sg else s.sg, s.cs ++ [s.c a]⟩
def runC (l : List AC) : CS := l.foldl CS.step ⟨List.replicate 16 [], [], []⟩
theorem runC_snoc (l : List AC) (a : AC) : runC (l ++ [a]) = (runC l).step a := by unfold runC; rw [List.foldl_append]; rfl
structure CInv (l : List AC) (s : CS) (th sg : Int → Int → Int) : Prop where
  inv : InvC l th sg (s.cs.map clAt)
  ht : ∀ t : Int, 0 ≤ t → t < 16 → ∀ x, clAt (s.th.getD t.toNat []) x = th t x
  hs : ∀ loc x, clAt (s.g loc) x = sg loc x
  nt : ∀ t x, 0 ≤ th t x
  ns : ∀ t x, 0 ≤ sg t x
  n16 : s.th.length = 16
  lt : ∀ i : Nat, (s.th.getD i []).length ≤ 16
  ls : ∀ loc, (s.g loc).length ≤ 16
theorem CInv.nil : CInv [] ⟨List.replicate 16 [], [], []⟩ (fun _ _ => 0) (fun _ _ => 0) := by
  have e : ∀ i : Nat, (List.replicate 16 ([] : List Int)).getD i [] = [] := fun i => by
    rw [List.getD_eq_getElem?_getD, List.getElem?_replicate]
    split <;> rfl
  have e2 : ∀ x, clAt [] x = 0 := fun x => by unfold clAt; split <;> rfl
  exact ⟨InvC.nil, fun t _ _ x => by rw [e]; exact e2 x, fun loc x => e2 x, fun _ _ => Int.le_refl _, fun _ _ => Int.le_refl _, rfl, fun i => by rw [e]; decide, fun loc => by show ([] : List Int).length ≤ 16; decide⟩
theorem cnt_len (l : List AC) (t : Int) : cntL l t ≤ l.length := by
  unfold cntL
  have := List.length_filter_le (fun a : AC => decide (a.t = t)) l
  omega
theorem mx_nn {a b : Int} (ha : 0 ≤ a) (hb : 0 ≤ b) : 0 ≤ mx a b := by unfold mx; split <;> omega
theorem CInv.c1 {l : List AC} {s : CS} {th sg : Int → Int → Int} (h : CInv l s th sg) {a : AC} (ha : mayA a = true) (x : Int) : clAt (s.c1 a) x = if a.k = 2 then mx (th a.t x) (sg a.loc x) else th a.t x := by
  obtain ⟨h1, h2, _, _⟩ := (mayA_iff a).1 ha
  unfold CS.c1
  split
  · rw [joinL_at, h.hs]
    unfold CS.c0
    rw [h.ht a.t h1 h2]
  · exact h.ht a.t h1 h2 x
theorem CInv.c1_len {l : List AC} {s : CS} {th sg : Int → Int → Int} (h : CInv l s th sg) (a : AC) : (s.c1 a).length ≤ 16 := by
  have h1 := h.lt a.t.toNat
  have h2 := h.ls a.loc
  unfold CS.c1
  split
  · rw [joinL_len]; unfold CS.c0; omega
  · exact h1
theorem CInv.c_len {l : List AC} {s : CS} {th sg : Int → Int → Int} (h : CInv l s th sg) {a : AC} (ha : mayA a = true) : (s.c a).length ≤ 16 := by
  obtain ⟨h1, h2, _, _⟩ := (mayA_iff a).1 ha
  have := h.c1_len a
  unfold CS.c
  rw [tickL_len _ h1 h2]; omega
theorem CInv.c {l : List AC} {s : CS} {th sg : Int → Int → Int} (h : CInv l s th sg) {a : AC} (ha : mayA a = true) (hl : l.length ≤ 1000) (x : Int) : clAt (s.c a) x = knowC th sg a x := by
  obtain ⟨h1, h2, _, _⟩ := (mayA_iff a).1 ha
  have hb : 0 ≤ clAt (s.c1 a) a.t ∧ clAt (s.c1 a) a.t ≤ 1000 := by
    have b1 := h.inv.bt a.t a.t
    have b2 := h.inv.bs a.loc a.t
    have b3 := cnt_len l a.t
    have b4 := h.nt a.t a.t
    have b5 := h.ns a.loc a.t
    rw [h.c1 ha]
    split
    · unfold mx; split <;> omega
    · omega
  unfold CS.c
  rw [tickL_at h1 h2 x (by omega), h.c1 ha]
  rfl
theorem CInv.snoc {l : List AC} {s : CS} {th sg : Int → Int → Int} (h : CInv l s th sg) {a : AC} (ha : mayA a = true) (hl : l.length ≤ 1000) : CInv (l ++ [a]) (s.step a) (thS th sg a) (sgS th sg a) := by
  obtain ⟨h1, h2, _, _⟩ := (mayA_iff a).1 ha
  have hc := h.c ha hl
  have hcl := h.c_len ha
  have hcf : clAt (s.c a) = knowC th sg a := funext hc
  have hg : ∀ loc, (s.step a).g loc = if a.k = 3 ∧ loc = a.loc then joinL (s.g a.loc) (s.c a) else s.g loc := fun loc => by
    unfold CS.g CS.step
    simp only
    by_cases h3 : a.k = 3
    · rw [if_pos h3, alook_aset]
      by_cases h4 : loc = a.loc
      · rw [if_pos h4, if_pos ⟨h3, h4⟩]; rfl
      · rw [if_neg h4, if_neg fun e => h4 e.2]
    · rw [if_neg h3, if_neg fun e => h3 e.1]
  have hth : ∀ i : Nat, (s.step a).th.getD i [] = if a.t.toNat = i then s.c a else s.th.getD i [] := fun i => by
    show (s.th.set a.t.toNat (s.c a)).getD i [] = _
    rw [List.getD_eq_getElem?_getD, List.getElem?_set]
    by_cases h3 : a.t.toNat = i
    · have := h.n16
      rw [if_pos h3, if_pos h3, if_pos (by omega)]; rfl
    · rw [if_neg h3, if_neg h3, List.getD_eq_getElem?_getD]
  have hk : ∀ x, 0 ≤ knowC th sg a x := fun x => by
    unfold knowC
    have b4 := h.nt a.t x
    have b5 := mx_nn b4 (h.ns a.loc x)
    split <;> split <;> omega
  refine ⟨?_, fun t t0 t1 x => ?_, fun loc x => ?_, fun t x => ?_, fun t x => ?_, ?_, fun i => ?_, fun loc => ?_⟩
  · show InvC _ _ _ ((s.cs ++ [s.c a]).map clAt)
    rw [List.map_append, List.map_singleton, hcf]
    exact h.inv.snoc a
  · rw [hth]
    unfold thS
    by_cases e : t = a.t
    · rw [if_pos (by rw [e]), if_pos e]; exact hc x
    · rw [if_neg (by omega), if_neg e]; exact h.ht t t0 t1 x
  · rw [hg]
    unfold sgS
    split
    · next q => rw [joinL_at, h.hs, hc, q.2]
    · exact h.hs loc x
  · unfold thS
    split
    · exact hk x
    · exact h.nt t x
  · unfold sgS
    split
    · exact mx_nn (h.ns _ _) (hk x)
    · exact h.ns t x
  · show (s.th.set _ _).length = 16
    rw [List.length_set]; exact h.n16
  · rw [hth]
    split
    · exact hcl
    · exact h.lt i
  · rw [hg]
    split
    · rw [joinL_len]
      have := h.ls a.loc
      omega
    · exact h.ls loc
theorem take_snocA {l : List AC} {i : Nat} {a : AC} (h : l[i]? = some a) : l.take (i + 1) = l.take i ++ [a] := by rw [List.take_add_one, h]; rfl
theorem cinvT {l : List AC} (hl : l.length ≤ 1000) : ∀ n : Nat, n ≤ l.length → (∀ a, a ∈ l.take n → mayA a = true) → ∃ th sg, CInv (l.take n) (runC (l.take n)) th sg
  | 0, _, _ => ⟨_, _, CInv.nil⟩
  | n + 1, hn, hm => by
    have hx : l[n]? = some l[n] := List.getElem?_eq_getElem (by omega)
    have e := take_snocA hx
    rw [e] at hm ⊢
    obtain ⟨th, sg, h⟩ := cinvT hl n (by omega) fun a ha => hm a (List.mem_append_left _ ha)
    rw [runC_snoc]
    exact ⟨_, _, h.snoc (hm _ (List.mem_append_right _ (List.mem_singleton.2 rfl))) (by rw [List.length_take]; omega)⟩
theorem cinv {l : List AC} (hl : l.length ≤ 1000) (hm : ∀ a, a ∈ l → mayA a = true) : ∃ th sg, CInv l (runC l) th sg := by
  have := cinvT hl l.length (Nat.le_refl _) (by rw [List.take_length]; exact hm)
  rw [List.take_length] at this
  exact this
theorem runC_len (l : List AC) : (runC l).cs.length = l.length := by
  have : ∀ (l : List AC) (s : CS), (l.foldl CS.step s).cs.length = s.cs.length + l.length := fun l => by
    induction l with
    | nil => intro s; rfl
    | cons a l ih =>
      intro s
      rw [List.foldl_cons, ih]
      show (s.cs ++ [_]).length + _ = _
      rw [List.length_append, List.length_cons, List.length_cons, List.length_nil]; omega
  rw [runC, this]; simp
/-! ### What is ahead, by the clocks -/
def AC0 : AC := ⟨0, 0, 0⟩
def aheadB (l : List AC) (i k : Nat) : Bool := decide (i < k) && decide (clAt ((runC l).cs.getD i []) (l.getD i AC0).t ≤ clAt ((runC l).cs.getD k []) (l.getD i AC0).t)
theorem aheadB_iff {l : List AC} (hl : l.length ≤ 1000) (hm : ∀ a, a ∈ l → mayA a = true) {i k : Nat} (hi : i < l.length) (hk : k < l.length) : aheadB l i k = true ↔ HB l i k := by
  obtain ⟨th, sg, h⟩ := cinv hl hm
  have n := runC_len l
  have e : ∀ j : Nat, j < l.length → ((runC l).cs.map clAt)[j]? = some (clAt ((runC l).cs.getD j [])) := fun j hj => by
    rw [List.getElem?_map, List.getElem?_eq_getElem (by omega), List.getD_eq_getElem?_getD, List.getElem?_eq_getElem (by omega)]; rfl
  have e2 : l[i]? = some (l.getD i AC0) := by rw [List.getD_eq_getElem?_getD, List.getElem?_eq_getElem hi]; rfl
  rw [h.inv.ahead e2 (e i hi) (e k hk), aheadB, Bool.and_eq_true, decide_eq_true_iff, decide_eq_true_iff]
end Go.Proofs.E
end
section
open Go Go.Gv
attribute [local irreducible] Go.Gv.WJ Go.Gv.OpJ Go.Gv.QJ Go.Gv.Spl Go.Gv.Req Go.Gv.IdxP Go.Gv.RegP Go.Gv.FinP Go.Gv.CellP Go.Gv.CellsP Go.Gv.ArrP Go.Gv.ArrsP Go.Gv.DropP Go.Gv.ByteP Go.Gv.StoreP
set_option maxRecDepth 100000
namespace Go.Proofs.E
def accA (a : AC) : Bool := decide (a.k = 0) || decide (a.k = 1)
def wrA (a : AC) : Bool := decide (a.k = 1)
def clashA (a b : AC) : Bool := accA a && accA b && decide (a.loc = b.loc) && (wrA a || wrA b)
def raceB (l : List AC) (i k : Nat) : Bool := clashA (l.getD i AC0) (l.getD k AC0) && !aheadB l i k
def firstI (l : List AC) (k : Nat) : Nat → Option Nat
  | 0 => none
  | m + 1 => match firstI l k m with
    | some i => some i
    | none => if raceB l m k = true then some m else none
def firstTo (l : List AC) : Nat → Option (Nat × Nat)
  | 0 => none
  | n + 1 => match firstTo l n with
    | some p => some p
    | none => match firstI l n n with
      | some i => some (i, n)
      | none => none
theorem firstI_none (l : List AC) (k : Nat) : ∀ m, firstI l k m = none ↔ ∀ i, i < m → raceB l i k = false
  | 0 => ⟨fun _ i h => absurd h (Nat.not_lt_zero i), fun _ => rfl⟩
  | m + 1 => by
    have ih := firstI_none l k m
    unfold firstI
    constructor
    · intro h i hi
      split at h
      · cases h
      · next h0 =>
        by_cases e : i = m
        · subst e
          split at h
          · cases h
          · next h1 => simpa using h1
        · exact ih.1 h0 i (by omega)
    · intro h
      rw [ih.2 fun i hi => h i (by omega)]
      simp only
      rw [h m (by omega)]; rfl
theorem firstI_some {l : List AC} {k j : Nat} (h : ∀ i, i < j → raceB l i k = false) (hj : raceB l j k = true) : ∀ m, j < m → firstI l k m = some j
  | m + 1, hm => by
    unfold firstI
    by_cases e : j < m
    · rw [firstI_some h hj m e]
    · have e : j = m := by omega
      subst e
      rw [(firstI_none l k j).2 h]
      simp only
      rw [if_pos hj]
theorem firstTo_none (l : List AC) : ∀ n, firstTo l n = none ↔ ∀ k, k < n → ∀ i, i < k → raceB l i k = false
  | 0 => ⟨fun _ i h => absurd h (Nat.not_lt_zero i), fun _ => rfl⟩
  | n + 1 => by
    have ih := firstTo_none l n
    unfold firstTo
    constructor
    · intro h k hk
      split at h
      · cases h
      · next h0 =>
        by_cases e : k = n
        · subst e
          split at h
          · cases h
          · next h1 => exact (firstI_none l k k).1 h1
        · exact ih.1 h0 k (by omega)
    · intro h
      rw [ih.2 fun i hi => h i (by omega)]
      simp only
      rw [(firstI_none l n n).2 (h n (by omega))]
theorem firstTo_some {l : List AC} {i k : Nat} (h : firstTo l k = none) (hi : firstI l k k = some i) : ∀ n, k < n → firstTo l n = some (i, k)
  | n + 1, hn => by
    unfold firstTo
    by_cases e : k < n
    · rw [firstTo_some h hi n e]
    · have e : k = n := by omega
      subst e
      rw [h]
      simp only
      rw [hi]
/-- No two acts race. -/
def RF (l : List AC) : Prop := ∀ (i k : Nat) (a b : AC), i < k → l[i]? = some a → l[k]? = some b → clashA a b = true → HB l i k
theorem getA {l : List AC} {i : Nat} (h : i < l.length) : l[i]? = some (l.getD i AC0) := by rw [List.getD_eq_getElem?_getD, List.getElem?_eq_getElem h]; rfl
theorem getA_of {l : List AC} {i : Nat} {a : AC} (h : l[i]? = some a) : l.getD i AC0 = a := by rw [List.getD_eq_getElem?_getD, h]; rfl
theorem rf_iff {l : List AC} (hl : l.length ≤ 1000) (hm : ∀ a, a ∈ l → mayA a = true) : firstTo l l.length = none ↔ RF l := by
  rw [firstTo_none]
  constructor
  · intro h i k a b hik ha hb hc
    have hk := get_lt hb
    have := h k hk i hik
    unfold raceB at this
    rw [getA_of ha, getA_of hb, hc, Bool.true_and] at this
    exact (aheadB_iff hl hm (get_lt ha) hk).1 (by simpa using this)
  · intro h k hk i hi
    unfold raceB
    by_cases hc : clashA (l.getD i AC0) (l.getD k AC0) = true
    · rw [(aheadB_iff hl hm (by omega) hk).2 (h i k _ _ hi (getA (by omega)) (getA hk) hc)]
      simp
    · rw [Bool.not_eq_true] at hc
      rw [hc]; rfl
def allMay (l : List AC) : Bool := l.all mayA
theorem allMay_iff (l : List AC) : allMay l = true ↔ ∀ a, a ∈ l → mayA a = true := List.all_eq_true
def firstV (l : List AC) : AV := if allMay l = true then (match firstTo l l.length with
  | none => .tup [iv (-1), iv (-1), iv 0]
  | some (i, k) => .tup [iv (i : Nat), iv (k : Nat), iv 13]) else .tup [iv (-1), iv (-1), iv 1]
def firstE (l : List AC) : Int := if allMay l = true then (match firstTo l l.length with
  | none => 0
  | some _ => 13) else 1
/-! ### The law of orders -/
def KN (l : List AC) (t : Int) (φ : AC → Bool) : Prop := ∀ (j : Nat) (a : AC), l[j]? = some a → φ a = true → ∃ (d : Nat) (b : AC), l[d]? = some b ∧ b.t = t ∧ (j = d ∨ HB l j d)
def KS (l : List AC) (loc : Int) (φ : AC → Bool) : Prop := ∀ (j : Nat) (a : AC), l[j]? = some a → φ a = true → ∃ (d : Nat) (b : AC), l[d]? = some b ∧ (b.k = 3 ∧ b.loc = loc) ∧ (j = d ∨ HB l j d)
theorem KN.none {l : List AC} {t : Int} {φ : AC → Bool} (h : ∀ a, a ∈ l → φ a = false) : KN l t φ := fun j a ha hφ => by rw [h a (List.mem_of_getElem? ha)] at hφ; cases hφ
theorem KS.none {l : List AC} {t : Int} {φ : AC → Bool} (h : ∀ a, a ∈ l → φ a = false) : KS l t φ := fun j a ha hφ => by rw [h a (List.mem_of_getElem? ha)] at hφ; cases hφ
theorem KN.snoc {l : List AC} {t : Int} {φ : AC → Bool} (h : KN l t φ) (a : AC) (h2 : φ a = true → a.t = t) : KN (l ++ [a]) t φ := fun j b hb hφ => by
  rcases snoc_cases hb with ⟨_, hb⟩ | ⟨rfl, rfl⟩
  · obtain ⟨d, c, h3, h4, h5⟩ := h j b hb hφ
    exact ⟨d, c, snoc_old h3, h4, h5.imp_right fun x => x.app _⟩
  · exact ⟨l.length, b, snoc_get l b, h2 hφ, .inl rfl⟩
theorem KS.snoc {l : List AC} {t : Int} {φ : AC → Bool} (h : KS l t φ) (a : AC) (h2 : φ a = false) : KS (l ++ [a]) t φ := fun j b hb hφ => by
  rcases snoc_cases hb with ⟨_, hb⟩ | ⟨rfl, rfl⟩
  · obtain ⟨d, c, h3, h4, h5⟩ := h j b hb hφ
    exact ⟨d, c, snoc_old h3, h4, h5.imp_right fun x => x.app _⟩
  · rw [h2] at hφ; cases hφ
theorem KN.last {l : List AC} {φ : AC → Bool} {a : AC} (h : KN l a.t φ) {j : Nat} {b : AC} (hb : l[j]? = some b) (hφ : φ b = true) : HB (l ++ [a]) j l.length := by
  obtain ⟨d, c, h3, h4, h5⟩ := h j b hb hφ
  exact HB.last.2 ⟨d, c, h3, .inl h4, h5⟩
theorem RF.nil : RF [] := fun i k a b _ h => by simp at h
theorem RF.snoc {l : List AC} (h : RF l) (a : AC) (hc : ∀ (i : Nat) (b : AC), l[i]? = some b → clashA b a = true → HB (l ++ [a]) i l.length) : RF (l ++ [a]) := fun i k b c hik hb hc' hcl => by
  rcases snoc_cases hc' with ⟨hk, h1⟩ | ⟨rfl, rfl⟩
  · rw [List.getElem?_append_left (by omega)] at hb
    exact (h i k b c hik hb h1 hcl).app _
  · rw [List.getElem?_append_left hik] at hb
    exact hc i b hb hcl
theorem RF.no {l : List AC} (h : RF l) {a : AC} (ha : accA a = false) : RF (l ++ [a]) := h.snoc a fun i b _ hc => by
  unfold clashA at hc
  rw [ha] at hc; simp at hc
theorem RF.acc {l : List AC} (h : RF l) {a : AC} {φ : AC → Bool} (hk : KN l a.t φ) (hφ : ∀ b, clashA b a = true → φ b = true) : RF (l ++ [a]) := h.snoc a fun i b hb hc => hk.last hb (hφ b hc)
end Go.Proofs.E
end
section
open Go Go.Gv
attribute [local irreducible] Go.Gv.WJ Go.Gv.OpJ Go.Gv.QJ Go.Gv.Spl Go.Gv.Req Go.Gv.IdxP Go.Gv.RegP Go.Gv.FinP Go.Gv.CellP Go.Gv.CellsP Go.Gv.ArrP Go.Gv.ArrsP Go.Gv.DropP Go.Gv.ByteP Go.Gv.StoreP
set_option maxRecDepth 100000
namespace Go.Proofs.E
abbrev acD (a : AC) : List D := [.v (.int .i64 a.t), .v (.int .i64 a.k), .v (.int .i64 a.loc)]
abbrev acv (a : AC) : AV := .agg [iv a.t, iv a.k, iv a.loc]
abbrev clD (c : List Int) : List D := [.sl 1 (c.map di)]
theorem get_acD {l : List AC} {i : Nat} (h : i < l.length) : (l.map acD)[i]? = some (acD (l.getD i AC0)) := by rw [List.getElem?_map, getA h]; rfl
theorem May14_c (a : AC) : Cv 21 [acv a] (bv (mayA a)) := by
  refine Ct.of_vc Try.f21 Try.func21 rfl rfl fun w H B g0 => ?_
  refine Spl.of (fun h1 => ?_) (fun h1 => ?_)
  · (repeat (first | refine Spl.t rfl ?_ | refine Spl.f rfl ?_))
    refine Spl.of (fun h2 => ?_) (fun h2 => ?_)
    · (repeat (first | refine Spl.t rfl ?_ | refine Spl.f rfl ?_))
      refine Spl.of (fun h3 => ?_) (fun h3 => ?_)
      · (repeat (first | refine Spl.t rfl ?_ | refine Spl.f rfl ?_))
        exact FinP.open rfl (congrArg bv (by unfold mayA; rw [h1, h2, h3]; rfl))
      · (repeat (first | refine Spl.t rfl ?_ | refine Spl.f rfl ?_))
        exact FinP.open rfl (congrArg bv (by unfold mayA; rw [h1, h2, h3]; rfl))
    · (repeat (first | refine Spl.t rfl ?_ | refine Spl.f rfl ?_))
      exact FinP.open rfl (congrArg bv (by unfold mayA; rw [h1, h2]; rfl))
  · (repeat (first | refine Spl.t rfl ?_ | refine Spl.f rfl ?_))
    exact FinP.open rfl (congrArg bv (by unfold mayA; rw [h1]; rfl))
theorem access_c (a : AC) : Cv 16 [acv a] (bv (accA a)) := by
  refine Ct.of_vc Try.f16 Try.func16 rfl rfl fun w H B g0 => ?_
  refine Spl.of (fun h1 => ?_) (fun h1 => ?_)
  · (repeat (first | refine Spl.t rfl ?_ | refine Spl.f rfl ?_))
    exact FinP.open rfl (congrArg bv (by unfold accA; rw [h1]; rfl))
  · (repeat (first | refine Spl.t rfl ?_ | refine Spl.f rfl ?_))
    exact FinP.open rfl (congrArg bv (by unfold accA; rw [h1]; rfl))
theorem all_take {l : List AC} {i : Nat} {a : AC} (h : l[i]? = some a) : allMay (l.take (i + 1)) = (allMay (l.take i) && mayA a) := by
  rw [take_snocA h]; unfold allMay; rw [List.all_append]; simp
theorem all_no {l : List AC} {i : Nat} {a : AC} (h : l[i]? = some a) (hm : mayA a = false) : allMay l = false := by
  unfold allMay
  rw [List.all_eq_false]
  exact ⟨a, List.mem_of_getElem? h, by rw [hm]; simp⟩
theorem RMay_c (l : List AC) (hl : l.length ≤ 1000000) : Cv 5 [.d (.sl 3 (l.map acD))] (bv (allMay l)) := by
  refine Ct.of_vc Try.f5 Try.func5 rfl rfl fun w H B g0 => ?_
  refine WJ.loopK (V := Nat) (fun i => [(3, iv i)]) (fun _ => []) [] (fun i => l.length - i) (fun i => i ≤ l.length ∧ allMay (l.take i) = true) 0 ⟨Nat.zero_le _, rfl⟩ (by repeat' (first | exact trivial | exact rfl | refine And.intro ?_ ?_)) (by repeat' (first | exact trivial | exact rfl | refine And.intro ?_ ?_)) ?_
  rintro i ⟨hi, hall⟩
  refine Spl.of (fun h1 => ?_) (fun h1 => ?_)
  · have hlt : i < l.length := by have := of_decide_eq_true h1; simp at this; omega
    have hx := get_acD hlt
    have hy := getA hlt
    have hat := all_take hy
    have hno := fun h => all_no hy h
    generalize l.getD i AC0 = a at hx hat hno
    have hok : ¬ a.t < 0 → ¬ a.t > 15 → ¬ a.k < 0 → ¬ a.k > 3 → mayA a = true := fun h1 h2 h3 h4 => (mayA_iff a).2 ⟨by omega, by omega, by omega, by omega⟩
    have hbad : (a.t < 0 ∨ a.t > 15 ∨ a.k < 0 ∨ a.k > 3) → mayA a = false := fun h => by
      cases e : mayA a with
      | false => rfl
      | true => have := (mayA_iff a).1 e; omega
    (repeat (first | refine Spl.t rfl ?_ | refine Spl.f rfl ?_))
    refine IdxP.of (acD a) (by omega) (by rw [Int.toNat_natCast]; exact hx) ?_
    refine Spl.of (fun h2 => ?_) (fun h2 => ?_)
    · (repeat (first | refine Spl.t rfl ?_ | refine Spl.f rfl ?_))
      exact FinP.open rfl (congrArg bv (hno (hbad (.inl (of_decide_eq_true h2)))).symm)
    (repeat (first | refine Spl.t rfl ?_ | refine Spl.f rfl ?_))
    refine IdxP.of (acD a) (by omega) (by rw [Int.toNat_natCast]; exact hx) ?_
    (repeat (first | refine Spl.t rfl ?_ | refine Spl.f rfl ?_))
    refine Spl.of (fun h3 => ?_) (fun h3 => ?_)
    · (repeat (first | refine Spl.t rfl ?_ | refine Spl.f rfl ?_))
      exact FinP.open rfl (congrArg bv (hno (hbad (.inr (.inl (of_decide_eq_true h3))))).symm)
    (repeat (first | refine Spl.t rfl ?_ | refine Spl.f rfl ?_))
    refine IdxP.of (acD a) (by omega) (by rw [Int.toNat_natCast]; exact hx) ?_
    (repeat (first | refine Spl.t rfl ?_ | refine Spl.f rfl ?_))
    refine Spl.of (fun h4 => ?_) (fun h4 => ?_)
    · (repeat (first | refine Spl.t rfl ?_ | refine Spl.f rfl ?_))
      exact FinP.open rfl (congrArg bv (hno (hbad (.inr (.inr (.inl (of_decide_eq_true h4)))))).symm)
    (repeat (first | refine Spl.t rfl ?_ | refine Spl.f rfl ?_))
    refine IdxP.of (acD a) (by omega) (by rw [Int.toNat_natCast]; exact hx) ?_
    (repeat (first | refine Spl.t rfl ?_ | refine Spl.f rfl ?_))
    refine Spl.of (fun h5 => ?_) (fun h5 => ?_)
    · (repeat (first | refine Spl.t rfl ?_ | refine Spl.f rfl ?_))
      exact FinP.open rfl (congrArg bv (hno (hbad (.inr (.inr (.inr (of_decide_eq_true h5)))))).symm)
    (repeat (first | refine Spl.t rfl ?_ | refine Spl.f rfl ?_))
    exact ⟨i + 1, ⟨by omega, by rw [hat, hall, hok (of_decide_eq_false h2) (of_decide_eq_false h3) (of_decide_eq_false h4) (of_decide_eq_false h5)]; rfl⟩, by omega, ⟨some_iv (wrap_id _ (by omega) (by omega)), trivial⟩, (by repeat' (first | exact trivial | exact rfl | refine And.intro ?_ ?_)), (by repeat' (first | exact trivial | exact rfl | refine And.intro ?_ ?_)), (by repeat' (first | exact trivial | exact rfl | refine And.intro ?_ ?_))⟩
  · have h1 := of_decide_eq_false h1
    simp at h1
    rw [List.take_of_length_le (by omega)] at hall
    (repeat (first | refine Spl.t rfl ?_ | refine Spl.f rfl ?_))
    exact FinP.open rfl (congrArg bv hall.symm)
theorem acRow_app (l : List AC) (a : AC) : l.map acD ++ [acD a] = (l ++ [a]).map acD := by simp
theorem OfA_c (l : List AC) (hl : l.length ≤ 1000000) : Cv 6 [.d (.sl 3 (l.map acD))] (.d (.sl 3 (l.map acD))) := by
  refine Ct.of_vc Try.f6 Try.func6 rfl rfl fun w H B g0 => ?_
  refine WJ.shift (SJ.nilArr 3 3 3 rfl rfl) ?_
  refine WJ.loopK (V := Nat) (fun i => [(8, iv i), (3, .arr 3 3 i)]) (fun i => [(3, .arr 3 ((l.take i).map acD))]) [3] (fun i => l.length - i) (fun i => i ≤ l.length) 0 (Nat.zero_le _) (by repeat' (first | exact trivial | exact rfl | refine And.intro ?_ ?_)) (by repeat' (first | exact trivial | exact rfl | refine And.intro ?_ ?_)) ?_
  intro i hi
  refine Spl.of (fun h1 => ?_) (fun h1 => ?_)
  · have hlt : i < l.length := by have := of_decide_eq_true h1; simp at this; omega
    have hx := get_acD hlt
    have hsn := take_snocA (getA hlt)
    generalize l.getD i AC0 = a at hx hsn
    have hrow := acRow_app (l.take i) a
    rw [← hsn] at hrow
    (repeat (first | refine Spl.t rfl ?_ | refine Spl.f rfl ?_))
    refine IdxP.of (acD a) (by omega) (by rw [Int.toNat_natCast]; exact hx) ?_
    refine Req.of ⟨by simp; omega, ?_⟩ ?_
    · show i + 1 ≤ 1000000000; omega
    exact ⟨i + 1, by omega, by omega, ⟨some_iv (wrap_id _ (by omega) (by omega)), rfl, trivial⟩, (by repeat' (first | exact trivial | exact rfl | refine And.intro ?_ ?_)), ⟨congrArg (fun x => some (Ent.arr 3 x)) hrow, trivial⟩, (by repeat' (first | exact trivial | exact rfl | refine And.intro ?_ ?_))⟩
  · have h1 := of_decide_eq_false h1
    simp at h1
    obtain rfl : i = l.length := by omega
    (repeat (first | refine Spl.t rfl ?_ | refine Spl.f rfl ?_))
    refine FinP.pubA 3 rfl ?_ ?_ ?_
    · rw [List.length_map, List.take_length]; exact Nat.le_refl _
    · omega
    refine FinP.open rfl ?_
    rw [List.take_length, List.take_of_length_le (by rw [List.length_map]; exact Nat.le_refl _)]
theorem ahead14_c (l : List AC) (cs : List (List Int)) (i k : Nat) (hi : i < l.length) (hl : l.length ≤ 1000000) (hk : k < l.length) (hn : cs.length = l.length) :
    Cv 15 [.d (.sl 3 (l.map acD)), .d (.sl 1 (cs.map clD)), iv i, iv k] (bv (decide (i < k) && decide (clAt (cs.getD i []) (l.getD i AC0).t ≤ clAt (cs.getD k []) (l.getD i AC0).t))) := by
  have hx := get_acD hi
  have hc : ∀ j, j < cs.length → (cs.map clD)[j]? = some (clD (cs.getD j [])) := fun j hj => by
    rw [List.getElem?_map, List.getElem?_eq_getElem hj, List.getD_eq_getElem?_getD, List.getElem?_eq_getElem hj]; rfl
  have hci := hc i (by omega)
  have hck := hc k (by omega)
  generalize cs.getD i [] = c at hci ⊢
  generalize cs.getD k [] = d at hck ⊢
  generalize l.getD i AC0 = a at hx ⊢
  have h1 := At13_c c a.t
  have h2 := At13_c d a.t
  have he : decide (i < k) = decide ((i : Int) < (k : Int)) := decide_eq_decide.2 (by omega)
  rw [he]
  refine Ct.of_vc Try.f15 Try.func15 rfl rfl fun w H B g0 => ?_
  refine IdxP.of (acD a) (by omega) (by rw [Int.toNat_natCast]; exact hx) ?_
  (repeat (first | refine Spl.t rfl ?_ | refine Spl.f rfl ?_))
  refine RegP.of rfl (by decide +kernel) ?_
  refine Spl.of (fun h => ?_) (fun h => ?_)
  · (repeat (first | refine Spl.t rfl ?_ | refine Spl.f rfl ?_))
    refine IdxP.of (clD c) (by omega) (by rw [Int.toNat_natCast]; exact hci) ?_
    (repeat (first | refine Spl.t rfl ?_ | refine Spl.f rfl ?_))
    refine QuietP.of (QJ.call h1 (fun _ _ => rfl) rfl rfl) ?_
    (repeat (first | refine Spl.t rfl ?_ | refine Spl.f rfl ?_))
    refine IdxP.of (clD d) (by omega) (by rw [Int.toNat_natCast]; exact hck) ?_
    (repeat (first | refine Spl.t rfl ?_ | refine Spl.f rfl ?_))
    refine QuietP.of (QJ.call h2 (fun _ _ => rfl) rfl rfl) ?_
    (repeat (first | refine Spl.t rfl ?_ | refine Spl.f rfl ?_))
    exact FinP.open rfl (congrArg bv (by rw [h]; rfl))
  · (repeat (first | refine Spl.t rfl ?_ | refine Spl.f rfl ?_))
    exact FinP.open rfl (congrArg bv (by rw [h]; rfl))
end Go.Proofs.E
end
section
open Go Go.Gv
attribute [local irreducible] Go.Gv.WJ Go.Gv.OpJ Go.Gv.QJ Go.Gv.Spl Go.Gv.Req Go.Gv.IdxP Go.Gv.RegP Go.Gv.FinP Go.Gv.CellP Go.Gv.CellsP Go.Gv.ArrP Go.Gv.ArrsP Go.Gv.DropP Go.Gv.ByteP Go.Gv.StoreP
set_option maxRecDepth 100000
namespace Go.Proofs.E
def leqL (c d : List Int) : Bool := (List.range c.length).all fun i => decide (c.getD i 0 ≤ clAt d i)
theorem Leq13_c (c d : List Int) (hc : c.length ≤ 1000000) : Cv 20 [clv c, clv d] (bv (leqL c d)) := by
  refine Ct.of_vc Try.f20 Try.func20 rfl rfl fun w H B g0 => ?_
  refine WJ.loopK (V := Nat) (fun k => [(8, iv k)]) (fun _ => []) [] (fun k => c.length - k) (fun k => k ≤ c.length ∧ ∀ j, j < k → c.getD j 0 ≤ clAt d j) 0 ⟨Nat.zero_le _, fun _ h => by omega⟩ (by repeat' (first | exact trivial | exact rfl | refine And.intro ?_ ?_)) (by repeat' (first | exact trivial | exact rfl | refine And.intro ?_ ?_)) ?_
  rintro k ⟨hk, hall⟩
  refine Spl.of (fun h => ?_) (fun h => ?_)
  · have hlt : k < c.length := by have := of_decide_eq_true h; simp at this; omega
    have hg := get_di hlt
    (repeat (first | refine Spl.t rfl ?_ | refine Spl.f rfl ?_))
    refine RegP.of rfl (by decide +kernel) ?_
    refine IdxP.of (di (c.getD k 0)) (by omega) (by rw [Int.toNat_natCast]; exact hg) ?_
    refine QuietP.of (QJ.call (At13_c d k) (fun _ _ => rfl) rfl rfl) ?_
    (repeat (first | refine Spl.t rfl ?_ | refine Spl.f rfl ?_))
    refine Spl.of (fun h1 => ?_) (fun h1 => ?_)
    · (repeat (first | refine Spl.t rfl ?_ | refine Spl.f rfl ?_))
      have h2 : clAt d k < c.getD k 0 := of_decide_eq_true h1
      refine FinP.open rfl (congrArg bv ?_)
      symm
      unfold leqL
      rw [List.all_eq_false]
      exact ⟨k, List.mem_range.2 hlt, by simp only [decide_eq_true_eq]; omega⟩
    · (repeat (first | refine Spl.t rfl ?_ | refine Spl.f rfl ?_))
      have h2 : ¬ clAt d k < c.getD k 0 := of_decide_eq_false h1
      refine ⟨k + 1, ⟨by omega, fun j hj => ?_⟩, by omega, ⟨some_iv (wrap_id _ (by omega) (by omega)), trivial⟩, (by repeat' (first | exact trivial | exact rfl | refine And.intro ?_ ?_)), (by repeat' (first | exact trivial | exact rfl | refine And.intro ?_ ?_)), (by repeat' (first | exact trivial | exact rfl | refine And.intro ?_ ?_))⟩
      by_cases e : j = k
      · subst e; omega
      · exact hall j (by omega)
  · have h := of_decide_eq_false h
    simp at h
    (repeat (first | refine Spl.t rfl ?_ | refine Spl.f rfl ?_))
    refine FinP.open rfl (congrArg bv ?_)
    symm
    unfold leqL
    rw [List.all_eq_true]
    exact fun j hj => decide_eq_true (hall j (by have := List.mem_range.1 hj; omega))
theorem Same13_c (c d : List Int) (hc : c.length ≤ 1000000) (hd : d.length ≤ 1000000) : Cv 19 [clv c, clv d] (bv (leqL c d && leqL d c)) := by
  have h1 := Leq13_c c d hc
  have h2 := Leq13_c d c hd
  refine Ct.of_vc Try.f19 Try.func19 rfl rfl fun w H B g0 => ?_
  refine OpJ.callV h1 (fun _ _ => rfl) rfl rfl rfl ?_
  (repeat (first | refine Spl.t rfl ?_ | refine Spl.f rfl ?_))
  refine Spl.of (fun h => ?_) (fun h => ?_)
  · (repeat (first | refine Spl.t rfl ?_ | refine Spl.f rfl ?_))
    refine OpJ.callV h2 (fun _ _ => rfl) rfl rfl rfl ?_
    (repeat (first | refine Spl.t rfl ?_ | refine Spl.f rfl ?_))
    exact FinP.open rfl (congrArg bv (by rw [h]; rfl))
  · (repeat (first | refine Spl.t rfl ?_ | refine Spl.f rfl ?_))
    exact FinP.open rfl (congrArg bv (by rw [h]; rfl))
theorem aw13_j : joinL [1, 0, 2] [0, 3] = [1, 3, 2] := by decide
theorem aw13_s : (leqL [1, 3, 2] [1, 3, 2] && leqL [1, 3, 2] [1, 3, 2]) = true := by decide
theorem aw13_l : leqL [1] [0, 9] = false := by decide
theorem Awake13_c : Cv 13 [] (bv true) := by
  have hj := Join13_c [1, 0, 2] [0, 3] (by decide) (by decide)
  rw [aw13_j] at hj
  have hs := Same13_c [1, 3, 2] [1, 3, 2] (by decide) (by decide)
  rw [aw13_s] at hs
  have hl := Leq13_c [1] [0, 9] (by decide)
  rw [aw13_l] at hl
  refine Ct.of_vc Try.f13 Try.func13 rfl rfl fun w H B g0 => ?_
  refine OpJ.shift (SJ.fullD 1 rfl) ?_
  refine OpJ.shift (SJ.fullD 2 rfl) ?_
  refine OpJ.callV hj (fun _ _ => rfl) rfl rfl rfl ?_
  (repeat (first | refine Spl.t rfl ?_ | refine Spl.f rfl ?_))
  refine OpJ.shift (SJ.fullD 4 rfl) ?_
  refine OpJ.callV hs (fun _ _ => rfl) rfl rfl rfl ?_
  (repeat (first | refine Spl.t rfl ?_ | refine Spl.f rfl ?_))
  refine OpJ.shift (SJ.fullD 7 rfl) ?_
  refine OpJ.shift (SJ.fullD 8 rfl) ?_
  refine OpJ.callV hl (fun _ _ => rfl) rfl rfl rfl ?_
  (repeat (first | refine Spl.t rfl ?_ | refine Spl.f rfl ?_))
  exact FinP.open rfl rfl
end Go.Proofs.E
end
section
namespace Go.Gv
open Go.RowKit
end Go.Gv
end
section
namespace Go.Gv
open Go.RowKit
end Go.Gv
end
section
namespace Go.Gv
open Go.RowKit
structure RW where
  b : Nat
  c : Nat
  xs : List (List D)
/-- The slice of a row. -/
abbrev RW.sl (r : RW) : Value := .slice (some ⟨r.b, 0, none⟩) r.xs.length r.c
/-- A row's cells lie at its place. -/
def RW.ok (k : Nat) (r : RW) (H : HF) (w : World) : Prop :=
  0 < r.c ∧ r.xs.length ≤ r.c ∧ (∀ cs, cs ∈ r.xs → cs.length = k) ∧ ∃ (t : TypeId) (us : List Value), w.heap[r.b]? = some (.cells us.toArray t (0, 0)) ∧ us.length = r.c * k ∧
    ∀ (j l : Nat) (cs : List D) (a : D) (u : Value), r.xs[j]? = some cs → cs[l]? = some a → us[j * k + l]? = some u → RepD H a u
def rowsOk (k : Nat) (s : List RW) (O : Nat → Prop) (H : HF) (w : World) : Prop :=
  (∀ b, O b ↔ ∃ r, r ∈ s ∧ r.b = b) ∧ s.Pairwise (fun r r' => r.b ≠ r'.b) ∧ ∀ r, r ∈ s → r.ok k H w
def rowsR (P : Program) (Λ : Amb) (k : Nat) : Res where
  S := List RW
  P := P
  Λ := Λ
  fv := undef
  ok := rowsOk k
  lt := fun h b hb => by
    obtain ⟨r, hj, rfl⟩ := (h.1 b).1 hb
    obtain ⟨_, _, _, t, us, h1, _⟩ := h.2.2 r hj
    exact lt_of_heap h1
  later := fun h hle _ hw => ⟨h.1, h.2.1, fun r hj => by
    obtain ⟨a1, a2, a3, t, us, h1, h2, h3⟩ := h.2.2 r hj
    exact ⟨a1, a2, a3, t, us, by rw [hw r.b ((h.1 _).2 ⟨r, hj, rfl⟩)]; exact h1, h2, fun j l cs a u x y z => (h3 j l cs a u x y z).mono hle⟩⟩
  pre := fun _ _ => False
  step := fun _ _ _ _ => False
  run := fun hp => hp.elim
theorem mem_rows0 {P : Program} {Λ : Amb} {k : Nat} {w : World} {H : HF} (hok : HOk H w) (γ : Ids) (i : Nat) : Mem w H (fun _ => False) (upd γ i ⟨w.heap.size, 0, fun _ => False⟩) H [(i, .res (rowsR P Λ k) [])] w := by
  have one : ∀ j f, look j ([(i, Ent.res (rowsR P Λ k) [])] : Sg) = some f → j = i ∧ f = .res (rowsR P Λ k) [] := fun j f hj => by
    rw [look_cons] at hj
    split at hj
    · next e' => exact ⟨e', by simpa using hj.symm⟩
    · simp [look] at hj
  refine ⟨Keeps.refl _ _, HLe.refl _, HNew.refl _ _ _, hok, fun j f hj => ?_, fun j f hj b hb => ?_, fun j f hj b hb => ?_, fun j f l f' b hj hl hb hb' => ?_⟩
  · obtain ⟨rfl, rfl⟩ := one j f hj
    show rowsOk k [] (upd γ j _ j).o H w
    rw [upd_same]
    exact ⟨fun b => ⟨fun h => h.elim, fun ⟨r, h, _⟩ => by simp at h⟩, List.Pairwise.nil, fun r h => by simp at h⟩
  · obtain ⟨rfl, rfl⟩ := one j f hj
    have : (upd γ j ⟨w.heap.size, 0, fun _ => False⟩ j).o b := hb
    rw [upd_same] at this; exact this.elim
  · obtain ⟨rfl, rfl⟩ := one j f hj
    have : (upd γ j ⟨w.heap.size, 0, fun _ => False⟩ j).o b := hb
    rw [upd_same] at this; exact this.elim
  · obtain ⟨rfl, rfl⟩ := one j f hj
    have : (upd γ j ⟨w.heap.size, 0, fun _ => False⟩ j).o b := hb
    rw [upd_same] at this; exact this.elim
section rows
variable {X : Cx} {ty : TypeId} {pos : String} {aft : Array Edge} {g : Option (Nat × Bool)} {t : T} {σ : Sg} {K : T → Sg → Prop}
/-- No rows yet. -/
theorem SJ.newRows (i k : Nat) (hf : isFresh i t σ X.pin = true) : SJ X t σ t ((i, .res (rowsR X.P X.Λ k) []) :: σ) := fun γ H a w s => by
  have key := s.new (d := none) (V := .junk) (v := undef) (n := 0) (mem_rows0 (P := X.P) (Λ := X.Λ) (k := k) s.mem.hok γ i) hf rfl (.junk _)
  exact ⟨_, H, key⟩
/-- A row is taken out, as a private row of its own. -/
theorem SJ.rowOut (i id x : Nat) {k : Nat} {l1 l2 : List RW} {r : RW} (hi : look i σ = some (.res (rowsR X.P X.Λ k) (l1 ++ r :: l2))) (hx : look x t = some (.d (.v r.sl))) (hf : isFresh id t σ X.pin = true) (hfi : isFresh i t (rest [(i, .gone)] σ) X.pin = true) :
    SJ X t σ ((x, .arr id k r.xs.length) :: t) ((id, .arr k r.xs) :: (i, .res (rowsR X.P X.Λ k) (l1 ++ l2)) :: rest [(i, .gone)] σ) := fun γ H a w s => by
  have hok : rowsOk k (l1 ++ r :: l2) (γ i).o H w := s.mem.ent i _ hi
  obtain ⟨ho, hp, hr⟩ := hok
  have hne : i ≠ id := (fresh_s hf hi).1
  have hmem : ∀ q, q ∈ l1 ++ l2 → q ∈ l1 ++ r :: l2 := fun q hq => by
    rcases List.mem_append.1 hq with h | h
    · exact List.mem_append_left _ h
    · exact List.mem_append_right _ (List.mem_cons_of_mem _ h)
  have hsep : ∀ q, q ∈ l1 ++ l2 → q.b ≠ r.b := fun q hq => by
    rw [List.pairwise_append] at hp
    obtain ⟨_, p2, p3⟩ := hp
    rw [List.pairwise_cons] at p2
    rcases List.mem_append.1 hq with h | h
    · exact p3 q h r (by simp)
    · exact fun e => p2.1 q h e.symm
  have hpw : (l1 ++ l2).Pairwise (fun r r' => r.b ≠ r'.b) := by
    rw [List.pairwise_append] at hp ⊢
    obtain ⟨p1, p2, p3⟩ := hp
    rw [List.pairwise_cons] at p2
    exact ⟨p1, p2.2, fun a ha b hb => p3 a ha b (by simp [hb])⟩
  have hrm : r ∈ l1 ++ r :: l2 := by simp
  obtain ⟨c1, c2, c3, tt, us, c4, c5, c6⟩ := hr r hrm
  generalize hO : (fun b => ∃ q, q ∈ l1 ++ l2 ∧ q.b = b) = O'
  generalize hg : upd (upd γ i ⟨(γ i).b, (γ i).n, O'⟩) id ⟨r.b, r.c, fun _ => False⟩ = γ'
  have gid : γ' id = ⟨r.b, r.c, fun _ => False⟩ := by rw [← hg, upd_same]
  have gi : γ' i = ⟨(γ i).b, (γ i).n, O'⟩ := by rw [← hg, upd_other _ _ hne, upd_same]
  have go : ∀ j, j ≠ i → j ≠ id → γ j = γ' j := fun j h1 h2 => by rw [← hg, upd_other _ _ h2, upd_other _ _ h1]
  have two : ∀ j f, look j ([(id, Ent.arr k r.xs), (i, .res (rowsR X.P X.Λ k) (l1 ++ l2))] : Sg) = some f → (j = id ∧ f = .arr k r.xs) ∨ (j = i ∧ f = .res (rowsR X.P X.Λ k) (l1 ++ l2)) := fun j f hj => by
    rw [look_cons] at hj
    split at hj
    · next e => exact .inl ⟨e, by simpa using hj.symm⟩
    · rw [look_cons] at hj
      split at hj
      · next e => exact .inr ⟨e, by simpa using hj.symm⟩
      · simp [look] at hj
  have hblk : ∀ j f, look j ([(id, Ent.arr k r.xs), (i, .res (rowsR X.P X.Λ k) (l1 ++ l2))] : Sg) = some f → ∀ b, blk γ' j f b → (j = id ∧ b = r.b) ∨ (j = i ∧ ∃ q, q ∈ l1 ++ l2 ∧ q.b = b) := fun j f hj b hb => by
    rcases two j f hj with ⟨rfl, rfl⟩ | ⟨rfl, rfl⟩
    · left
      have := hb.1
      rw [gid] at this
      exact ⟨rfl, this⟩
    · right
      have : (γ' j).o b := hb
      rw [gi] at this
      refine ⟨rfl, ?_⟩
      rw [← hO] at this
      exact this
  have hin : ∀ j f, look j ([(id, Ent.arr k r.xs), (i, .res (rowsR X.P X.Λ k) (l1 ++ l2))] : Sg) = some f → ∀ b, blk γ' j f b → (γ i).o b := fun j f hj b hb => by
    rcases hblk j f hj b hb with ⟨_, rfl⟩ | ⟨_, q, hq, rfl⟩
    · exact (ho _).2 ⟨r, hrm, rfl⟩
    · exact (ho _).2 ⟨q, hmem q hq, rfl⟩
  have hm : Mem w H (γ i).o γ' H [(id, .arr k r.xs), (i, .res (rowsR X.P X.Λ k) (l1 ++ l2))] w := by
    refine ⟨Keeps.refl _ _, HLe.refl _, HNew.refl _ _ _, s.mem.hok, fun j f hj => ?_, fun j f hj b hb => ?_, fun j f hj b hb => ?_, fun j f l f' b hj hl hb hb' => ?_⟩
    · rcases two j f hj with ⟨rfl, rfl⟩ | ⟨rfl, rfl⟩
      · show _ ∧ _ ∧ _
        rw [gid]
        exact ⟨c2, c3, fun _ => ⟨tt, us, c4, c5, c6⟩⟩
      · show rowsOk k (l1 ++ l2) (γ' j).o H w
        rw [gi]
        refine ⟨fun b => ?_, hpw, fun q hq => hr q (hmem q hq)⟩
        rw [← hO]
    · exact s.mem.free i _ hi b (hin j f hj b hb)
    · exact .inr (hin j f hj b hb)
    · rcases hblk j f hj b hb with ⟨e1, h1⟩ | ⟨e1, q1, h1, h2⟩ <;> rcases hblk l f' hl b hb' with ⟨e2, h3⟩ | ⟨e2, q2, h3, h4⟩
      · rw [e1, e2]
      · exact absurd (h4.trans h1) (hsep q2 h3)
      · exact absurd (h2.trans h3) (hsep q1 h1)
      · rw [e1, e2]
  have key := s.step (σ' := [(id, .arr k r.xs), (i, .res (rowsR X.P X.Λ k) (l1 ++ l2))]) (σr := rest [(i, .gone)] σ) (d := none) (V := .junk) (v := undef) hm (fun b hb => ⟨i, _, hi, by rw [look_rest, look_cons, if_pos rfl]; rfl, hb⟩) wk_rest (fun j e hj => ?_) (fun j e hj => ?_) (fun j hj => ?_) (fun j y hj l hl => ?_) rfl (.junk _)
  · refine ⟨γ', H, key.tmps fun l b hl => ?_⟩
    rw [look_cons] at hl
    split at hl
    · next e =>
      subst e
      cases hl
      obtain ⟨u, hu, hr1⟩ := s.tmp l _ hx
      obtain rfl := rep_v hr1
      refine ⟨_, hu, ?_⟩
      have := Rep.arr (γ := γ') (H := H) id k r.xs.length (some ⟨r.b, 0, none⟩)
      rw [gid] at this
      exact this c2 fun _ => rfl
    · exact key.tmp l b hl
  · have h1 := fresh_s hfi hj
    have h2 := fresh_s hf (wk_rest j e hj)
    rw [look_cons, if_neg h2.1, look_cons, if_neg h1.1]; rfl
  · have h1 := fresh_s hfi hj
    have h2 := fresh_s hf (wk_rest j e hj)
    refine ⟨go j h1.1 h2.1, fun l hl => go l (fun e => ?_) (fun e => ?_)⟩
    · subst e; rw [h1.2] at hl; cases hl
    · subst e; rw [h2.2] at hl; cases hl
  · exact go j (fresh_p hfi hj) (fresh_p hf hj)
  · refine go l (fun e => ?_) (fun e => ?_)
    · subst e; rw [fresh_t hfi hj] at hl; cases hl
    · subst e; rw [fresh_t hf hj] at hl; cases hl
/-- A private row is put among the rows. -/
theorem St.rowIn (i id x : Nat) {γ : Ids} {H : HF} {a : Act} {w : World} (s : St X γ H t σ a w) {k n : Nat} {xs : List (List D)} {l1 l2 : List RW} (hi : look i σ = some (.res (rowsR X.P X.Λ k) (l1 ++ l2))) (hid : look id σ = some (.arr k xs)) (hx : look x t = some (.arr id k n)) (hn : xs.length = n) (h0 : 0 < n)
    (hf : isFresh id [] (rest [(id, .gone)] σ) X.pin = true) (hfi : isFresh i (dropT id t) (rest [(i, .gone)] σ) X.pin = true) :
    ∃ γ' b c, St X γ' H ((x, .d (.v (RW.sl ⟨b, c, xs⟩))) :: dropT id t) ((i, .res (rowsR X.P X.Λ k) (l1 ++ ⟨b, c, xs⟩ :: l2)) :: rest [(i, .gone), (id, .gone)] σ) a w := by
  have hok : rowsOk k (l1 ++ l2) (γ i).o H w := s.mem.ent i _ hi
  obtain ⟨ho, hp, hr⟩ := hok
  obtain ⟨e1, e2, e3⟩ := s.mem.ent id _ hid
  obtain ⟨ux, hux, hrx⟩ := s.tmp x _ hx
  have hc0 : 0 < (γ id).n := by omega
  obtain ⟨tt, us, e4, e5, e6⟩ := e3 hc0
  have hne : i ≠ id := fun e => by
    subst e
    rw [hi] at hid; cases hid
  have hsep : ∀ q, q ∈ l1 ++ l2 → q.b ≠ (γ id).b := fun q hq e => hne (s.mem.apart i _ id _ q.b hi hid ((ho _).2 ⟨q, hq, rfl⟩) ⟨e, hc0⟩)
  generalize hB : (γ id).b = B at e4 hsep
  generalize hC : (γ id).n = C at e1 e5 hc0
  have hpw : (l1 ++ (⟨B, C, xs⟩ : RW) :: l2).Pairwise (fun r r' => r.b ≠ r'.b) := by
    rw [List.pairwise_append] at hp ⊢
    obtain ⟨p1, p2, p3⟩ := hp
    refine ⟨p1, List.pairwise_cons.2 ⟨fun q hq e => hsep q (List.mem_append_right _ hq) e.symm, p2⟩, fun a ha b hb => ?_⟩
    rcases List.mem_cons.1 hb with rfl | hb
    · exact hsep a (List.mem_append_left _ ha)
    · exact p3 a ha b hb
  have hmem : ∀ q, q ∈ l1 ++ (⟨B, C, xs⟩ : RW) :: l2 → q = ⟨B, C, xs⟩ ∨ q ∈ l1 ++ l2 := fun q hq => by
    rcases List.mem_append.1 hq with h | h
    · exact .inr (List.mem_append_left _ h)
    · rcases List.mem_cons.1 h with h | h
      · exact .inl h
      · exact .inr (List.mem_append_right _ h)
  generalize hO : (fun b => ∃ q, q ∈ l1 ++ (⟨B, C, xs⟩ : RW) :: l2 ∧ q.b = b) = O'
  generalize hg : upd γ i ⟨(γ i).b, (γ i).n, O'⟩ = γ'
  have gi : γ' i = ⟨(γ i).b, (γ i).n, O'⟩ := by rw [← hg, upd_same]
  have go : ∀ j, j ≠ i → γ j = γ' j := fun j h1 => by rw [← hg, upd_other _ _ h1]
  have one : ∀ j f, look j ([(i, Ent.res (rowsR X.P X.Λ k) (l1 ++ ⟨B, C, xs⟩ :: l2))] : Sg) = some f → j = i ∧ f = .res (rowsR X.P X.Λ k) (l1 ++ ⟨B, C, xs⟩ :: l2) := fun j f hj => by
    rw [look_cons] at hj
    split at hj
    · next e' => exact ⟨e', by simpa using hj.symm⟩
    · simp [look] at hj
  have hin : ∀ j f, look j ([(i, Ent.res (rowsR X.P X.Λ k) (l1 ++ ⟨B, C, xs⟩ :: l2))] : Sg) = some f → ∀ b, blk γ' j f b → b = B ∨ (γ i).o b := fun j f hj b hb => by
    obtain ⟨rfl, rfl⟩ := one j f hj
    have : (γ' j).o b := hb
    rw [gi, ← hO] at this
    obtain ⟨q, hq, rfl⟩ := this
    rcases hmem q hq with rfl | hq
    · exact .inl rfl
    · exact .inr ((ho _).2 ⟨q, hq, rfl⟩)
  have s1 := s.drop id
  have hi1 : look i (dropS id σ) = some (.res (rowsR X.P X.Λ k) (l1 ++ l2)) := by rw [dropS, look_map, hi]; rfl
  have hid1 : look id (dropS id σ) = some (.arr k xs) := by rw [dropS, look_map, hid]; rfl
  have hm : Mem w H (fun b => b = B ∨ (γ i).o b) γ' H [(i, .res (rowsR X.P X.Λ k) (l1 ++ ⟨B, C, xs⟩ :: l2))] w := by
    refine ⟨Keeps.refl _ _, HLe.refl _, HNew.refl _ _ _, s.mem.hok, fun j f hj => ?_, fun j f hj b hb => ?_, fun j f hj b hb => .inr (hin j f hj b hb), fun j f l f' b hj hl hb hb' => ?_⟩
    · obtain ⟨rfl, rfl⟩ := one j f hj
      show rowsOk k (l1 ++ ⟨B, C, xs⟩ :: l2) (γ' j).o H w
      rw [gi]
      refine ⟨fun b => by rw [← hO], hpw, fun q hq => ?_⟩
      rcases hmem q hq with rfl | hq
      · exact ⟨hc0, e1, e2, tt, us, e4, e5, e6⟩
      · exact hr q hq
    · rcases hin j f hj b hb with rfl | h
      · exact s.mem.free id _ hid _ ⟨hB.symm, by rw [hC]; exact hc0⟩
      · exact s.mem.free i _ hi b h
    · rw [(one j f hj).1, (one l f' hl).1]
  have lr : ∀ j e, look j (rest [(i, .gone), (id, .gone)] (dropS id σ)) = some e → j ≠ i ∧ j ≠ id ∧ ∃ e0, look j σ = some e0 ∧ e = dropE id e0 := fun j e hj => by
    rw [look_rest] at hj
    split at hj
    · cases hj
    · next h9 =>
      have h1 : j ≠ i := fun e => h9 (by rw [look_cons, if_pos e]; rfl)
      have h2 : j ≠ id := fun e => h9 (by rw [look_cons, if_neg h1, look_cons, if_pos e]; rfl)
      exact ⟨h1, h2, look_drop hj⟩
  have key := s1.step (σ' := [(i, .res (rowsR X.P X.Λ k) (l1 ++ ⟨B, C, xs⟩ :: l2))]) (σr := rest [(i, .gone), (id, .gone)] (dropS id σ)) (d := none) (V := .junk) (v := undef) hm (fun b hb => ?_) wk_rest (fun j e hj => ?_) (fun j e hj => ?_) (fun j hj => go j (fresh_p hfi hj)) (fun j y hj l hl => go l fun e => ?_) rfl (.junk _)
  · refine ⟨γ', B, C, (key.wk (t' := dropT id t) (σ' := (i, .res (rowsR X.P X.Λ k) (l1 ++ ⟨B, C, xs⟩ :: l2)) :: rest [(i, .gone), (id, .gone)] σ) (Wk.refl _) fun j e hj => ?_).tmps fun l b hl => ?_⟩
    · rw [look_cons] at hj
      rw [List.singleton_append, look_cons]
      split at hj
      · next e1 => rw [if_pos e1]; exact hj
      · next e1 =>
        rw [if_neg e1]
        rw [look_rest] at hj ⊢
        split at hj
        · cases hj
        · next h9 =>
          rw [if_neg h9, dropS, look_map, hj]
          have h2 : j ≠ id := fun e => h9 (by rw [look_cons]; split; rfl; rw [look_cons, if_pos e]; rfl)
          have h3 : look j (rest [(id, .gone)] σ) = some e := by
            rw [look_rest, look_cons, if_neg h2]; exact hj
          have h4 := (fresh_s hf h3).2
          show some (dropE id e) = some e
          congr 1
          have hcs : ∀ cs : List AV, cs.any (has2 id) = false → cs.map (Go.Gv.drop id) = cs := fun cs h => by
            have : ∀ a, a ∈ cs → Go.Gv.drop id a = a := fun a ha => by
              have := List.any_eq_false.1 h a ha
              unfold Go.Gv.drop
              split
              · next h5 => exact absurd h5 this
              · rfl
            exact (List.map_congr_left this).trans (List.map_id _)
          cases e with
          | cells cs => exact congrArg Ent.cells (hcs cs h4)
          | cellsT t cs => exact congrArg (Ent.cellsT t) (hcs cs h4)
          | _ => rfl
    · rw [look_cons] at hl
      split at hl
      · next e =>
        subst e
        cases hl
        refine ⟨ux, hux, ?_⟩
        cases hrx with
        | arr _ _ _ A hn2 hA =>
          rw [hA (by omega), hB, hC, ← hn]
          exact .d _ _ (.v _ rfl)
      · exact key.tmp l b hl
  · rcases hb with rfl | hb
    · exact ⟨id, _, hid1, by rw [look_rest, look_cons, look_cons]; simp [isSomeB, hne.symm], hB.symm, by rw [hC]; exact hc0⟩
    · exact ⟨i, _, hi1, by rw [look_rest, look_cons, if_pos rfl]; rfl, hb⟩
  · rw [look_cons, if_neg (lr j e hj).1]; rfl
  · obtain ⟨h1, h2, e0, h3, rfl⟩ := lr j e hj
    refine ⟨go j h1, fun l hl => go l fun e => ?_⟩
    subst e
    have h4 : look j (rest [(l, .gone)] σ) = some e0 := by
      rw [look_rest, look_cons, if_neg h1]; exact h3
    have h5 := (fresh_s hfi h4).2
    have h6 : entHas l (dropE id e0) = true → entHas l e0 = true := fun h => by
      have hcs : ∀ cs : List AV, (cs.map (Go.Gv.drop id)).any (has2 l) = true → cs.any (has2 l) = true := fun cs h => by
        rw [List.any_eq_true] at h ⊢
        obtain ⟨y, hy, hy2⟩ := h
        obtain ⟨z, hz, rfl⟩ := List.mem_map.1 hy
        refine ⟨z, hz, ?_⟩
        unfold Go.Gv.drop at hy2
        split at hy2
        · cases hy2
        · exact hy2
      cases e0 with
      | cells cs => exact hcs cs h
      | cellsT t cs => exact hcs cs h
      | _ => exact h
    rw [h6 hl] at h5; cases h5
  · subst e; rw [fresh_t hfi hj] at hl; cases hl
end rows
section ops
variable {X : Cx} {ty : TypeId} {pos : String} {aft : Array Edge} {g : Option (Nat × Bool)} {t : T} {σ : Sg} {K : T → Sg → Prop}
/-- append onto one of the rows. -/
theorem OpJ.rowApp (i id : Nat) {p d0 : Nat} {y : Operand} {st xt : TypeId} {k : Nat} {r : RW} {l1 l2 : List RW} {av : AV} {ys : List (List D)} (hx : look p t = some (.d (.v r.sl))) (hi : look i σ = some (.res (rowsR X.P X.Λ k) (l1 ++ r :: l2)))
    (hy : ge ((p, .arr id k r.xs.length) :: t) y = some av) (hel : elems av = some (k, ys)) (hI : elInfo X.P st xt = some k) (hb : r.xs.length + ys.length ≤ 1000000000) (h0 : 0 < r.xs.length + ys.length)
    (hf : isFresh id t σ X.pin = true) (hfi : isFresh i t (rest [(i, .gone)] σ) X.pin = true) (hN : dOk (some d0) X.N = true)
    (h1 : isFresh id [] (rest [(id, .gone)] ((id, .arr k (r.xs ++ ys)) :: dropS id ((id, .arr k r.xs) :: (i, .res (rowsR X.P X.Λ k) (l1 ++ l2)) :: rest [(i, .gone)] σ))) X.pin = true)
    (h2 : isFresh i (dropT id (putT (some d0) (.arr id k (r.xs.length + ys.length)) (dropT id ((p, .arr id k r.xs.length) :: t)))) (rest [(i, .gone)] ((id, .arr k (r.xs ++ ys)) :: dropS id ((id, .arr k r.xs) :: (i, .res (rowsR X.P X.Λ k) (l1 ++ l2)) :: rest [(i, .gone)] σ))) X.pin = true)
    (kk : ∀ b c, K ((d0, .d (.v (RW.sl ⟨b, c, r.xs ++ ys⟩))) :: dropT id (putT (some d0) (.arr id k (r.xs.length + ys.length)) (dropT id ((p, .arr id k r.xs.length) :: t))))
      ((i, .res (rowsR X.P X.Λ k) (l1 ++ ⟨b, c, r.xs ++ ys⟩ :: l2)) :: rest [(i, .gone), (id, .gone)] ((id, .arr k (r.xs ++ ys)) :: dropS id ((id, .arr k r.xs) :: (i, .res (rowsR X.P X.Λ k) (l1 ++ l2)) :: rest [(i, .gone)] σ)))) :
    OpJ X ⟨some d0, .call { callee := .builtin .append, args := #[.tmp p, y], argTypes := #[st, xt] }, ty, pos, aft, g⟩ t σ K := by
  intro γ H a w s next Q' hn
  have hne : i ≠ id := (fresh_s hf hi).1
  obtain ⟨γ1, H1, s1⟩ := SJ.rowOut i id p hi hx hf hfi γ H a w s
  refine O.appA (K := fun t' σ' => t' = _ ∧ σ' = _) (x := .tmp p) (i := id) (k := k) (n := r.xs.length) (xs := r.xs) hN (by show look p _ = _; rw [look_cons, if_pos rfl]) hy (by rw [look_cons, if_pos rfl]) hel hI (by simp only [isFresh, Bool.and_eq_true] at hf; exact hf.2) rfl hb ⟨rfl, rfl⟩ γ1 H1 a w s1 next Q' ?_
  rintro γ2 H2 t2 σ2 a2 w2 s2 ⟨rfl, rfl⟩
  obtain ⟨γ3, b, c, s3⟩ := s2.rowIn i id d0 (k := k) (n := r.xs.length + ys.length) (xs := r.xs ++ ys) (l1 := l1) (l2 := l2) (by
    rw [look_cons, if_neg hne, dropS, look_map, look_cons, if_neg hne, look_cons, if_pos rfl]; rfl) (by rw [look_cons, if_pos rfl]) (by show look d0 (_ :: _) = _; rw [look_cons, if_pos rfl]) (by rw [List.length_append]) h0 h1 h2
  exact hn γ3 H2 _ _ a2 w2 s3 (kk b c)
/-- append onto nil: a row more. -/
theorem OpJ.rowNew (i id : Nat) {p d0 : Nat} {y : Operand} {st xt : TypeId} {k : Nat} {l1 : List RW} {av : AV} {ys : List (List D)} (hx : look p t = some (.d (.v (.slice none 0 0)))) (hi : look i σ = some (.res (rowsR X.P X.Λ k) l1))
    (hy : ge ((p, .arr id k 0) :: t) y = some av) (hel : elems av = some (k, ys)) (hI : elInfo X.P st xt = some k) (hb : 0 + ys.length ≤ 1000000000) (h0 : 0 < 0 + ys.length)
    (hf : isFresh id t σ X.pin = true) (hN : dOk (some d0) X.N = true)
    (h1 : isFresh id [] (rest [(id, .gone)] ((id, .arr k ([] ++ ys)) :: dropS id ((id, .arr k []) :: σ))) X.pin = true)
    (h2 : isFresh i (dropT id (putT (some d0) (.arr id k (0 + ys.length)) (dropT id ((p, .arr id k 0) :: t)))) (rest [(i, .gone)] ((id, .arr k ([] ++ ys)) :: dropS id ((id, .arr k []) :: σ))) X.pin = true)
    (kk : ∀ b c, K ((d0, .d (.v (RW.sl ⟨b, c, [] ++ ys⟩))) :: dropT id (putT (some d0) (.arr id k (0 + ys.length)) (dropT id ((p, .arr id k 0) :: t))))
      ((i, .res (rowsR X.P X.Λ k) (l1 ++ [⟨b, c, [] ++ ys⟩])) :: rest [(i, .gone), (id, .gone)] ((id, .arr k ([] ++ ys)) :: dropS id ((id, .arr k []) :: σ)))) :
    OpJ X ⟨some d0, .call { callee := .builtin .append, args := #[.tmp p, y], argTypes := #[st, xt] }, ty, pos, aft, g⟩ t σ K := by
  intro γ H a w s next Q' hn
  have hne : i ≠ id := (fresh_s hf hi).1
  obtain ⟨γ1, H1, s1⟩ := SJ.nilArr id p k hx hf γ H a w s
  refine O.appA (K := fun t' σ' => t' = _ ∧ σ' = _) (x := .tmp p) (i := id) (k := k) (n := 0) (xs := []) hN (by show look p _ = _; rw [look_cons, if_pos rfl]) hy (by rw [look_cons, if_pos rfl]) hel hI (by simp only [isFresh, Bool.and_eq_true] at hf; exact hf.2) rfl hb ⟨rfl, rfl⟩ γ1 H1 a w s1 next Q' ?_
  rintro γ2 H2 t2 σ2 a2 w2 s2 ⟨rfl, rfl⟩
  obtain ⟨γ3, b, c, s3⟩ := s2.rowIn i id d0 (k := k) (n := 0 + ys.length) (xs := [] ++ ys) (l1 := l1) (l2 := []) (by
    rw [List.append_nil, look_cons, if_neg hne, dropS, look_map, look_cons, if_neg hne, hi]; rfl) (by rw [look_cons, if_pos rfl]) (by show look d0 (_ :: _) = _; rw [look_cons, if_pos rfl]) (by rw [List.length_append]; rfl) h0 h1 h2
  exact hn γ3 H2 _ _ a2 w2 s3 (kk b c)
variable {d : Option Nat}
/-- An element's place, of a slice whose place is told. -/
theorem O.idxV {s e : TypeId} {x y : Operand} {k b n c : Nat} {kk : IntKind} {m : Int} (hx : ge t x = some (.d (.v (.slice (some ⟨b, 0, none⟩) n c)))) (hy : ge t y = some (.d (.v (.int kk m)))) (hu : und X.P s = some (.slice e)) (hz : szOf X.P e = some k) (hm : 0 ≤ m) (hc : m < (n : Int)) :
    QJ X ⟨d, .indexAddr s x y, ty, pos, aft, g⟩ t σ (.d (.v (.pointer (some ⟨b, m.toNat * k, none⟩)))) :=
  QJ.value (by simp) (fun γ H a w so sm => by
    have h1 := rep_v (so _ (by simp [Op.operands, Call.operands]) _ hx)
    have h2 := rep_v (so _ (by simp [Op.operands, Call.operands]) _ hy)
    have hb : 0 ≤ m ∧ m < (n : Int) := ⟨hm, hc⟩
    rw [und_eq] at hu
    have hz' := fun w => szOf_run (w := w) hz
    refine ⟨.pointer (some ⟨b, m.toNat * k, none⟩), ?_, .d _ _ (.v _ rfl)⟩
    simp [execOp, h1, h2, Instr.indexAt, asIntOf, underlying, hu, hz', hb, add_lit])
/-- A row's element is read. -/
theorem O.loadV {x : Operand} {e : TypeId} {b off i : Nat} {rs : List RW} {r : RW} {v : D} (hx : ge t x = some (.d (.v (.pointer (some ⟨b, off, none⟩))))) (hi : look i σ = some (.res (rowsR X.P X.Λ 1) rs)) (hr : r ∈ rs) (hb : r.b = b) (hv : r.xs[off]? = some [v]) (ha : aggOf X.P e = some false) :
    QJ X ⟨d, .load e x, ty, pos, aft, g⟩ t σ (.d v) :=
  QJ.value (by simp) (fun γ H a w so sm => by
    have h1 := rep_v (so _ (by simp [Op.operands, Call.operands]) _ hx)
    have hok : rowsOk 1 rs (γ i).o H w := sm.ent i _ hi
    obtain ⟨_, c2, _, tt, us, h2, h3, h4⟩ := hok.2.2 r hr
    rw [Nat.mul_one] at h3
    have hlt : off < us.length := by have := (List.getElem?_eq_some_iff.1 hv).1; omega
    refine ⟨us[off], ?_, .d _ _ (h4 off 0 _ v _ hv rfl (by simp [hlt]))⟩
    have hc : w.cell? ⟨b, off, none⟩ = some us[off] := by rw [← hb, cell_of_block h2]; simp [hlt]
    simp [execOp, Instr.loadAt, Instr.sureAddr, h1, loadVar_one (aggOf_run ha) hc])
end ops
section more
variable {X : Cx} {ty : TypeId} {pos : String} {aft : Array Edge} {g : Option (Nat × Bool)} {t : T} {σ : Sg} {K : T → Sg → Prop}
/-- A row's element is written. -/
theorem O.storeV {x y : Operand} {e : TypeId} {b off i j : Nat} {rs : List RW} {r : RW} {v : Value} (hx : ge t x = some (.d (.v (.pointer (some ⟨b, off, none⟩))))) (hy : ge t y = some (.d (.v v))) (hi : look i σ = some (.res (rowsR X.P X.Λ 1) rs)) (hj : rs[j]? = some r) (hb : r.b = b) (ho : off < r.xs.length)
    (hv1 : v.oneCell' = true) (hz : szOf X.P e = some 1) (kk : K t ((i, .res (rowsR X.P X.Λ 1) (rs.set j ⟨r.b, r.c, r.xs.set off [.v v]⟩)) :: rest [(i, .gone)] σ)) :
    OpJ X ⟨none, .store e x y, ty, pos, aft, g⟩ t σ K := by
  intro γ H a w s next Q' hk
  have hq := rep_v (ge_sound s.tmp hx)
  have hy' := rep_v (ge_sound s.tmp hy)
  have hok : rowsOk 1 rs (γ i).o H w := s.mem.ent i _ hi
  obtain ⟨hO, hp, hr⟩ := hok
  have hrm : r ∈ rs := List.mem_of_getElem? hj
  obtain ⟨c1, c2, c3, tt, us, h2, h3, h4⟩ := hr r hrm
  rw [Nat.mul_one] at h3
  have hlt : off < us.length := by omega
  obtain ⟨w', hw1, hw2, hw3⟩ := store_run (P := X.P) [v] w us off 0 h2 (by simp; omega) (fun u hu => by rw [List.mem_singleton.1 hu]; exact hv1)
  have hvc : v.cells = #[v] := by cases v <;> first | rfl | (simp [Value.oneCell'] at hv1)
  have hrun : (execOp a.eval ⟨none, .store e x y, ty, pos, aft, g⟩).run X.P w = .ok .skip w' := by
    have hsz := fun w => szOf_run (w := w) hz
    rw [hb] at hw1
    simp only [execOp, Instr.storeAt, Instr.sureAddr, hq, hy', storeVar, hvc, Sem.run_bind, Sem.run_pure, Result.andThen_ok, hsz]
    simp [hw1]
  rw [semAt_of (by simp), hrun, Oper.uponIn_skip]
  simp only [Nat.add_zero, setL] at hw2
  have hjl : j < rs.length := (List.getElem?_eq_some_iff.1 hj).1
  have hset : ∀ q, q ∈ rs.set j ⟨r.b, r.c, r.xs.set off [.v v]⟩ → (q = ⟨r.b, r.c, r.xs.set off [.v v]⟩) ∨ (q ∈ rs ∧ q.b ≠ r.b) := fun q hq => by
    obtain ⟨l, hl, rfl⟩ := List.getElem_of_mem hq
    rw [List.length_set] at hl
    by_cases e1 : j = l
    · subst e1; left; simp
    · right
      rw [List.getElem_set_ne e1]
      refine ⟨List.getElem_mem hl, fun e2 => ?_⟩
      have hjr : rs[j] = r := (List.getElem?_eq_some_iff.1 hj).2
      rcases Nat.lt_or_ge j l with h | h
      · exact List.pairwise_iff_getElem.1 hp j l hjl hl h (by rw [hjr]; exact e2.symm)
      · exact List.pairwise_iff_getElem.1 hp l j hl hjl (by omega) (by rw [hjr]; exact e2)
  have hbs : (rs.set j ⟨r.b, r.c, r.xs.set off [.v v]⟩).map (fun q => q.b) = rs.map fun q => q.b := by
    have hjr : rs[j] = r := (List.getElem?_eq_some_iff.1 hj).2
    rw [List.map_set]
    apply List.ext_getElem?
    intro l
    rw [List.getElem?_set]
    split
    · next e1 =>
      subst e1
      rw [if_pos (by simpa using hjl), List.getElem?_map, hj]; rfl
    · rfl
  have hok' : rowsOk 1 (rs.set j ⟨r.b, r.c, r.xs.set off [.v v]⟩) (γ i).o H w' := by
    refine ⟨fun c => ?_, ?_, fun q hq => ?_⟩
    · have e1 : (∃ q, q ∈ rs.set j ⟨r.b, r.c, r.xs.set off [.v v]⟩ ∧ q.b = c) ↔ c ∈ (rs.set j ⟨r.b, r.c, r.xs.set off [.v v]⟩).map (fun q => q.b) := List.mem_map.symm
      have e2 : (∃ q, q ∈ rs ∧ q.b = c) ↔ c ∈ rs.map (fun q => q.b) := List.mem_map.symm
      rw [hO c, e1, e2, hbs]
    · have e1 : (rs.map fun q => q.b).Pairwise (· ≠ ·) := List.pairwise_map.2 hp
      rw [← hbs] at e1
      exact List.pairwise_map.1 e1
    · rcases hset q hq with rfl | ⟨hq, hne⟩
      · refine ⟨c1, by simp; exact c2, fun cs hcs => ?_, tt, _, hw2, by simp; omega, fun l m cs d u h5 h6 h7 => ?_⟩
        · rcases List.mem_or_eq_of_mem_set hcs with h | h
          · exact c3 cs h
          · rw [h]; rfl
        · simp only [Nat.mul_one] at h7
          simp only at h5
          rw [List.getElem?_set] at h5
          split at h5
          · next e1 =>
            subst e1
            first | (rw [if_pos ho] at h5; cases h5) | cases h5
            cases m with
            | zero =>
              simp at h6; subst h6
              rw [Nat.add_zero, List.getElem?_set_self hlt] at h7
              cases h7
              exact .v v hv1
            | succ m => simp at h6
          · next e1 =>
            have hm0 : m = 0 := by
              have h8 := c3 cs (List.mem_of_getElem? h5)
              have h9 := (List.getElem?_eq_some_iff.1 h6).1
              omega
            subst hm0
            rw [Nat.add_zero, List.getElem?_set_ne e1] at h7
            exact h4 l 0 cs d u h5 h6 (by rw [Nat.mul_one, Nat.add_zero]; exact h7)
      · obtain ⟨a1, a2, a3, t5, us5, a4, a5, a6⟩ := hr q hq
        exact ⟨a1, a2, a3, t5, us5, by rw [hw3.block q.b hne]; exact a4, a5, a6⟩
  have one : ∀ l f, look l ([(i, Ent.res (rowsR X.P X.Λ 1) (rs.set j ⟨r.b, r.c, r.xs.set off [.v v]⟩))] : Sg) = some f → l = i ∧ f = .res (rowsR X.P X.Λ 1) (rs.set j ⟨r.b, r.c, r.xs.set off [.v v]⟩) := fun l f hl => by
    rw [look_cons] at hl
    split at hl
    · next e' => exact ⟨e', by simpa using hl.symm⟩
    · simp [look] at hl
  have hOb : (γ i).o r.b := (hO _).2 ⟨r, hrm, rfl⟩
  have hfree := s.mem.free i _ hi r.b hOb
  have hm : Mem w H (γ i).o γ H [(i, .res (rowsR X.P X.Λ 1) (rs.set j ⟨r.b, r.c, r.xs.set off [.v v]⟩))] w' := by
    refine ⟨⟨hw3.os, hw3.tape, hw3.output, Nat.le_of_eq hw3.size.symm, fun k _ hk => hw3.block k fun e => hk (by rw [e]; exact hOb)⟩, HLe.refl _, HNew.refl _ _ _, ⟨fun c o v hv => ?_, fun c es cl hv => ?_⟩, fun l f hl => ?_, fun l f hl c hc => ?_, fun l f hl c hc => ?_, fun l f l' f' c hl hl' _ _ => ?_⟩
    · have hne : c ≠ r.b := fun e => by rw [e, hfree.c] at hv; cases hv
      have := s.mem.hok.c c o v hv
      simp only [World.cell?] at this ⊢
      rw [hw3.block c hne]; exact this
    · have hne : c ≠ r.b := fun e => by rw [e, hfree.m] at hv; cases hv
      rw [hw3.block c hne]; exact s.mem.hok.m c es cl hv
    · obtain ⟨rfl, rfl⟩ := one l f hl
      exact hok'
    · obtain ⟨rfl, rfl⟩ := one l f hl
      exact s.mem.free l _ hi c hc
    · obtain ⟨rfl, rfl⟩ := one l f hl
      exact .inr hc
    · rw [(one l f hl).1, (one l' f' hl').1]
  have key := s.step (σr := rest [(i, .gone)] σ) (d := none) (V := .junk) (v := undef) hm (fun c hc => ⟨i, _, hi, by rw [look_rest, look_cons, if_pos rfl]; rfl, hc⟩) wk_rest (fun l f hl => ?_) (fun _ _ _ => ⟨rfl, fun _ _ => rfl⟩) (fun _ _ => rfl) (fun _ _ _ _ _ => rfl) rfl (.junk _)
  · exact hk γ H _ _ _ w' key kk
  · rw [look_rest] at hl
    split at hl
    · cases hl
    · next h9 =>
      have h1 : l ≠ i := fun e => h9 (by rw [look_cons, if_pos e]; rfl)
      rw [look_cons, if_neg h1]; rfl
open Classical in
/-- The rows, and the row that names them, are given to all. -/
theorem SJ.pubRows (i id : Nat) {k : Nat} {rs : List RW} (hi : look i σ = some (.res (rowsR X.P X.Λ k) rs)) (hid : look id σ = some (.arr 1 (rs.map fun r => [D.v r.sl]))) (hmax : ∀ r, r ∈ rs → r.xs.length ≤ 9223372036854775807) :
    SJ X t σ t ((id, .arr 1 (rs.map fun r => [D.sl k r.xs])) :: rest [(i, .gone), (id, .gone)] σ) := fun γ H a w s => by
  have hok : rowsOk k rs (γ i).o H w := s.mem.ent i _ hi
  obtain ⟨hO, hp, hr⟩ := hok
  obtain ⟨e1, e2, e3⟩ := s.mem.ent id _ hid
  have hne : i ≠ id := fun e => by
    subst e
    rw [hi] at hid; cases hid
  obtain ⟨H', hH'⟩ : ∃ H' : HF, H' = ⟨fun c o => if (γ i).o c then w.cell? ⟨c, o, none⟩ else H.c c o, H.m⟩ := ⟨_, rfl⟩
  have hfree := fun b hb => s.mem.free i _ hi b hb
  have a1 : HLe H H' := by
    rw [hH']
    refine ⟨fun c o v hv => ?_, fun c x hx => hx⟩
    by_cases h : (γ i).o c
    · rw [(hfree c h).c] at hv; cases hv
    · show (if (γ i).o c then _ else H.c c o) = some v
      rw [if_neg h]; exact hv
  have a2 : HNew w.heap.size (fun b => (γ i).o b ∨ (b = (γ id).b ∧ 0 < (γ id).n)) H H' := by
    rw [hH']
    refine ⟨fun c o v hv => ?_, fun c x hx => .inl hx⟩
    by_cases h : (γ i).o c
    · exact .inr (.inr (.inl h))
    · simp only [if_neg h] at hv; exact .inl hv
  have a3 : HOk H' w := by
    rw [hH']
    refine ⟨fun c o v hv => ?_, fun c es cl hx => s.mem.hok.m c es cl hx⟩
    by_cases h : (γ i).o c
    · simp only [if_pos h] at hv; exact hv
    · simp only [if_neg h] at hv; exact s.mem.hok.c c o v hv
  have rep : ∀ r, r ∈ rs → RepD H' (.sl k r.xs) r.sl := fun r hrm => by
    obtain ⟨c1, c2, c3, tt, us, h2, h3, h4⟩ := hr r hrm
    have hOb : (γ i).o r.b := (hO _).2 ⟨r, hrm, rfl⟩
    refine .sl k r.xs (some ⟨r.b, 0, none⟩) r.c r.b 0 (fun j l => us.getD (j * k + l) .nilIface) c3 c2 (hmax r hrm) (fun _ => rfl) (fun j l hj hl => ?_) (fun j l cs d ha hb => ?_)
    · have hlt : j * k + l < us.length := by
        rw [h3]
        calc j * k + l < j * k + k := by omega
          _ = (j + 1) * k := by rw [Nat.add_mul]; omega
          _ ≤ r.c * k := Nat.mul_le_mul_right _ (by omega)
      rw [hH']
      show (if (γ i).o r.b then _ else _) = _
      rw [if_pos hOb, cell_of_block h2]
      simp [List.getD, hlt]
    · have hj : j < r.xs.length := (List.getElem?_eq_some_iff.1 ha).1
      have hl : l < k := by rw [← c3 cs (List.mem_of_getElem? ha)]; exact (List.getElem?_eq_some_iff.1 hb).1
      have hlt : j * k + l < us.length := by
        rw [h3]
        calc j * k + l < j * k + k := by omega
          _ = (j + 1) * k := by rw [Nat.add_mul]; omega
          _ ≤ r.c * k := Nat.mul_le_mul_right _ (by omega)
      exact (h4 j l cs d _ ha hb (by simp [List.getD, hlt])).mono a1
  have one : ∀ l f, look l ([(id, Ent.arr 1 (rs.map fun r => [D.sl k r.xs]))] : Sg) = some f → l = id ∧ f = .arr 1 (rs.map fun r => [D.sl k r.xs]) := fun l f hl => by
    rw [look_cons] at hl
    split at hl
    · next e' => exact ⟨e', by simpa using hl.symm⟩
    · simp [look] at hl
  have hm : Mem w H (fun b => (γ i).o b ∨ (b = (γ id).b ∧ 0 < (γ id).n)) γ H' [(id, .arr 1 (rs.map fun r => [D.sl k r.xs]))] w := by
    refine ⟨Keeps.refl _ _, a1, a2, a3, fun l f hl => ?_, fun l f hl b hb => ?_, fun l f hl b hb => ?_, fun l f l' f' b hl hl' _ _ => ?_⟩
    · obtain ⟨rfl, rfl⟩ := one l f hl
      refine ⟨by rw [List.length_map] at e1 ⊢; exact e1, fun cs hcs => by obtain ⟨r, _, rfl⟩ := List.mem_map.1 hcs; rfl, fun h0 => ?_⟩
      obtain ⟨tt, us, h1, h2, h3⟩ := e3 h0
      refine ⟨tt, us, h1, h2, fun j m cs d u hj hl hu => ?_⟩
      rw [List.getElem?_map, Option.map_eq_some_iff] at hj
      obtain ⟨r, hjr, rfl⟩ := hj
      cases m with
      | zero =>
        simp at hl; subst hl
        have := h3 j 0 [D.v r.sl] (D.v r.sl) u (by rw [List.getElem?_map, hjr]; rfl) rfl hu
        cases this
        exact rep r (List.mem_of_getElem? hjr)
      | succ m => simp at hl
    · obtain ⟨rfl, rfl⟩ := one l f hl
      have h5 := s.mem.free l _ hid b hb
      have h6 : ¬ (γ i).o b := fun h => hne (s.mem.apart i _ l _ b hi hid h hb)
      rw [hH']
      refine ⟨fun o => ?_, h5.m⟩
      show (if (γ i).o b then _ else H.c b o) = none
      rw [if_neg h6]; exact h5.c o
    · obtain ⟨rfl, rfl⟩ := one l f hl
      exact .inr (.inr hb)
    · rw [(one l f hl).1, (one l' f' hl').1]
  have key := s.step (σr := rest [(i, .gone), (id, .gone)] σ) (d := none) (V := .junk) (v := undef) hm (fun b hb => ?_) wk_rest (fun l f hl => ?_) (fun _ _ _ => ⟨rfl, fun _ _ => rfl⟩) (fun _ _ => rfl) (fun _ _ _ _ _ => rfl) rfl (.junk _)
  · exact ⟨γ, H', key⟩
  · rcases hb with hb | hb
    · exact ⟨i, _, hi, by rw [look_rest, look_cons, if_pos rfl]; rfl, hb⟩
    · exact ⟨id, _, hid, by rw [look_rest, look_cons, look_cons]; simp [isSomeB, hne.symm], hb⟩
  · rw [look_rest] at hl
    split at hl
    · cases hl
    · next h9 =>
      have h1 : l ≠ id := fun e => h9 (by rw [look_cons]; split; rfl; rw [look_cons, if_pos e]; rfl)
      rw [look_cons, if_neg h1]; rfl
/-- A new row of so many zeros. -/
theorem O.makeSl {id n : Nat} {st e : TypeId} {l c : Operand} {ti : TypeInfo} {z : Value} (hu : und X.P st = some (.slice e)) (hti : X.P.info? e = some ti) (hz : ti.zero = some z) (hsz : ti.size = 1) (hb : ti.bytes ≤ 65536) (h1 : z.oneCell' = true) (hl : ge t l = some (.d (.v (.int .i64 (n : Nat))))) (hc : ge t c = some (.d (.v (.int .i64 (n : Nat)))))
    (hn : n ≤ 1000000000) (hf : isFresh id t σ X.pin = true) (hN : dOk (some id) X.N = true) (kk : K ((id, .arr id 1 n) :: t) ((id, .arr 1 (List.replicate n [.v z])) :: σ)) :
    OpJ X ⟨some id, .makeSlice st l c, ty, pos, aft, g⟩ t σ K := by
  intro γ H a w s next Q' hk
  have hl' := rep_v (ge_sound s.tmp hl)
  have hc' := rep_v (ge_sound s.tmp hc)
  rw [und_eq] at hu
  have hbytes : (ti.bytes : Int) * (n : Nat) ≤ 281474976710656 := by
    have h2 : ti.bytes * n ≤ 65536 * 1000000000 := Nat.mul_le_mul hb hn
    have h3 : ((ti.bytes * n : Nat) : Int) ≤ 281474976710656 := by omega
    rwa [Int.natCast_mul] at h3
  have hrun := run_make (P := X.P) w st e ti z hu hti hz .i64 .i64 (n : Nat) (n : Nat) (by omega) (by omega) hbytes (by omega)
  have hx : (execOp a.eval ⟨some id, .makeSlice st l c, ty, pos, aft, g⟩).run X.P w = .ok (.value (.slice (some ⟨w.heap.size, 0, none⟩) n n)) (w.alloc (.cells (madeCells z.cells n) e)) := by
    simp only [execOp, hl', hc', Sem.run_bind, hrun, Int.toNat_natCast, Result.andThen_ok, Sem.run_pure, hsz, Nat.mul_one]
  rw [semAt_of (by simp), hx, Oper.uponIn_value]
  have hvc : z.cells = #[z] := by cases z <;> first | rfl | (simp [Value.oneCell'] at h1)
  have hmc : madeCells z.cells n = (List.replicate n z).toArray := by
    rw [hvc]
    apply Array.ext_getElem?
    intro j
    unfold madeCells
    by_cases hj : j < n
    · have : j % 1 = 0 := Nat.mod_one j
      simp [hj, this]
    · simp [hj]
  have hm := s.mem.new id (.arr 1 (List.replicate n [.v z])) (.cells (madeCells z.cells n) e) n
    ⟨by rw [upd_same, List.length_replicate]; exact Nat.le_refl _, fun cs hcs => by rw [List.eq_of_mem_replicate hcs]; rfl, fun _ => by
      rw [upd_same]
      refine ⟨e, List.replicate n z, by rw [hmc]; exact World.alloc_heap_new _ _, by simp, fun j m cs d u h5 h6 h7 => ?_⟩
      rw [List.getElem?_replicate] at h5
      split at h5
      · cases h5
        cases m with
        | zero =>
          simp at h6; subst h6
          have : u = z := by
            have := List.mem_of_getElem? h7
            exact List.eq_of_mem_replicate this
          rw [this]; exact .v z h1
        | succ m => simp at h6
      · cases h5⟩ (fun _ _ h => by cases h)
  refine hk _ H _ _ _ _ (s.new (d := some id) (V := .arr id 1 n) hm hf hN ?_) kk
  have := Rep.arr (γ := upd γ id ⟨w.heap.size, n, fun _ => False⟩) (H := H) id 1 n (some ⟨w.heap.size, 0, none⟩)
  rw [upd_same] at this
  exact this (Nat.le_refl _) (fun _ => rfl)
end more
end Go.Gv
end
section
open Go Go.Gv
attribute [local irreducible] Go.Gv.WJ Go.Gv.OpJ Go.Gv.QJ Go.Gv.Spl Go.Gv.Req Go.Gv.IdxP Go.Gv.RegP Go.Gv.FinP Go.Gv.CellP Go.Gv.CellsP Go.Gv.ArrP Go.Gv.ArrsP Go.Gv.DropP Go.Gv.ByteP Go.Gv.StoreP
set_option maxRecDepth 100000
namespace Go.Proofs.E
attribute [local irreducible] PutP LookP
abbrev clksv (l : List AC) : AV := if allMay l = true then .tup [.d (.sl 1 ((runC l).cs.map clD)), bv true] else .tup [.d (.v (.slice none 0 0)), bv false]
theorem clRow_app (l : List (List Int)) (c : List Int) : l.map clD ++ [clD c] = (l ++ [c]).map clD := by simp
theorem th_get {s : CS} {i : Nat} (h : i < s.th.length) : (s.th.map clv)[i]? = some (clv (s.th.getD i [])) := by
  rw [List.getElem?_map, List.getElem?_eq_getElem h, List.getD_eq_getElem?_getD, List.getElem?_eq_getElem h]; rfl
abbrev SC0 (th : List (List Int)) (sg : List (Int × List Int)) (cs : List (List Int)) : Sg := [(4, .cells (th.map clv)), (10, .mp false (sg.map fun p => kInt.val p.1) (sg.map fun p => clD p.2)), (6, .arr 1 (cs.map clD))]
theorem len16T {α : Type} {l : List α} (h : l.length = 16) : ∃ a0 a1 a2 a3 a4 a5 a6 a7 a8 a9 a10 a11 a12 a13 a14 a15, l = [a0, a1, a2, a3, a4, a5, a6, a7, a8, a9, a10, a11, a12, a13, a14, a15] := by
  match l, h with
  | [a0, a1, a2, a3, a4, a5, a6, a7, a8, a9, a10, a11, a12, a13, a14, a15], _ => exact ⟨_, _, _, _, _, _, _, _, _, _, _, _, _, _, _, _, rfl⟩
theorem set_clv (th : List (List Int)) (i : Nat) (c : List Int) : setL (th.map clv) (0 + i * 1) [clv c] = (th.set i c).map clv := by rw [Nat.mul_one, Nat.zero_add, List.map_set]; rfl
theorem set_clv6 (th : List (List Int)) (i : Nat) (c : List Int) : List.map (Go.Gv.drop 6) (setL (th.map clv) (0 + i * 1) [clv c]) = (th.set i c).map clv := by rw [set_clv, List.map_map]; rfl
theorem JoinN_c (d : List Int) (hd : d.length ≤ 1000000) : Cv 18 [.d (.v (.slice none 0 0)), clv d] (clv (joinL [] d)) := by
  refine Ct.view (Join13_c [] d (by decide) hd) rfl fun j a b ha hb γ H u r => ?_
  match j, ha, hb with
  | 0, ha, hb => cases ha; cases hb; exact nil_sl 1 r
  | 1, ha, hb => cases ha; cases hb; exact r
theorem clocks_c (l : List AC) (hl : l.length ≤ 1000) : Cv 14 [.d (.sl 3 (l.map acD))] (clksv l) := by
  refine Ct.of_vc Try.f14 Try.func14 rfl rfl fun w H B g0 => ?_
  refine WJ.shift (SJ.nilArr 6 6 1 rfl rfl) ?_
  refine WJ.shift (SJ.viewCell 4 0 rfl rfl fun _ _ _ h => nil_sl 1 h) ?_
  refine WJ.shift (SJ.viewCell 4 1 rfl rfl fun _ _ _ h => nil_sl 1 h) ?_
  refine WJ.shift (SJ.viewCell 4 2 rfl rfl fun _ _ _ h => nil_sl 1 h) ?_
  refine WJ.shift (SJ.viewCell 4 3 rfl rfl fun _ _ _ h => nil_sl 1 h) ?_
  refine WJ.shift (SJ.viewCell 4 4 rfl rfl fun _ _ _ h => nil_sl 1 h) ?_
  refine WJ.shift (SJ.viewCell 4 5 rfl rfl fun _ _ _ h => nil_sl 1 h) ?_
  refine WJ.shift (SJ.viewCell 4 6 rfl rfl fun _ _ _ h => nil_sl 1 h) ?_
  refine WJ.shift (SJ.viewCell 4 7 rfl rfl fun _ _ _ h => nil_sl 1 h) ?_
  refine WJ.shift (SJ.viewCell 4 8 rfl rfl fun _ _ _ h => nil_sl 1 h) ?_
  refine WJ.shift (SJ.viewCell 4 9 rfl rfl fun _ _ _ h => nil_sl 1 h) ?_
  refine WJ.shift (SJ.viewCell 4 10 rfl rfl fun _ _ _ h => nil_sl 1 h) ?_
  refine WJ.shift (SJ.viewCell 4 11 rfl rfl fun _ _ _ h => nil_sl 1 h) ?_
  refine WJ.shift (SJ.viewCell 4 12 rfl rfl fun _ _ _ h => nil_sl 1 h) ?_
  refine WJ.shift (SJ.viewCell 4 13 rfl rfl fun _ _ _ h => nil_sl 1 h) ?_
  refine WJ.shift (SJ.viewCell 4 14 rfl rfl fun _ _ _ h => nil_sl 1 h) ?_
  refine WJ.shift (SJ.viewCell 4 15 rfl rfl fun _ _ _ h => nil_sl 1 h) ?_
  refine WJ.shift (SJ.wk (t' := [(4, .box 4 0), (0, .d (.sl 3 (l.map acD))), (5, .mp 10), (6, .arr 6 1 0), (11, .d (.sl 3 (l.map acD))), (12, iv (l.map acD).length), (13, iv 0)]) (σ' := [(4, .cells ((List.replicate 16 ([] : List Int)).map clv)), (10, .mp false [] []), (6, .arr 1 [])]) (Wk.cons rfl (Wk.cons rfl (Wk.cons rfl (Wk.cons rfl (Wk.cons rfl (Wk.cons rfl (Wk.cons rfl (Wk.nil _)))))))) (Wk.cons rfl (Wk.cons rfl (Wk.cons rfl (Wk.nil _))))) ?_
  refine WJ.loopK (V := Nat) (fun i => [(13, iv i), (6, .arr 6 1 i)]) (fun i => SC0 (runC (l.take i)).th (runC (l.take i)).sg (runC (l.take i)).cs) [4, 10, 6] (fun i => l.length - i) (fun i => i ≤ l.length ∧ ∀ a, a ∈ l.take i → mayA a = true) 0 ⟨Nat.zero_le _, fun _ h => by simp at h⟩ (by repeat' (first | exact trivial | exact rfl | refine And.intro ?_ ?_)) (by rw [List.take_zero]; exact (by repeat' (first | exact trivial | exact rfl | refine And.intro ?_ ?_))) ?_
  rintro i ⟨hi, hall⟩
  obtain ⟨th, sg, hI⟩ := cinvT hl i hi hall
  have hrl := runC_len (l.take i)
  rw [List.length_take, Nat.min_eq_left hi] at hrl
  refine Spl.of (fun h1 => ?_) (fun h1 => ?_)
  · have hlt : i < l.length := by have := of_decide_eq_true h1; simp at this; omega
    have hx := get_acD hlt
    have hy := getA hlt
    have hsn := take_snocA hy
    have hno := fun h => all_no hy h
    have hst := runC_snoc (l.take i) (l.getD i AC0)
    rw [← hsn] at hst
    have hall' : mayA (l.getD i AC0) = true → ∀ a, a ∈ l.take (i + 1) → mayA a = true := fun h a ha => by
      rw [hsn] at ha
      rcases List.mem_append.1 ha with h1 | h1
      · exact hall a h1
      · rw [List.mem_singleton.1 h1]; exact h
    generalize l.getD i AC0 = a at hx hy hsn hno hst hall'
    generalize runC (l.take i) = s at hrl hst hI ⊢
    obtain ⟨x0, x1, x2, x3, x4, x5, x6, x7, x8, x9, x10, x11, x12, x13, x14, x15, hth⟩ := len16T hI.n16
    rw [hth]
    (repeat (first | refine Spl.t rfl ?_ | refine Spl.f rfl ?_))
    refine IdxP.of (acD a) (by omega) (by rw [Int.toNat_natCast]; exact hx) ?_
    refine OpJ.callV (May14_c a) (fun _ _ => rfl) rfl rfl rfl ?_
    (repeat (first | refine Spl.t rfl ?_ | refine Spl.f rfl ?_))
    refine Spl.of (fun h2 => ?_) (fun h2 => ?_)
    · have h2 : mayA a = false := by simpa using h2
      (repeat (first | refine Spl.t rfl ?_ | refine Spl.f rfl ?_))
      refine FinP.open rfl ?_
      show AV.tup _ = clksv l
      rw [clksv, hno h2, if_neg (by simp)]; rfl
    · have h2 : mayA a = true := by simpa using h2
      obtain ⟨t0, t1, _, _⟩ := (mayA_iff a).1 h2
      have hall' := hall' h2
      have n16 := hI.n16
      have hcell : ([x0, x1, x2, x3, x4, x5, x6, x7, x8, x9, x10, x11, x12, x13, x14, x15].map clv)[0 + a.t.toNat * 1]? = some (clv (s.c0 a)) := by rw [← hth, Nat.mul_one, Nat.zero_add]; exact th_get (s := s) (i := a.t.toNat) (by omega)
      have hset : List.map (Go.Gv.drop 6) (setL ([x0, x1, x2, x3, x4, x5, x6, x7, x8, x9, x10, x11, x12, x13, x14, x15].map clv) (0 + a.t.toNat * 1) [clv (s.c a)]) = (s.step a).th.map clv := by rw [← hth]; exact set_clv6 s.th a.t.toNat (s.c a)
      have hl1 := hI.c1_len a
      have hl0 : (s.c0 a).length ≤ 16 := hI.lt _
      have hlg := hI.ls a.loc
      have hlc := hI.c_len h2
      have hT : Cv 22 [clv (s.c1 a), iv a.t] (clv (s.c a)) := Tick13_c (s.c1 a) a.t (by omega) t0 t1
      have hJ := Join13_c (s.g a.loc) (s.c a) (by omega) (by omega)
      have hJ1 := Join13_c (s.c0 a) (s.g a.loc) (by omega) (by omega)
      (repeat (first | refine Spl.t rfl ?_ | refine Spl.f rfl ?_))
      refine Req.of ?_ ?_
      · exact ⟨t0, t1⟩
      refine CellP.of (clv (s.c0 a)) hcell ?_
      (repeat (first | refine Spl.t rfl ?_ | refine Spl.f rfl ?_))
      refine Spl.of (fun h3 => ?_) (fun h3 => ?_)
      · have h3 := of_decide_eq_true h3
        have hc1 : s.c1 a = joinL (s.c0 a) (s.g a.loc) := if_pos h3
        (repeat (first | refine Spl.t rfl ?_ | refine Spl.f rfl ?_))
        refine LookP.by kInt s.sg (fun x hx => ?_) (fun hx => ?_)
        · have hgx : s.g a.loc = x := by unfold CS.g; rw [hx]; rfl
          rw [hgx] at hc1 hJ1
          refine OpJ.callV hJ1 (fun _ _ => rfl) rfl rfl rfl ?_
          rw [hc1] at hT
          refine OpJ.callV hT (fun _ _ => rfl) rfl rfl rfl ?_
          (repeat (first | refine Spl.t rfl ?_ | refine Spl.f rfl ?_))
          refine Spl.of (fun h4 => ?_) (fun h4 => ?_)
          · have h4 := of_decide_eq_true h4
            have hsg : (s.step a).sg = aset a.loc (joinL (s.g a.loc) (s.c a)) s.sg := if_pos h4
            (repeat (first | refine Spl.t rfl ?_ | refine Spl.f rfl ?_))
            refine RegP.mix 9 rfl (by decide +kernel) ?_
            refine LookP.by kInt s.sg (fun x hx => ?_) (fun hx => ?_)
            · have hgx : s.g a.loc = x := by unfold CS.g; rw [hx]; rfl
              rw [hgx] at hJ hsg
              refine QuietP.of (QJ.call hJ (fun _ _ => rfl) rfl rfl) ?_
              (repeat' (refine And.intro ?_ ?_))
              (repeat (first | refine Spl.t rfl ?_ | refine Spl.f rfl ?_))
              all_goals first | exact trivial | skip
              refine PutP.by kInt s.sg (joinL x (s.c a)) (e := clD) ?_
              (repeat (first | refine Spl.t rfl ?_ | refine Spl.f rfl ?_))
              refine Req.of ?_ ?_
              · exact ⟨t0, t1⟩
              refine Req.of ?_ ?_
              · show 0 + a.t.toNat * 1 + 1 ≤ 16
                omega
              (repeat (first | refine Spl.t rfl ?_ | refine Spl.f rfl ?_))
              refine Req.of ⟨by rw [List.length_map]; exact hrl, ?_⟩ ?_
              · show i + 1 ≤ 1000000000; omega
              refine ⟨i + 1, ⟨by omega, hall'⟩, by omega, ⟨some_iv (wrap_id _ (by omega) (by omega)), rfl, trivial⟩, (by repeat' (first | exact trivial | exact rfl | refine And.intro ?_ ?_)), ?_, (by repeat' (first | exact trivial | exact rfl | refine And.intro ?_ ?_))⟩
              refine ⟨?_, ?_, ?_, trivial⟩
              · rw [hst]; exact congrArg (fun x => some (Ent.cells x)) hset
              · rw [hst]; rw [hsg]; rfl
              · rw [hst]; exact congrArg (fun x => some (Ent.arr 1 x)) (clRow_app s.cs (s.c a))

            · have hgx : s.g a.loc = [] := by unfold CS.g; rw [hx]; rfl
              have hJ := JoinN_c (s.c a) (by omega)
              rw [hgx] at hsg
              refine QuietP.of (QJ.call hJ (fun _ _ => rfl) rfl rfl) ?_
              (repeat' (refine And.intro ?_ ?_))
              (repeat (first | refine Spl.t rfl ?_ | refine Spl.f rfl ?_))
              all_goals first | exact trivial | skip
              refine PutP.by kInt s.sg (joinL [] (s.c a)) (e := clD) ?_
              (repeat (first | refine Spl.t rfl ?_ | refine Spl.f rfl ?_))
              refine Req.of ?_ ?_
              · exact ⟨t0, t1⟩
              refine Req.of ?_ ?_
              · show 0 + a.t.toNat * 1 + 1 ≤ 16
                omega
              (repeat (first | refine Spl.t rfl ?_ | refine Spl.f rfl ?_))
              refine Req.of ⟨by rw [List.length_map]; exact hrl, ?_⟩ ?_
              · show i + 1 ≤ 1000000000; omega
              refine ⟨i + 1, ⟨by omega, hall'⟩, by omega, ⟨some_iv (wrap_id _ (by omega) (by omega)), rfl, trivial⟩, (by repeat' (first | exact trivial | exact rfl | refine And.intro ?_ ?_)), ?_, (by repeat' (first | exact trivial | exact rfl | refine And.intro ?_ ?_))⟩
              refine ⟨?_, ?_, ?_, trivial⟩
              · rw [hst]; exact congrArg (fun x => some (Ent.cells x)) hset
              · rw [hst]; rw [hsg]; rfl
              · rw [hst]; exact congrArg (fun x => some (Ent.arr 1 x)) (clRow_app s.cs (s.c a))

          · have h4 := of_decide_eq_false h4
            have hsg : (s.step a).sg = s.sg := if_neg h4
            (repeat (first | refine Spl.t rfl ?_ | refine Spl.f rfl ?_))
            refine Req.of ?_ ?_
            · exact ⟨t0, t1⟩
            refine Req.of ?_ ?_
            · show 0 + a.t.toNat * 1 + 1 ≤ 16
              omega
            (repeat (first | refine Spl.t rfl ?_ | refine Spl.f rfl ?_))
            refine Req.of ⟨by rw [List.length_map]; exact hrl, ?_⟩ ?_
            · show i + 1 ≤ 1000000000; omega
            refine ⟨i + 1, ⟨by omega, hall'⟩, by omega, ⟨some_iv (wrap_id _ (by omega) (by omega)), rfl, trivial⟩, (by repeat' (first | exact trivial | exact rfl | refine And.intro ?_ ?_)), ?_, (by repeat' (first | exact trivial | exact rfl | refine And.intro ?_ ?_))⟩
            refine ⟨?_, ?_, ?_, trivial⟩
            · rw [hst]; exact congrArg (fun x => some (Ent.cells x)) hset
            · rw [hst]; rw [hsg]; rfl
            · rw [hst]; exact congrArg (fun x => some (Ent.arr 1 x)) (clRow_app s.cs (s.c a))

        · have hgx : s.g a.loc = [] := by unfold CS.g; rw [hx]; rfl
          rw [hgx] at hc1 hJ1
          refine OpJ.shift (SJ.nilD 31 1 rfl) ?_
          refine OpJ.callV hJ1 (fun _ _ => rfl) rfl rfl rfl ?_
          rw [hc1] at hT
          refine OpJ.callV hT (fun _ _ => rfl) rfl rfl rfl ?_
          (repeat (first | refine Spl.t rfl ?_ | refine Spl.f rfl ?_))
          refine Spl.of (fun h4 => ?_) (fun h4 => ?_)
          · have h4 := of_decide_eq_true h4
            have hsg : (s.step a).sg = aset a.loc (joinL (s.g a.loc) (s.c a)) s.sg := if_pos h4
            (repeat (first | refine Spl.t rfl ?_ | refine Spl.f rfl ?_))
            refine RegP.mix 9 rfl (by decide +kernel) ?_
            refine LookP.by kInt s.sg (fun x hx => ?_) (fun hx => ?_)
            · have hgx : s.g a.loc = x := by unfold CS.g; rw [hx]; rfl
              rw [hgx] at hJ hsg
              refine QuietP.of (QJ.call hJ (fun _ _ => rfl) rfl rfl) ?_
              (repeat' (refine And.intro ?_ ?_))
              (repeat (first | refine Spl.t rfl ?_ | refine Spl.f rfl ?_))
              all_goals first | exact trivial | skip
              refine PutP.by kInt s.sg (joinL x (s.c a)) (e := clD) ?_
              (repeat (first | refine Spl.t rfl ?_ | refine Spl.f rfl ?_))
              refine Req.of ?_ ?_
              · exact ⟨t0, t1⟩
              refine Req.of ?_ ?_
              · show 0 + a.t.toNat * 1 + 1 ≤ 16
                omega
              (repeat (first | refine Spl.t rfl ?_ | refine Spl.f rfl ?_))
              refine Req.of ⟨by rw [List.length_map]; exact hrl, ?_⟩ ?_
              · show i + 1 ≤ 1000000000; omega
              refine ⟨i + 1, ⟨by omega, hall'⟩, by omega, ⟨some_iv (wrap_id _ (by omega) (by omega)), rfl, trivial⟩, (by repeat' (first | exact trivial | exact rfl | refine And.intro ?_ ?_)), ?_, (by repeat' (first | exact trivial | exact rfl | refine And.intro ?_ ?_))⟩
              refine ⟨?_, ?_, ?_, trivial⟩
              · rw [hst]; exact congrArg (fun x => some (Ent.cells x)) hset
              · rw [hst]; rw [hsg]; rfl
              · rw [hst]; exact congrArg (fun x => some (Ent.arr 1 x)) (clRow_app s.cs (s.c a))

            · have hgx : s.g a.loc = [] := by unfold CS.g; rw [hx]; rfl
              have hJ := JoinN_c (s.c a) (by omega)
              rw [hgx] at hsg
              refine QuietP.of (QJ.call hJ (fun _ _ => rfl) rfl rfl) ?_
              (repeat' (refine And.intro ?_ ?_))
              (repeat (first | refine Spl.t rfl ?_ | refine Spl.f rfl ?_))
              all_goals first | exact trivial | skip
              refine PutP.by kInt s.sg (joinL [] (s.c a)) (e := clD) ?_
              (repeat (first | refine Spl.t rfl ?_ | refine Spl.f rfl ?_))
              refine Req.of ?_ ?_
              · exact ⟨t0, t1⟩
              refine Req.of ?_ ?_
              · show 0 + a.t.toNat * 1 + 1 ≤ 16
                omega
              (repeat (first | refine Spl.t rfl ?_ | refine Spl.f rfl ?_))
              refine Req.of ⟨by rw [List.length_map]; exact hrl, ?_⟩ ?_
              · show i + 1 ≤ 1000000000; omega
              refine ⟨i + 1, ⟨by omega, hall'⟩, by omega, ⟨some_iv (wrap_id _ (by omega) (by omega)), rfl, trivial⟩, (by repeat' (first | exact trivial | exact rfl | refine And.intro ?_ ?_)), ?_, (by repeat' (first | exact trivial | exact rfl | refine And.intro ?_ ?_))⟩
              refine ⟨?_, ?_, ?_, trivial⟩
              · rw [hst]; exact congrArg (fun x => some (Ent.cells x)) hset
              · rw [hst]; rw [hsg]; rfl
              · rw [hst]; exact congrArg (fun x => some (Ent.arr 1 x)) (clRow_app s.cs (s.c a))

          · have h4 := of_decide_eq_false h4
            have hsg : (s.step a).sg = s.sg := if_neg h4
            (repeat (first | refine Spl.t rfl ?_ | refine Spl.f rfl ?_))
            refine Req.of ?_ ?_
            · exact ⟨t0, t1⟩
            refine Req.of ?_ ?_
            · show 0 + a.t.toNat * 1 + 1 ≤ 16
              omega
            (repeat (first | refine Spl.t rfl ?_ | refine Spl.f rfl ?_))
            refine Req.of ⟨by rw [List.length_map]; exact hrl, ?_⟩ ?_
            · show i + 1 ≤ 1000000000; omega
            refine ⟨i + 1, ⟨by omega, hall'⟩, by omega, ⟨some_iv (wrap_id _ (by omega) (by omega)), rfl, trivial⟩, (by repeat' (first | exact trivial | exact rfl | refine And.intro ?_ ?_)), ?_, (by repeat' (first | exact trivial | exact rfl | refine And.intro ?_ ?_))⟩
            refine ⟨?_, ?_, ?_, trivial⟩
            · rw [hst]; exact congrArg (fun x => some (Ent.cells x)) hset
            · rw [hst]; rw [hsg]; rfl
            · rw [hst]; exact congrArg (fun x => some (Ent.arr 1 x)) (clRow_app s.cs (s.c a))

      · have h3 := of_decide_eq_false h3
        have hc1 : s.c1 a = s.c0 a := if_neg h3
        rw [hc1] at hT
        refine OpJ.callV hT (fun _ _ => rfl) rfl rfl rfl ?_
        (repeat (first | refine Spl.t rfl ?_ | refine Spl.f rfl ?_))
        refine Spl.of (fun h4 => ?_) (fun h4 => ?_)
        · have h4 := of_decide_eq_true h4
          have hsg : (s.step a).sg = aset a.loc (joinL (s.g a.loc) (s.c a)) s.sg := if_pos h4
          (repeat (first | refine Spl.t rfl ?_ | refine Spl.f rfl ?_))
          refine RegP.mix 9 rfl (by decide +kernel) ?_
          refine LookP.by kInt s.sg (fun x hx => ?_) (fun hx => ?_)
          · have hgx : s.g a.loc = x := by unfold CS.g; rw [hx]; rfl
            rw [hgx] at hJ hsg
            refine QuietP.of (QJ.call hJ (fun _ _ => rfl) rfl rfl) ?_
            (repeat' (refine And.intro ?_ ?_))
            (repeat (first | refine Spl.t rfl ?_ | refine Spl.f rfl ?_))
            all_goals first | exact trivial | skip
            refine PutP.by kInt s.sg (joinL x (s.c a)) (e := clD) ?_
            (repeat (first | refine Spl.t rfl ?_ | refine Spl.f rfl ?_))
            refine Req.of ?_ ?_
            · exact ⟨t0, t1⟩
            refine Req.of ?_ ?_
            · show 0 + a.t.toNat * 1 + 1 ≤ 16
              omega
            (repeat (first | refine Spl.t rfl ?_ | refine Spl.f rfl ?_))
            refine Req.of ⟨by rw [List.length_map]; exact hrl, ?_⟩ ?_
            · show i + 1 ≤ 1000000000; omega
            refine ⟨i + 1, ⟨by omega, hall'⟩, by omega, ⟨some_iv (wrap_id _ (by omega) (by omega)), rfl, trivial⟩, (by repeat' (first | exact trivial | exact rfl | refine And.intro ?_ ?_)), ?_, (by repeat' (first | exact trivial | exact rfl | refine And.intro ?_ ?_))⟩
            refine ⟨?_, ?_, ?_, trivial⟩
            · rw [hst]; exact congrArg (fun x => some (Ent.cells x)) hset
            · rw [hst]; rw [hsg]; rfl
            · rw [hst]; exact congrArg (fun x => some (Ent.arr 1 x)) (clRow_app s.cs (s.c a))

          · have hgx : s.g a.loc = [] := by unfold CS.g; rw [hx]; rfl
            have hJ := JoinN_c (s.c a) (by omega)
            rw [hgx] at hsg
            refine QuietP.of (QJ.call hJ (fun _ _ => rfl) rfl rfl) ?_
            (repeat' (refine And.intro ?_ ?_))
            (repeat (first | refine Spl.t rfl ?_ | refine Spl.f rfl ?_))
            all_goals first | exact trivial | skip
            refine PutP.by kInt s.sg (joinL [] (s.c a)) (e := clD) ?_
            (repeat (first | refine Spl.t rfl ?_ | refine Spl.f rfl ?_))
            refine Req.of ?_ ?_
            · exact ⟨t0, t1⟩
            refine Req.of ?_ ?_
            · show 0 + a.t.toNat * 1 + 1 ≤ 16
              omega
            (repeat (first | refine Spl.t rfl ?_ | refine Spl.f rfl ?_))
            refine Req.of ⟨by rw [List.length_map]; exact hrl, ?_⟩ ?_
            · show i + 1 ≤ 1000000000; omega
            refine ⟨i + 1, ⟨by omega, hall'⟩, by omega, ⟨some_iv (wrap_id _ (by omega) (by omega)), rfl, trivial⟩, (by repeat' (first | exact trivial | exact rfl | refine And.intro ?_ ?_)), ?_, (by repeat' (first | exact trivial | exact rfl | refine And.intro ?_ ?_))⟩
            refine ⟨?_, ?_, ?_, trivial⟩
            · rw [hst]; exact congrArg (fun x => some (Ent.cells x)) hset
            · rw [hst]; rw [hsg]; rfl
            · rw [hst]; exact congrArg (fun x => some (Ent.arr 1 x)) (clRow_app s.cs (s.c a))

        · have h4 := of_decide_eq_false h4
          have hsg : (s.step a).sg = s.sg := if_neg h4
          (repeat (first | refine Spl.t rfl ?_ | refine Spl.f rfl ?_))
          refine Req.of ?_ ?_
          · exact ⟨t0, t1⟩
          refine Req.of ?_ ?_
          · show 0 + a.t.toNat * 1 + 1 ≤ 16
            omega
          (repeat (first | refine Spl.t rfl ?_ | refine Spl.f rfl ?_))
          refine Req.of ⟨by rw [List.length_map]; exact hrl, ?_⟩ ?_
          · show i + 1 ≤ 1000000000; omega
          refine ⟨i + 1, ⟨by omega, hall'⟩, by omega, ⟨some_iv (wrap_id _ (by omega) (by omega)), rfl, trivial⟩, (by repeat' (first | exact trivial | exact rfl | refine And.intro ?_ ?_)), ?_, (by repeat' (first | exact trivial | exact rfl | refine And.intro ?_ ?_))⟩
          refine ⟨?_, ?_, ?_, trivial⟩
          · rw [hst]; exact congrArg (fun x => some (Ent.cells x)) hset
          · rw [hst]; rw [hsg]; rfl
          · rw [hst]; exact congrArg (fun x => some (Ent.arr 1 x)) (clRow_app s.cs (s.c a))

  · have h1 := of_decide_eq_false h1
    simp at h1
    obtain rfl : i = l.length := by omega
    rw [List.take_length] at hall hrl ⊢
    (repeat (first | refine Spl.t rfl ?_ | refine Spl.f rfl ?_))
    refine FinP.pubTup 6 0 rfl rfl ?_ ?_ ?_
    · rw [List.length_map, hrl]; exact Nat.le_refl _
    · omega
    refine FinP.open rfl ?_
    rw [clksv, if_pos ((allMay_iff l).2 hall), List.take_of_length_le (by rw [List.length_map, hrl]; exact Nat.le_refl _)]
    rfl
end Go.Proofs.E
end
section
open Go Go.Gv
attribute [local irreducible] Go.Gv.WJ Go.Gv.OpJ Go.Gv.QJ Go.Gv.Spl Go.Gv.Req Go.Gv.IdxP Go.Gv.RegP Go.Gv.FinP Go.Gv.CellP Go.Gv.CellsP Go.Gv.ArrP Go.Gv.ArrsP Go.Gv.DropP Go.Gv.ByteP Go.Gv.StoreP
set_option maxRecDepth 100000
namespace Go.Proofs.E
theorem len_acD (l : List AC) : ((l.map acD).length : Int) = (l.length : Nat) := by rw [List.length_map]
def inP (l : List AC) (loc : Int) (j : Nat) : Bool := accA (l.getD j AC0) && decide ((l.getD j AC0).loc = loc)
def accs (l : List AC) (k : Nat) (loc : Int) : List Nat := (List.range k).filter (inP l loc)
theorem accs_succ (l : List AC) (k : Nat) (loc : Int) : accs l (k + 1) loc = accs l k loc ++ (if inP l loc k = true then [k] else []) := by
  unfold accs
  rw [List.range_succ, List.filter_append]
  congr 1
  by_cases h : inP l loc k = true
  · rw [if_pos h]; simp [h]
  · rw [if_neg h]; simp [h]
theorem mem_accs {l : List AC} {k j : Nat} {loc : Int} : j ∈ accs l k loc ↔ j < k ∧ inP l loc j = true := by
  unfold accs; rw [List.mem_filter, List.mem_range]
theorem accs_lt (l : List AC) (k : Nat) (loc : Int) : (accs l k loc).Pairwise (· < ·) := List.Pairwise.filter _ List.pairwise_lt_range
theorem race_in {l : List AC} {i k : Nat} (h : raceB l i k = true) : inP l (l.getD k AC0).loc i = true ∧ accA (l.getD k AC0) = true := by
  unfold raceB clashA at h
  rw [Bool.and_eq_true, Bool.and_eq_true, Bool.and_eq_true, Bool.and_eq_true] at h
  obtain ⟨⟨⟨⟨h1, h2⟩, h3⟩, _⟩, _⟩ := h
  exact ⟨by unfold inP; rw [h1, h3]; rfl, h2⟩
theorem race_no {l : List AC} {k : Nat} (h : accA (l.getD k AC0) = false) (i : Nat) : raceB l i k = false := by
  cases e : raceB l i k with
  | false => rfl
  | true => rw [(race_in e).2] at h; cases h
theorem race_is {l : List AC} {i k : Nat} (h : inP l (l.getD k AC0).loc i = true) (h2 : accA (l.getD k AC0) = true) : raceB l i k = ((wrA (l.getD k AC0) || wrA (l.getD i AC0)) && !aheadB l i k) := by
  unfold inP at h
  rw [Bool.and_eq_true] at h
  unfold raceB clashA
  rw [h.1, h.2, h2, Bool.or_comm]; rfl
theorem first_none {l : List AC} {k : Nat} (h : ∀ p i : Nat, (accs l k (l.getD k AC0).loc)[p]? = some i → raceB l i k = false) : firstI l k k = none :=
  (firstI_none l k k).2 fun i hi => by
    cases e : raceB l i k with
    | false => rfl
    | true =>
      obtain ⟨p, hp, e2⟩ := List.getElem_of_mem (mem_accs.2 ⟨hi, (race_in e).1⟩)
      rw [← e, h p i (by rw [List.getElem?_eq_getElem hp, e2])]
theorem first_some {l : List AC} {k q i : Nat} (hq : (accs l k (l.getD k AC0).loc)[q]? = some i) (hr : raceB l i k = true) (h : ∀ p j : Nat, p < q → (accs l k (l.getD k AC0).loc)[p]? = some j → raceB l j k = false) : firstI l k k = some i := by
  have hik := (mem_accs.1 (List.mem_of_getElem? hq)).1
  refine firstI_some (fun j hj => ?_) hr k hik
  cases e : raceB l j k with
  | false => rfl
  | true =>
    obtain ⟨p, hp, e2⟩ := List.getElem_of_mem (mem_accs.2 ⟨(by omega : j < k), (race_in e).1⟩)
    have hp2 : (accs l k (l.getD k AC0).loc)[p]? = some j := by rw [List.getElem?_eq_getElem hp, e2]
    have hpq : p < q := by
      rcases Nat.lt_or_ge p q with h | h
      · exact h
      · exfalso
        obtain ⟨hq1, hq2⟩ := List.getElem?_eq_some_iff.1 hq
        by_cases e3 : q = p
        · subst e3; rw [e2] at hq2; omega
        · have := List.pairwise_iff_getElem.1 (accs_lt l k (l.getD k AC0).loc) q p hq1 hp (by omega)
          rw [e2, hq2] at this; omega
    rw [← e, h p j hpq hp2]
def dn (j : Nat) : List D := [.v (.int .i64 (j : Nat))]
/-- The rows of the places, as far as acts were gone through. -/
def MInv (l : List AC) (k : Nat) (R : List (Int × RW)) : Prop := ∀ loc, match alook loc R with
  | some r => r.xs = (accs l k loc).map dn
  | none => accs l k loc = []
theorem MInv.nil (l : List AC) : MInv l 0 [] := fun _ => rfl
theorem MInv.skip {l : List AC} {k : Nat} {R : List (Int × RW)} (h : MInv l k R) (ha : accA (l.getD k AC0) = false) : MInv l (k + 1) R := fun loc => by
  have e : accs l (k + 1) loc = accs l k loc := by
    rw [accs_succ, if_neg (by unfold inP; rw [ha]; simp), List.append_nil]
  rw [e]; exact h loc
theorem MInv.put {l : List AC} {k : Nat} {R : List (Int × RW)} (h : MInv l k R) {a : AC} (hk : l.getD k AC0 = a) (ha : accA a = true) {r : RW} (hr : r.xs = (accs l (k + 1) a.loc).map dn) : MInv l (k + 1) (aset a.loc r R) := fun loc => by
  rw [alook_aset]
  by_cases e : loc = a.loc
  · rw [if_pos e]; subst e; exact hr
  · rw [if_neg e]
    have e2 : accs l (k + 1) loc = accs l k loc := by
      rw [accs_succ, if_neg (by unfold inP; rw [hk]; simp; exact fun _ h => e h.symm), List.append_nil]
    rw [e2]; exact h loc
theorem accs_put {l : List AC} {k : Nat} {a : AC} (hk : l.getD k AC0 = a) (ha : accA a = true) : (accs l (k + 1) a.loc).map dn = (accs l k a.loc).map dn ++ [dn k] := by
  rw [accs_succ, if_pos (by unfold inP; rw [hk, ha]; simp), List.map_append]; rfl
theorem accs_len (l : List AC) (k : Nat) (loc : Int) : (accs l k loc).length ≤ k := by
  have := List.length_filter_le (inP l loc) (List.range k)
  rw [List.length_range] at this
  exact this
end Go.Proofs.E
end
