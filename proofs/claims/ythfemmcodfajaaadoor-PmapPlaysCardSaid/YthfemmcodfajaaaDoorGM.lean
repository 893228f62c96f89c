/- Maps: what is looked up, and written. -/
import Derived.Test.YthfemmcodfajaaaDoorGE
set_option linter.unusedVariables false
set_option linter.unusedSimpArgs false
namespace Go.Gv
open Go.RowKit
/-- Are two keys alike? -/
def cmpK : Value → Value → Option Bool
  | .int k a, .int k' b => (match kEq k k' with | true => some (decide (a = b)) | false => none)
  | .string ⟨⟨a⟩⟩, .string ⟨⟨b⟩⟩ => some (decide (a = b))
  | _, _ => none
/-- A key of its type. -/
def keyOk (P : Program) (kt : TypeId) (key : Value) : Bool := match und P kt, key with
  | some (.int _), .int _ _ => true
  | some .string, .string _ => true
  | _, _ => false
theorem cmp_same {P : Program} {kt : TypeId} {key x : Value} {b : Bool} (h : keyOk P kt key = true) (hc : cmpK key x = some b) : ∃ d, P.underlying kt = some d ∧ Instr.sameNow d key x = some b := by
  simp only [keyOk, und_eq] at h
  split at h
  · next j k a hu =>
    refine ⟨_, hu, ?_⟩
    cases x with
    | int k' b' =>
      simp only [cmpK] at hc
      split at hc
      · next hk =>
        have := kEq_eq hk; subst this
        simp only [Option.some.injEq] at hc; subst hc
        simp only [Instr.sameNow, if_true]; congr 1
      · cases hc
    | _ => simp [cmpK] at hc
  · next s hu =>
    refine ⟨_, hu, ?_⟩
    cases x with
    | string s' =>
      obtain ⟨⟨a⟩⟩ := s
      obtain ⟨⟨b'⟩⟩ := s'
      simp only [cmpK, Option.some.injEq] at hc; subst hc
      simp only [Instr.sameNow]
      congr 1
      by_cases e : a = b'
      · subst e; rw [decide_eq_true rfl]; show (Array.mk a == Array.mk a) = true; simp
      · rw [decide_eq_false e]; show (Array.mk a == Array.mk b') = false; simp [e]
    | _ => simp [cmpK] at hc
  · cases h
theorem cmp_bits {key x : Value} {n : Nat} (hc : cmpK key x = some true) : Instr.sameBits (n + 1) x key = true ∧ key = x := by
  cases key <;> cases x <;> simp only [cmpK] at hc <;> try (cases hc)
  · next k a k' b =>
    split at hc
    · next hk =>
      have := kEq_eq hk; subst this
      simp only [Option.some.injEq, decide_eq_true_eq] at hc; subst hc
      simp [Instr.sameBits]
    · cases hc
  · next s s' =>
    obtain ⟨⟨a⟩⟩ := s
    obtain ⟨⟨b⟩⟩ := s'
    simp only [cmpK, Option.some.injEq, decide_eq_true_eq] at hc
    subst hc
    refine ⟨?_, rfl⟩
    show (Array.mk a == Array.mk a) = true; simp

/-- A key is not among others; it is the j-th. -/
abbrev KeyNo (key : Value) (ks : List Value) : Prop := ∀ (i : Nat) (x : Value), ks[i]? = some x → cmpK key x = some false
abbrev KeyIs (key : Value) (ks : List Value) (j : Nat) : Prop := (∃ x : Value, ks[j]? = some x ∧ cmpK key x = some true) ∧ ∀ (i : Nat) (x : Value), i < j → ks[i]? = some x → cmpK key x = some false

theorem keyOk_d {P : Program} {kt : TypeId} {key : Value} (hk : keyOk P kt key = true) : ∃ d, P.underlying kt = some d ∧ ∀ x b, cmpK key x = some b → Instr.sameNow d key x = some b := by
  have hd : ∃ d, P.underlying kt = some d := by
    simp only [keyOk, und_eq] at hk
    split at hk
    · exact ⟨_, by assumption⟩
    · exact ⟨_, by assumption⟩
    · cases hk
  obtain ⟨d, hd⟩ := hd
  exact ⟨d, hd, fun x b h => by
    obtain ⟨d', h1, h2⟩ := cmp_same hk h
    rw [hd] at h1; cases h1; exact h2⟩
theorem findNow_no {d : TypeDesc} {key : Value} (same : ∀ x b, cmpK key x = some b → Instr.sameNow d key x = some b) : ∀ (es : List MapEntry) (n : Nat), KeyNo key (es.map (·.key)) → Instr.findNow d key es n = some none
  | [], n, _ => rfl
  | e :: es, n, h => by
    simp only [Instr.findNow, same _ _ (h 0 e.key (by simp))]
    exact findNow_no same es (n + 1) fun i x hx => h (i + 1) x (by simpa using hx)
theorem findNow_is {d : TypeDesc} {key : Value} (same : ∀ x b, cmpK key x = some b → Instr.sameNow d key x = some b) : ∀ (es : List MapEntry) (n j : Nat) (e : MapEntry), KeyIs key (es.map (·.key)) j → es[j]? = some e → Instr.findNow d key es n = some (some (n + j, e.val))
  | [], n, j, e, _, h => by simp at h
  | e0 :: es, n, 0, e, h, he => by
    obtain ⟨⟨x, hx, hc⟩, _⟩ := h
    simp at hx he; subst hx; subst he
    simp only [Instr.findNow, same _ _ hc]; simp
  | e0 :: es, n, j + 1, e, h, he => by
    simp only [Instr.findNow, same _ _ (h.2 0 e0.key (by omega) (by simp))]
    rw [findNow_is same es (n + 1) j e ⟨by obtain ⟨⟨x, hx, hc⟩, _⟩ := h; exact ⟨x, by simpa using hx, hc⟩, fun i x hi hx => h.2 (i + 1) x (by omega) (by simpa using hx)⟩ (by simpa using he)]
    congr 3; omega
theorem checkKey_run {P : Program} {kt : TypeId} {key : Value} {em : Bool} {n : Nat} {w : World} (hk : keyOk P kt key = true) : (Instr.checkKey em (n + 1) kt key).run P w = .ok () w := by
  simp only [keyOk, und_eq] at hk
  split at hk
  · next hu => simp [Instr.checkKey, underlying, hu]
  · next hu => simp [Instr.checkKey, underlying, hu]
  · cases hk
theorem findKey_no {P : Program} {kt : TypeId} {key : Value} {es : List MapEntry} {w : World} (hk : keyOk P kt key = true) (hr : KeyNo key (es.map (·.key))) : (Instr.findKey kt key es).run P w = .ok none w := by
  obtain ⟨d, hd, same⟩ := keyOk_d hk
  simp only [Instr.findKey, Sem.run_bind, run_underlying hd, Result.andThen_ok, findNow_no same es 0 hr, Sem.run_pure]
theorem findKey_is {P : Program} {kt : TypeId} {key : Value} {es : List MapEntry} {j : Nat} {e : MapEntry} {w : World} (hk : keyOk P kt key = true) (hr : KeyIs key (es.map (·.key)) j) (he : es[j]? = some e) : (Instr.findKey kt key es).run P w = .ok (some (j, e.val)) w := by
  obtain ⟨d, hd, same⟩ := keyOk_d hk
  have := findNow_is same es 0 j e hr he
  rw [Nat.zero_add] at this
  simp only [Instr.findKey, Sem.run_bind, run_underlying hd, Result.andThen_ok, this, Sem.run_pure]

/-! ### What is looked up -/
def mapOf (σ : Sg) : AV → Option (Bool × List Value × List (List D))
  | .mp i => (match look i σ with
    | some (.mp ag ks vs) => some (ag, ks, vs)
    | _ => none)
  | .d (.mp ag ks vs) => some (ag, ks, vs)
  | .d (.v (.map none)) => some (false, [], [])
  | _ => none
theorem MapRep.keys {H : HF} {ag : Bool} {ks : List Value} {vs : List (List D)} {es : Array MapEntry} {us : Nat → List Value} (h : MapRep H ag ks vs es us) : es.toList.map (·.key) = ks := by
  apply List.ext_getElem?
  intro j
  rw [List.getElem?_map]
  cases he : es.toList[j]? with
  | none =>
    have : es.size ≤ j := by simpa using he
    rw [List.getElem?_eq_none (by rw [← h.l]; exact this)]; rfl
  | some e => rw [(h.k j e (by simpa using he)).1]; rfl
/-- A map's entries. -/
def esOf (w : World) : Value → Option (Array MapEntry)
  | .map none => some #[]
  | .map (some b) => (match w.heap[b]? with
    | some (.map es _) => some es
    | _ => none)
  | _ => none
theorem mapOf_rep {w0 w : World} {H0 H : HF} {B : Nat → Prop} {γ : Ids} {σ : Sg} (m : Mem w0 H0 B γ H σ w) {a : AV} {ag : Bool} {ks : List Value} {vs : List (List D)} (h : mapOf σ a = some (ag, ks, vs)) {u : Value} (r : Rep γ H a u) :
    ∃ es us, esOf w u = some es ∧ MapRep H ag ks vs es us := by
  unfold mapOf at h
  split at h
  · next i =>
    split at h
    · next ag' ks' vs' hi =>
      simp only [Option.some.injEq, Prod.mk.injEq] at h
      obtain ⟨rfl, rfl, rfl⟩ := h
      obtain ⟨es, clock, us, h1, h2⟩ := m.ent i _ hi
      cases r with
      | mp _ => exact ⟨es, us, by simp [esOf, h1], h2⟩
    · cases h
  · simp only [Option.some.injEq, Prod.mk.injEq] at h
    obtain ⟨rfl, rfl, rfl⟩ := h
    cases rep_d r with
    | mp _ _ _ b es clock us hm hl hl2 hk hu hh => exact ⟨es, us, by simp [esOf, m.hok.m _ _ _ hm], ⟨hl, hl2, hk, hu, hh⟩⟩
  · simp only [Option.some.injEq, Prod.mk.injEq] at h
    obtain ⟨rfl, rfl, rfl⟩ := h
    obtain rfl := rep_v r
    exact ⟨#[], fun _ => [], rfl, ⟨rfl, rfl, fun j e h => by simp at h, fun j cs h => by simp at h, fun j i cs a u h => by simp at h⟩⟩
  · cases h
theorem lookup_no {P : Program} {w : World} {mt kt et : TypeId} {x key z : Value} {ok : Bool} {es : Array MapEntry} (hu : P.underlying mt = some (.map kt et)) (he : esOf w x = some es) (hk : keyOk P kt key = true) (hz : zeroOf P et = some z) (hr : KeyNo key (es.toList.map (·.key))) :
    (Instr.lookup mt x key ok).run P w = .ok (if ok = true then .tuple #[z, .bool false] else z) w := by
  have h1 := findKey_no (P := P) (w := w) hk hr
  have h2 := checkKey_run (P := P) (em := es.isEmpty) (n := 9999) (w := w) hk
  unfold esOf at he
  split at he
  · cases he
    simp only [Instr.lookup, Sem.run_bind, run_underlying hu, Result.andThen_ok, Sem.run_pure, h2, h1, zeroOf_run hz]
  · next b =>
    split at he
    · next es' c hb =>
      cases he
      have hg : (getObj b).run P w = .ok (.map es c) w := by simp [getObj, Sem.run, hb]
      simp only [Instr.lookup, Sem.run_bind, run_underlying hu, Result.andThen_ok, Sem.run_pure, hg, h2, h1, zeroOf_run hz]
    · cases he
  · cases he
theorem lookup_is {P : Program} {w : World} {mt kt et : TypeId} {x key : Value} {ok : Bool} {es : Array MapEntry} {j : Nat} {e : MapEntry} (hu : P.underlying mt = some (.map kt et)) (he : esOf w x = some es) (hk : keyOk P kt key = true) (hr : KeyIs key (es.toList.map (·.key)) j) (hj : es.toList[j]? = some e) :
    (Instr.lookup mt x key ok).run P w = .ok (if ok = true then .tuple #[e.val, .bool true] else e.val) w := by
  have h1 := findKey_is (P := P) (w := w) hk hr hj
  have h2 := checkKey_run (P := P) (em := es.isEmpty) (n := 9999) (w := w) hk
  unfold esOf at he
  split at he
  · cases he
    simp at hj
  · next b =>
    split at he
    · next es' c hb =>
      cases he
      have hg : (getObj b).run P w = .ok (.map es c) w := by simp [getObj, Sem.run, hb]
      simp only [Instr.lookup, Sem.run_bind, run_underlying hu, Result.andThen_ok, Sem.run_pure, hg, h2, h1]
    · cases he
  · cases he
/-- What a map's value is. -/
def valAV (ag : Bool) (cs : List D) : AV := match ag, cs with
  | true, cs => .agg (cs.map .d)
  | false, [c] => .d c
  | false, _ => .junk
theorem valAV_rep {γ : Ids} {H : HF} {ag : Bool} {cs : List D} {us : List Value} (hl : us.length = cs.length) (h : ∀ (i : Nat) (a : D) (u : Value), cs[i]? = some a → us[i]? = some u → RepD H a u) : Rep γ H (valAV ag cs) (valAg ag us) := by
  cases ag with
  | true => exact rep_map_d hl h
  | false =>
    match cs, us, hl with
    | [], _, _ => exact .junk _
    | [c], [u], _ => exact .d _ _ (h 0 c u rfl rfl)
    | _ :: _ :: _, _, _ => exact .junk _
def wrapOk (ok : Bool) (b : Bool) (V : AV) : AV := match ok with
  | true => .tup [V, .d (.v (.bool b))]
  | false => V
theorem wrapOk_rep {γ : Ids} {H : HF} {ok b : Bool} {V : AV} {v : Value} (h : Rep γ H V v) : Rep γ H (wrapOk ok b V) (if ok = true then .tuple #[v, .bool b] else v) := by
  cases ok with
  | true => exact rep_two h rep_bool
  | false => exact h
/-- A key's value, and what is known where there is none. -/
def LookP (key : Value) (ks : List Value) (vs : List (List D)) (A : List D → Prop) (B : Prop) : Prop := (∃ j cs, KeyIs key ks j ∧ vs[j]? = some cs ∧ A cs) ∨ (KeyNo key ks ∧ B)
section
variable {X : Cx} {d : Option Nat} {ty : TypeId} {pos : String} {aft : Array Edge} {g : Option (Nat × Bool)} {t : T} {σ : Sg} {K : AV → Prop} {F : Prop}
theorem O.lookNo {mt kt et : TypeId} {x y : Operand} {ok : Bool} {av : AV} {ag : Bool} {ks : List Value} {vs : List (List D)} {key z : Value} (hu : X.P.underlying mt = some (.map kt et)) (hx : ge t x = some av) (hm : mapOf σ av = some (ag, ks, vs))
    (hy : ge t y = some (.d (.v key))) (hk : keyOk X.P kt key = true) (hz : zeroOf X.P et = some z) (hr : KeyNo key ks) : QJ X ⟨d, .lookup mt x y ok, ty, pos, aft, g⟩ t σ (wrapOk ok false (ofConst z)) :=
  QJ.value (by simp) (fun γ H a w so sm => by
    have e2 := rep_v (so y (by simp [Op.operands]) _ hy)
    obtain ⟨es, us, h1, h2⟩ := mapOf_rep sm hm (so x (by simp [Op.operands]) _ hx)
    have := lookup_no (w := w) (ok := ok) hu h1 hk hz (by rw [h2.keys]; exact hr)
    exact ⟨_, by simp only [execOp, Sem.run_bind, e2, this, Result.andThen_ok, Sem.run_pure], wrapOk_rep (rep_const γ H z)⟩)
theorem O.lookIs {mt kt et : TypeId} {x y : Operand} {ok : Bool} {av : AV} {ag : Bool} {ks : List Value} {vs : List (List D)} {key : Value} {j : Nat} {cs : List D} (hu : X.P.underlying mt = some (.map kt et)) (hx : ge t x = some av) (hm : mapOf σ av = some (ag, ks, vs))
    (hy : ge t y = some (.d (.v key))) (hk : keyOk X.P kt key = true) (hr : KeyIs key ks j) (hc : vs[j]? = some cs) : QJ X ⟨d, .lookup mt x y ok, ty, pos, aft, g⟩ t σ (wrapOk ok true (valAV ag cs)) :=
  QJ.value (by simp) (fun γ H a w so sm => by
    have e2 := rep_v (so y (by simp [Op.operands]) _ hy)
    obtain ⟨es, us, h1, h2⟩ := mapOf_rep sm hm (so x (by simp [Op.operands]) _ hx)
    have hj : j < es.size := by rw [h2.l, ← h2.l2]; exact (List.getElem?_eq_some_iff.1 hc).1
    have he : es[j]? = some es[j] := by simp [hj]
    have := lookup_is (w := w) (ok := ok) (e := es[j]) hu h1 hk (by rw [h2.keys]; exact hr) (by simp [hj])
    refine ⟨if ok = true then .tuple #[es[j].val, .bool true] else es[j].val, by simp only [execOp, Sem.run_bind, e2, this, Result.andThen_ok, Sem.run_pure], wrapOk_rep ?_⟩
    rw [(h2.k j _ he).2]
    exact valAV_rep (h2.u j cs hc) fun i a u ha hu => h2.r j i cs a u hc ha hu)
def qLook (X : Cx) (mt : TypeId) (x y : Operand) (ok : Bool) (t : T) (σ : Sg) (K : AV → Prop) (F : Prop) : Prop := match und X.P mt, ge t x, ge t y with
  | some (.map kt et), some av, some (.d (.v key)) => (match mapOf σ av, keyOk X.P kt key, zeroOf X.P et with
    | some (ag, ks, vs), true, some z => LookP key ks vs (fun cs => K (wrapOk ok true (valAV ag cs))) (K (wrapOk ok false (ofConst z)))
    | _, _, _ => F)
  | _, _, _ => F
theorem qLook_sound {mt : TypeId} {x y : Operand} {ok : Bool} (h : qLook X mt x y ok t σ K F) : Yields X ⟨d, .lookup mt x y ok, ty, pos, aft, g⟩ t σ K F := by
  simp only [qLook, und_eq] at h
  split at h
  · next kt et av key hu hx hy =>
    split at h
    · next ag ks vs z hm hk hz =>
      rcases h with ⟨j, cs, h1, h2, h3⟩ | ⟨h1, h2⟩
      · exact .inl ⟨_, O.lookIs hu hx hm hy hk h1 h2, h3⟩
      · exact .inl ⟨_, O.lookNo hu hx hm hy hk hz h1, h2⟩
    · exact .inr h
  · exact .inr h
end

/-! ### Maps by whole numbers, and by texts -/
def alook {κ α : Type} [DecidableEq κ] (n : κ) : List (κ × α) → Option α
  | [] => none
  | p :: m => if n = p.1 then some p.2 else alook n m
def aset {κ α : Type} [DecidableEq κ] (n : κ) (x : α) : List (κ × α) → List (κ × α)
  | [] => [(n, x)]
  | p :: m => if n = p.1 then (n, x) :: m else p :: aset n x m
theorem alook_aset {κ α : Type} [DecidableEq κ] (n k : κ) (x : α) : ∀ m : List (κ × α), alook k (aset n x m) = if k = n then some x else alook k m
  | [] => by simp [aset, alook]
  | p :: m => by
    simp only [aset]
    by_cases h : n = p.1
    · rw [if_pos h]; simp only [alook]; by_cases h2 : k = n
      · rw [if_pos h2, if_pos h2]
      · rw [if_neg h2, if_neg h2, if_neg (fun e => h2 (e.trans h.symm))]
    · rw [if_neg h]; simp only [alook, alook_aset n k x m]
      by_cases h2 : k = p.1
      · rw [if_pos h2, if_neg (fun e => h (e.symm.trans h2)), if_pos h2]
      · rw [if_neg h2, if_neg h2]
theorem alook_is {κ α : Type} [DecidableEq κ] {n : κ} : ∀ {m : List (κ × α)} {x : α}, alook n m = some x → ∃ j, m[j]? = some (n, x) ∧ ∀ (i : Nat) (p : κ × α), i < j → m[i]? = some p → n ≠ p.1
  | [], x, h => by simp [alook] at h
  | p :: m, x, h => by
    simp only [alook] at h
    by_cases e : n = p.1
    · rw [if_pos e] at h
      simp only [Option.some.injEq] at h
      exact ⟨0, by subst h; subst e; simp, fun i p hi => by omega⟩
    · rw [if_neg e] at h
      obtain ⟨j, h1, h2⟩ := alook_is h
      refine ⟨j + 1, by simpa using h1, fun i q hi hq => ?_⟩
      cases i with
      | zero => simp at hq; subst hq; exact e
      | succ i => exact h2 i q (by omega) (by simpa using hq)
theorem alook_no {κ α : Type} [DecidableEq κ] {n : κ} : ∀ {m : List (κ × α)}, alook n m = none → ∀ p, p ∈ m → n ≠ p.1
  | [], _, p, hp => by simp at hp
  | q :: m, h, p, hp => by
    simp only [alook] at h
    split at h
    · cases h
    · next e =>
      rcases List.mem_cons.1 hp with rfl | h1
      · exact e
      · exact alook_no h p h1
theorem aset_is {κ α : Type} [DecidableEq κ] {n : κ} {x : α} : ∀ {m : List (κ × α)} {j : Nat} {y : α}, m[j]? = some (n, y) → (∀ (i : Nat) (p : κ × α), i < j → m[i]? = some p → n ≠ p.1) → aset n x m = m.set j (n, x)
  | [], j, y, h, _ => by simp at h
  | p :: m, 0, y, h, _ => by simp at h; subst h; simp [aset]
  | p :: m, j + 1, y, h, hn => by
    have := hn 0 p (by omega) (by simp)
    simp only [aset, if_neg this, List.set_cons_succ]
    rw [aset_is (by simpa using h) fun i q hi hq => hn (i + 1) q (by omega) (by simpa using hq)]
theorem aset_no {κ α : Type} [DecidableEq κ] {n : κ} {x : α} : ∀ {m : List (κ × α)}, (∀ p, p ∈ m → n ≠ p.1) → aset n x m = m ++ [(n, x)]
  | [], _ => rfl
  | p :: m, h => by
    simp only [aset, if_neg (h p (by simp)), List.cons_append]
    rw [aset_no fun q hq => h q (List.mem_cons_of_mem _ hq)]
/-- Keys as values. -/
structure KV (κ : Type) [DecidableEq κ] where
  val : κ → Value
  cmp : ∀ a b : κ, cmpK (val a) (val b) = some (decide (a = b))
def kInt : KV Int := ⟨.int .i64, fun _ _ => rfl⟩
def kStr : KV (List UInt8) := ⟨fun l => .string ⟨⟨l⟩⟩, fun _ _ => rfl⟩
theorem keyNo_of {κ α : Type} [DecidableEq κ] (kv : KV κ) {n : κ} {m : List (κ × α)} (h : ∀ p, p ∈ m → n ≠ p.1) : KeyNo (kv.val n) (m.map fun p => kv.val p.1) := fun i x hx => by
  simp only [List.getElem?_map, Option.map_eq_some_iff] at hx
  obtain ⟨p, hp, rfl⟩ := hx
  rw [kv.cmp, decide_eq_false (h p (mem_of_get hp))]
theorem keyIs_of {κ α : Type} [DecidableEq κ] (kv : KV κ) {n : κ} {m : List (κ × α)} {j : Nat} {x : α} (h : m[j]? = some (n, x)) (hn : ∀ (i : Nat) (p : κ × α), i < j → m[i]? = some p → n ≠ p.1) : KeyIs (kv.val n) (m.map fun p => kv.val p.1) j :=
  ⟨⟨kv.val n, by simp [h], by rw [kv.cmp, decide_eq_true rfl]⟩, fun i x hi hx => by
    simp only [List.getElem?_map, Option.map_eq_some_iff] at hx
    obtain ⟨p, hp, rfl⟩ := hx
    rw [kv.cmp, decide_eq_false (hn i p hi hp)]⟩
/-- What is looked up in a map that is told as a list. -/
theorem LookP.by {κ α : Type} [DecidableEq κ] (kv : KV κ) {n : κ} (m : List (κ × α)) {e : α → List D} {A : List D → Prop} {B : Prop} (hs : ∀ x, alook n m = some x → A (e x)) (hn : alook n m = none → B) :
    LookP (kv.val n) (m.map fun p => kv.val p.1) (m.map fun p => e p.2) A B := by
  cases h : alook n m with
  | some x =>
    obtain ⟨j, h1, h2⟩ := alook_is h
    exact .inl ⟨j, e x, keyIs_of kv h1 h2, by simp [h1], hs x h⟩
  | none => exact .inr ⟨keyNo_of kv (alook_no h), hn h⟩

/-! ### Maps that are written -/
theorem mapUpd_no {P : Program} {w : World} {mt kt et : TypeId} {b : Nat} {es : Array MapEntry} {clock : Nat} {key v : Value} (hu : P.underlying mt = some (.map kt et)) (hb : w.heap[b]? = some (.map es clock)) (hk : keyOk P kt key = true) (hr : KeyNo key (es.toList.map (·.key))) :
    (Instr.mapUpdate mt (.map (some b)) key v).run P w = .ok () (w.putObj b (.map (es.push { key, val := v, born := clock }) (clock + 1))) := by
  have h1 := findKey_no (P := P) (w := w) hk hr
  have h2 := checkKey_run (P := P) (em := false) (n := 9999) (w := w) hk
  have hg : (getObj b).run P w = .ok (.map es clock) w := by simp [getObj, Sem.run, hb]
  have hs : ∀ o, (setObj b o).run P w = .ok () (w.putObj b o) := fun o => by simp [setObj, Sem.run, hb, World.putObj]
  simp only [Instr.mapUpdate, Sem.run_bind, run_underlying hu, Result.andThen_ok, hg, h2, h1, hs]
theorem mapUpd_is {P : Program} {w : World} {mt kt et : TypeId} {b : Nat} {es : Array MapEntry} {clock : Nat} {key v : Value} {j : Nat} {e : MapEntry} (hu : P.underlying mt = some (.map kt et)) (hb : w.heap[b]? = some (.map es clock)) (hk : keyOk P kt key = true) (hr : KeyIs key (es.toList.map (·.key)) j) (hj : es[j]? = some e) :
    (Instr.mapUpdate mt (.map (some b)) key v).run P w = .ok () (w.putObj b (.map (es.modify j fun e => { e with key := key, val := v }) clock)) := by
  have h1 := findKey_is (P := P) (w := w) hk hr (e := e) (by simpa using hj)
  have h2 := checkKey_run (P := P) (em := false) (n := 9999) (w := w) hk
  have hg : (getObj b).run P w = .ok (.map es clock) w := by simp [getObj, Sem.run, hb]
  have hs : ∀ o, (setObj b o).run P w = .ok () (w.putObj b o) := fun o => by simp [setObj, Sem.run, hb, World.putObj]
  have hc : cmpK key e.key = some true := by
    obtain ⟨⟨x, hx, hc⟩, _⟩ := hr
    simp only [List.getElem?_map, Array.getElem?_toList, hj, Option.map_some, Option.some.injEq] at hx
    rw [hx]; exact hc
  have h3 := (cmp_bits (n := 9999) hc).1
  simp only [Instr.mapUpdate, Sem.run_bind, run_underlying hu, Result.andThen_ok, hg, h2, h1, hj, Option.map_some, Option.getD_some, Instr.keyThatStays, h3, if_true, Sem.run_pure, hs]
/-- What is written into a map. -/
def PutP (key : Value) (ks : List Value) (vs : List (List D)) (ds : List D) (K : List Value → List (List D) → Prop) : Prop := (∃ j, KeyIs key ks j ∧ K ks (vs.set j ds)) ∨ (KeyNo key ks ∧ K (ks ++ [key]) (vs ++ [ds]))
def agAV : AV → Bool
  | .agg _ => true
  | _ => false
theorem agAV_val {γ : Ids} {H : HF} {a : AV} {u : Value} {ds : List D} (r : Rep γ H a u) (h1 : oneAV a = true) (hd : dAll (avCells a) = some ds) : ∃ us : List Value, u = valAg (agAV a) us ∧ us.length = ds.length ∧ ∀ (i : Nat) (x : D) (v : Value), ds[i]? = some x → us[i]? = some v → RepD H x v := by
  cases r with
  | agg cs us hl hr =>
    obtain ⟨h2, h3⟩ := dAll_get hd
    refine ⟨us, rfl, by rw [hl, h2]; rfl, fun i x v hx hv => ?_⟩
    obtain ⟨a, ha, hx'⟩ := h3 i x hx
    exact dOf_sound hx' (hr i a v ha hv)
  | d x u hr =>
    refine ⟨[u], rfl, by cases hd; rfl, fun i y v hy hv => ?_⟩
    cases hd
    cases i with
    | zero => simp at hy hv; subst hy; subst hv; exact hr
    | succ i => simp at hy
  | full k xs A hr =>
    refine ⟨[_], rfl, by cases hd; rfl, fun i y v hy hv => ?_⟩
    cases hd
    cases i with
    | zero => simp at hy hv; subst hy; subst hv; exact hr
    | succ i => simp at hy
  | _ => simp [avCells, dAll, dOf] at hd
section
variable {X : Cx} {d : Option Nat} {ty : TypeId} {pos : String} {aft : Array Edge} {g : Option (Nat × Bool)} {t : T} {σ : Sg} {K : T → Sg → Prop} {F : Prop}
theorem map_put {γ : Ids} {H : HF} {a : Act} {w : World} {i : Nat} {ag : Bool} {ks : List Value} {vs : List (List D)} {mt kt et : TypeId} {key v : Value} {us : List Value} {ds : List D} (s : St X γ H t σ a w) (hi : look i σ = some (.mp ag ks vs)) (hu : X.P.underlying mt = some (.map kt et))
    (hk : keyOk X.P kt key = true) (hv : v = valAg ag us) (hl : us.length = ds.length) (hr : ∀ (i : Nat) (x : D) (v : Value), ds[i]? = some x → us[i]? = some v → RepD H x v) {R : List Value → List (List D) → Prop} (hp : PutP key ks vs ds R) :
    ∃ w' ks' vs', (Instr.mapUpdate mt (.map (some (γ i).b)) key v).run X.P w = .ok () w' ∧ R ks' vs' ∧ ∀ (dd : Option Nat) (u : Value), dOk dd X.N = true → St X γ H (putT dd .junk t) ((i, .mp ag ks' vs') :: σ) (a.put dd u) w' := by
  obtain ⟨es, clock, f, hb, hm⟩ := s.mem.ent i _ hi
  have hlt := lt_of_heap hb
  have turn : ∀ (o : Obj) ks' vs', EntOk γ H (w.putObj (γ i).b o) i (.mp ag ks' vs') → ∀ (dd : Option Nat) (u : Value), dOk dd X.N = true → St X γ H (putT dd .junk t) ((i, .mp ag ks' vs') :: σ) (a.put dd u) (w.putObj (γ i).b o) := fun o ks' vs' he dd u hN =>
    s.turn hi rfl (s.mem.turn (w' := w.putObj (γ i).b o) (e' := .mp ag ks' vs') hi rfl ⟨rfl, rfl, rfl, by simp, fun k hk => World.putObj_heap_other hk⟩ he fun b hb => hb) hN (.junk _)
  rcases hp with ⟨j, h1, h2⟩ | ⟨h1, h2⟩
  · have hj : j < es.size := by
      obtain ⟨⟨x, hx, _⟩, _⟩ := h1
      rw [hm.l]; exact (List.getElem?_eq_some_iff.1 hx).1
    have he : es[j]? = some es[j] := by simp [hj]
    have hkj : key = es[j].key := by
      obtain ⟨⟨x, hx, hc⟩, _⟩ := h1
      have := (hm.k j _ he).1
      rw [this] at hx
      cases hx; exact (cmp_bits (n := 0) hc).2
    refine ⟨_, ks, vs.set j ds, mapUpd_is (v := v) hu hb hk (by rw [hm.keys]; exact h1) he, h2, turn _ _ _ ⟨_, clock, fun l => if l = j then us else f l, World.putObj_heap_same hlt, ?_⟩⟩
    refine ⟨by simp [hm.l], by simp [hm.l2], fun l e hl' => ?_, fun l cs hl' => ?_, fun l m cs x u hc ha hu' => ?_⟩
    · rw [Array.getElem?_modify] at hl'
      by_cases hlj : j = l
      · rw [if_pos hlj] at hl'
        subst hlj
        rw [he] at hl'
        simp only [Option.map_some, Option.some.injEq] at hl'
        subst hl'
        simp only [if_pos]
        exact ⟨by rw [hkj]; exact (hm.k j _ he).1, hv⟩
      · rw [if_neg hlj] at hl'
        have := hm.k l e (by simpa using hl')
        rw [if_neg (fun e => hlj e.symm)]; exact this
    · rw [List.getElem?_set] at hl'
      by_cases hlj : j = l
      · subst hlj
        rw [if_pos rfl] at hl'
        split at hl'
        · cases hl'; simp only [if_pos]; exact hl
        · cases hl'
      · rw [if_neg hlj] at hl'
        rw [if_neg (fun e => hlj e.symm)]; exact hm.u l cs hl'
    · rw [List.getElem?_set] at hc
      by_cases hlj : j = l
      · subst hlj
        rw [if_pos rfl] at hc
        simp only [if_pos] at hu'
        split at hc
        · cases hc; exact hr m x u ha hu'
        · cases hc
      · rw [if_neg hlj] at hc
        rw [if_neg (fun e => hlj e.symm)] at hu'
        exact hm.r l m cs x u hc ha hu'
  · refine ⟨_, ks ++ [key], vs ++ [ds], mapUpd_no (v := v) hu hb hk (by rw [hm.keys]; exact h1), h2, turn _ _ _ ⟨_, clock + 1, fun l => if l = es.size then us else f l, World.putObj_heap_same hlt, ?_⟩⟩
    have hl1 : vs.length = es.size := by rw [hm.l2, hm.l]
    refine ⟨by simp [hm.l], by simp [hm.l2], fun l e hl' => ?_, fun l cs hl' => ?_, fun l m cs x u hc ha hu' => ?_⟩
    · rw [Array.getElem?_push] at hl'
      by_cases hlj : l = es.size
      · rw [if_pos hlj] at hl'
        cases hl'
        subst hlj
        simp only [if_pos]
        exact ⟨by rw [hm.l, List.getElem?_append_right (Nat.le_refl _)]; simp, hv⟩
      · rw [if_neg hlj] at hl'
        have hlt' : l < es.size := (Array.getElem?_eq_some_iff.1 hl').1
        rw [if_neg hlj, List.getElem?_append_left (by rw [← hm.l]; exact hlt')]
        exact hm.k l e hl'
    · by_cases hlj : l = es.size
      · subst hlj
        rw [List.getElem?_append_right (by omega), hl1] at hl'
        simp at hl'; subst hl'
        simp only [if_pos]; exact hl
      · have hlt' : l < vs.length := by
          have := (List.getElem?_eq_some_iff.1 hl').1
          simp at this; omega
        rw [List.getElem?_append_left hlt'] at hl'
        rw [if_neg hlj]; exact hm.u l cs hl'
    · by_cases hlj : l = es.size
      · subst hlj
        rw [List.getElem?_append_right (by omega), hl1] at hc
        simp at hc; subst hc
        simp only [if_pos] at hu'
        exact hr m x u ha hu'
      · have hlt' : l < vs.length := by
          have := (List.getElem?_eq_some_iff.1 hc).1
          simp at this; omega
        rw [List.getElem?_append_left hlt'] at hc
        rw [if_neg hlj] at hu'
        exact hm.r l m cs x u hc ha hu'
def putD (d : Option Nat) (t : T) : T := putT d .junk t
def eMapPut (X : Cx) (d : Option Nat) (mt : TypeId) (x y z : Operand) (t : T) (σ : Sg) (K : T → Sg → Prop) (F : Prop) : Prop := match und X.P mt, ge t x, ge t y, ge t z with
  | some (.map kt et), some (.mp i), some (.d (.v key)), some av => (match look i σ, dAll (avCells av) with
    | some (.mp ag ks vs), some ds => (match keyOk X.P kt key && (agAV av == ag) && oneAV av && dOk d X.N with
      | true => PutP key ks vs ds fun ks' vs' => K (putT d .junk t) ((i, .mp ag ks' vs') :: σ)
      | false => F)
    | _, _ => F)
  | _, _, _, _ => F
theorem eMapPut_run {mt : TypeId} {x y z : Operand} {op : Op} (hop : ∀ ρ : Operand → Value, execOp ρ ⟨d, op, ty, pos, aft, g⟩ = execOp ρ ⟨d, .mapUpdate mt x y z, ty, pos, aft, g⟩) (hnd : ∀ c, op ≠ .defer c) (h : eMapPut X d mt x y z t σ K (OpJ X ⟨d, op, ty, pos, aft, g⟩ t σ K)) : OpJ X ⟨d, op, ty, pos, aft, g⟩ t σ K := by
  simp only [eMapPut, und_eq] at h
  split at h
  · next kt et i key av hu hx hy hz =>
    split at h
    · next ag ks vs ds hi hd =>
      split at h
      · next hb =>
        simp only [Bool.and_eq_true, beq_iff_eq] at hb
        obtain ⟨⟨⟨h1, h2⟩, h3⟩, h4⟩ := hb
        intro γ H a w s next Q' hk
        have r1 := ge_sound s.tmp hx
        have r2 := rep_v (ge_sound s.tmp hy)
        obtain ⟨us, e3, h5, h6⟩ := agAV_val (ge_sound s.tmp hz) h3 hd
        generalize hq : a.eval x = q at r1
        cases r1 with
        | mp _ =>
        obtain ⟨w', ks', vs', hw, hR, hst⟩ := map_put (v := a.eval z) s hi hu h1 (by rw [← h2]; exact e3) h5 h6 h
        have hrun : (execOp a.eval ⟨d, op, ty, pos, aft, g⟩).run X.P w = .ok .skip w' := by
          rw [hop]
          simp only [execOp, hq, r2, Sem.run_bind, hw, Result.andThen_ok, Sem.run_pure]
        rw [semAt_of hnd, hrun, Oper.uponIn_skip]
        exact hk γ H _ _ _ w' (hst d undef h4) hR
      · exact h
    · exact h
  · exact h
theorem O.makeMap {i : Nat} {mt : TypeId} {ag : Bool} (hN : dOk (some i) X.N = true) (hf : isFresh i t σ X.pin = true) (k : K ((i, .mp i) :: t) ((i, .mp ag [] []) :: σ)) : OpJ X ⟨some i, .makeMap mt none, ty, pos, aft, g⟩ t σ K := by
  intro γ H a w s next Q' hk
  have hrun : (execOp a.eval ⟨some i, .makeMap mt none, ty, pos, aft, g⟩).run X.P w = .ok (.value (.map (some w.heap.size))) (w.alloc (.map #[] 0)) := by
    simp [execOp, run_makeMap]
  rw [semAt_of (by simp), hrun, Oper.uponIn_value]
  have hm := s.mem.new i (.mp ag [] []) (.map #[] 0) 0 (by
    refine ⟨#[], 0, fun _ => [], ?_, ⟨rfl, rfl, fun j e h => by simp at h, fun j cs h => by simp at h, fun j i cs a u h => by simp at h⟩⟩
    rw [upd_same]; exact World.alloc_heap_new w _) (fun _ _ h => by cases h)
  refine hk _ H _ _ _ _ (s.new (d := some i) (V := .mp i) hm hf hN ?_) k
  have := Rep.mp (γ := upd γ i ⟨w.heap.size, 0, fun _ => False⟩) (H := H) i
  rw [upd_same] at this; exact this
def eMakeMap (X : Cx) (i : Nat) (mt : TypeId) (t : T) (σ : Sg) (K : T → Sg → Prop) (F : Prop) : Prop := match und X.P mt with
  | some (.map _ et) => (match aggOf X.P et with
    | some ag => (match isFresh i t σ X.pin && dOk (some i) X.N with
      | true => K ((i, .mp i) :: t) ((i, .mp ag [] []) :: σ)
      | false => F)
    | none => F)
  | _ => F
theorem eMakeMap_sound {i : Nat} {mt : TypeId} (h : eMakeMap X i mt t σ K (OpJ X ⟨some i, .makeMap mt none, ty, pos, aft, g⟩ t σ K)) : OpJ X ⟨some i, .makeMap mt none, ty, pos, aft, g⟩ t σ K := by
  simp only [eMakeMap, und_eq] at h
  split at h
  · split at h
    · split at h
      · next hb => simp only [Bool.and_eq_true] at hb; exact O.makeMap hb.2 hb.1 h
      · exact h
    · exact h
  · exact h
end
/-- What is written into a map that is told as a list. -/
theorem PutP.by {κ α : Type} [DecidableEq κ] (kv : KV κ) {n : κ} (m : List (κ × α)) {e : α → List D} (x : α) {K : List Value → List (List D) → Prop} (h : K ((aset n x m).map fun p => kv.val p.1) ((aset n x m).map fun p => e p.2)) :
    PutP (kv.val n) (m.map fun p => kv.val p.1) (m.map fun p => e p.2) (e x) K := by
  cases hl : alook n m with
  | some y =>
    obtain ⟨j, h1, h2⟩ := alook_is hl
    refine .inl ⟨j, keyIs_of kv h1 h2, ?_⟩
    rw [aset_is h1 h2, List.map_set, List.map_set] at h
    have : (m.map fun p => kv.val p.1).set j (kv.val n) = m.map fun p => kv.val p.1 := by
      apply List.ext_getElem?
      intro l
      rw [List.getElem?_set]
      split
      · next e => subst e; rw [if_pos (by simp; exact (List.getElem?_eq_some_iff.1 h1).1), List.getElem?_map, h1]; rfl
      · rfl
    rw [this] at h; exact h
  | none =>
    have h1 := alook_no hl
    refine .inr ⟨keyNo_of kv h1, ?_⟩
    rw [aset_no h1, List.map_append, List.map_append] at h
    exact h
end Go.Gv
