/- Laws that the claim's text stands on: Maps: what is looked up, and written; The weakest precondition of code, reckoned; A contract out of what is reckoned; loops; Calls, as they are used; structs compared; texts of bytes; contracts out of the library's; From the statement's reading of the arguments to abstract values; An array given to all, cut to a slice; Loops that keep what is private, but for what is named. -/
import Derived.Test.YtaojepfldokjdaaGreatDoorM1
import Derived.Test.YtaojepfldokjdaaGreatDoorM2
import Derived.Laws.BytesString
import Derived.Lib.LaidTab
import Derived.Lib.AppendIntMem
import Derived.OpenShut
import Derived.ChangeOld
import Derived.SizedLaws
import Derived.Deep.Slices
import Derived.WideShapes
set_option linter.unusedVariables false
set_option linter.unusedSimpArgs false
section
namespace Go.Gv
open Go.RowKit
/-- Are two keys alike? -/
def cmpK : Value → Value → Option Bool
  | .int k a, .int k' b => (match kEq k k' with | true => some (decide (a = b)) | false => none)
  | .string ⟨⟨a⟩⟩, .string ⟨⟨b⟩⟩ => some (decide (a = b))
  | _, _ => none
/-- A key of its type. -/
def keyOk (P : Program) (kt : TypeId) (key : Value) : Bool := match und P kt, key with
  | some (.int _), .int _ _ => true
  | some .string, .string _ => true
  | _, _ => false
theorem cmp_same {P : Program} {kt : TypeId} {key x : Value} {b : Bool} (h : keyOk P kt key = true) (hc : cmpK key x = some b) : ∃ d, P.underlying kt = some d ∧ Instr.sameNow d key x = some b := by
  simp only [keyOk, und_eq] at h
  split at h
  · next j k a hu =>
    refine ⟨_, hu, ?_⟩
    cases x with
    | int k' b' =>
      simp only [cmpK] at hc
      split at hc
      · next hk =>
        have := kEq_eq hk; subst this
        simp only [Option.some.injEq] at hc; subst hc
        simp only [Instr.sameNow, if_true]; congr 1
      · cases hc
    | _ => simp [cmpK] at hc
  · next s hu =>
    refine ⟨_, hu, ?_⟩
    cases x with
    | string s' =>
      obtain ⟨⟨a⟩⟩ := s
      obtain ⟨⟨b'⟩⟩ := s'
      simp only [cmpK, Option.some.injEq] at hc; subst hc
      simp only [Instr.sameNow]
      congr 1
      by_cases e : a = b'
      · subst e; rw [decide_eq_true rfl]; show (Array.mk a == Array.mk a) = true; simp
      · rw [decide_eq_false e]; show (Array.mk a == Array.mk b') = false; simp [e]
    | _ => simp [cmpK] at hc
  · cases h
theorem cmp_bits {key x : Value} {n : Nat} (hc : cmpK key x = some true) : Instr.sameBits (n + 1) x key = true ∧ key = x := by
  cases key <;> cases x <;> simp only [cmpK] at hc <;> try (cases hc)
  · next k a k' b =>
    split at hc
    · next hk =>
      have := kEq_eq hk; subst this
      simp only [Option.some.injEq, decide_eq_true_eq] at hc; subst hc
      simp [Instr.sameBits]
    · cases hc
  · next s s' =>
    obtain ⟨⟨a⟩⟩ := s
    obtain ⟨⟨b⟩⟩ := s'
    simp only [cmpK, Option.some.injEq, decide_eq_true_eq] at hc
    subst hc
    refine ⟨?_, rfl⟩
    show (Array.mk a == Array.mk a) = true; simp

/-- A key is not among others; it is the j-th. -/
abbrev KeyNo (key : Value) (ks : List Value) : Prop := ∀ (i : Nat) (x : Value), ks[i]? = some x → cmpK key x = some false
abbrev KeyIs (key : Value) (ks : List Value) (j : Nat) : Prop := (∃ x : Value, ks[j]? = some x ∧ cmpK key x = some true) ∧ ∀ (i : Nat) (x : Value), i < j → ks[i]? = some x → cmpK key x = some false

theorem keyOk_d {P : Program} {kt : TypeId} {key : Value} (hk : keyOk P kt key = true) : ∃ d, P.underlying kt = some d ∧ ∀ x b, cmpK key x = some b → Instr.sameNow d key x = some b := by
  have hd : ∃ d, P.underlying kt = some d := by
    simp only [keyOk, und_eq] at hk
    split at hk
    · exact ⟨_, by assumption⟩
    · exact ⟨_, by assumption⟩
    · cases hk
  obtain ⟨d, hd⟩ := hd
  exact ⟨d, hd, fun x b h => by
    obtain ⟨d', h1, h2⟩ := cmp_same hk h
    rw [hd] at h1; cases h1; exact h2⟩
theorem findNow_no {d : TypeDesc} {key : Value} (same : ∀ x b, cmpK key x = some b → Instr.sameNow d key x = some b) : ∀ (es : List MapEntry) (n : Nat), KeyNo key (es.map (·.key)) → Instr.findNow d key es n = some none
  | [], n, _ => rfl
  | e :: es, n, h => by
    simp only [Instr.findNow, same _ _ (h 0 e.key (by simp))]
    exact findNow_no same es (n + 1) fun i x hx => h (i + 1) x (by simpa using hx)
theorem findNow_is {d : TypeDesc} {key : Value} (same : ∀ x b, cmpK key x = some b → Instr.sameNow d key x = some b) : ∀ (es : List MapEntry) (n j : Nat) (e : MapEntry), KeyIs key (es.map (·.key)) j → es[j]? = some e → Instr.findNow d key es n = some (some (n + j, e.val))
  | [], n, j, e, _, h => by simp at h
  | e0 :: es, n, 0, e, h, he => by
    obtain ⟨⟨x, hx, hc⟩, _⟩ := h
    simp at hx he; subst hx; subst he
    simp only [Instr.findNow, same _ _ hc]; simp
  | e0 :: es, n, j + 1, e, h, he => by
    simp only [Instr.findNow, same _ _ (h.2 0 e0.key (by omega) (by simp))]
    rw [findNow_is same es (n + 1) j e ⟨by obtain ⟨⟨x, hx, hc⟩, _⟩ := h; exact ⟨x, by simpa using hx, hc⟩, fun i x hi hx => h.2 (i + 1) x (by omega) (by simpa using hx)⟩ (by simpa using he)]
    congr 3; omega
theorem checkKey_run {P : Program} {kt : TypeId} {key : Value} {em : Bool} {n : Nat} {w : World} (hk : keyOk P kt key = true) : (Instr.checkKey em (n + 1) kt key).run P w = .ok () w := by
  simp only [keyOk, und_eq] at hk
  split at hk
  · next hu => simp [Instr.checkKey, underlying, hu]
  · next hu => simp [Instr.checkKey, underlying, hu]
  · cases hk
theorem findKey_no {P : Program} {kt : TypeId} {key : Value} {es : List MapEntry} {w : World} (hk : keyOk P kt key = true) (hr : KeyNo key (es.map (·.key))) : (Instr.findKey kt key es).run P w = .ok none w := by
  obtain ⟨d, hd, same⟩ := keyOk_d hk
  simp only [Instr.findKey, Sem.run_bind, run_underlying hd, Result.andThen_ok, findNow_no same es 0 hr, Sem.run_pure]
theorem findKey_is {P : Program} {kt : TypeId} {key : Value} {es : List MapEntry} {j : Nat} {e : MapEntry} {w : World} (hk : keyOk P kt key = true) (hr : KeyIs key (es.map (·.key)) j) (he : es[j]? = some e) : (Instr.findKey kt key es).run P w = .ok (some (j, e.val)) w := by
  obtain ⟨d, hd, same⟩ := keyOk_d hk
  have := findNow_is same es 0 j e hr he
  rw [Nat.zero_add] at this
  simp only [Instr.findKey, Sem.run_bind, run_underlying hd, Result.andThen_ok, this, Sem.run_pure]

/-! ### What is looked up -/
def mapOf (σ : Sg) : AV → Option (Bool × List Value × List (List D))
  | .mp i => (match look i σ with
    | some (.mp ag ks vs) => some (ag, ks, vs)
    | _ => none)
  | .d (.mp ag ks vs) => some (ag, ks, vs)
  | .d (.v (.map none)) => some (false, [], [])
  | _ => none
theorem MapRep.keys {H : HF} {ag : Bool} {ks : List Value} {vs : List (List D)} {es : Array MapEntry} {us : Nat → List Value} (h : MapRep H ag ks vs es us) : es.toList.map (·.key) = ks := by
  apply List.ext_getElem?
  intro j
  rw [List.getElem?_map]
  cases he : es.toList[j]? with
  | none =>
    have : es.size ≤ j := by simpa using he
    rw [List.getElem?_eq_none (by rw [← h.l]; exact this)]; rfl
  | some e => rw [(h.k j e (by simpa using he)).1]; rfl
/-- A map's entries. -/
def esOf (w : World) : Value → Option (Array MapEntry)
  | .map none => some #[]
  | .map (some b) => (match w.heap[b]? with
    | some (.map es _) => some es
    | _ => none)
  | _ => none
theorem mapOf_rep {w0 w : World} {H0 H : HF} {B : Nat → Prop} {γ : Ids} {σ : Sg} (m : Mem w0 H0 B γ H σ w) {a : AV} {ag : Bool} {ks : List Value} {vs : List (List D)} (h : mapOf σ a = some (ag, ks, vs)) {u : Value} (r : Rep γ H a u) :
    ∃ es us, esOf w u = some es ∧ MapRep H ag ks vs es us := by
  unfold mapOf at h
  split at h
  · next i =>
    split at h
    · next ag' ks' vs' hi =>
      simp only [Option.some.injEq, Prod.mk.injEq] at h
      obtain ⟨rfl, rfl, rfl⟩ := h
      obtain ⟨es, clock, us, h1, h2⟩ := m.ent i _ hi
      cases r with
      | mp _ => exact ⟨es, us, by simp [esOf, h1], h2⟩
    · cases h
  · simp only [Option.some.injEq, Prod.mk.injEq] at h
    obtain ⟨rfl, rfl, rfl⟩ := h
    cases rep_d r with
    | mp _ _ _ b es clock us hm hl hl2 hk hu hh => exact ⟨es, us, by simp [esOf, m.hok.m _ _ _ hm], ⟨hl, hl2, hk, hu, hh⟩⟩
  · simp only [Option.some.injEq, Prod.mk.injEq] at h
    obtain ⟨rfl, rfl, rfl⟩ := h
    obtain rfl := rep_v r
    exact ⟨#[], fun _ => [], rfl, ⟨rfl, rfl, fun j e h => by simp at h, fun j cs h => by simp at h, fun j i cs a u h => by simp at h⟩⟩
  · cases h
theorem lookup_no {P : Program} {w : World} {mt kt et : TypeId} {x key z : Value} {ok : Bool} {es : Array MapEntry} (hu : P.underlying mt = some (.map kt et)) (he : esOf w x = some es) (hk : keyOk P kt key = true) (hz : zeroOf P et = some z) (hr : KeyNo key (es.toList.map (·.key))) :
    (Instr.lookup mt x key ok).run P w = .ok (if ok = true then .tuple #[z, .bool false] else z) w := by
  have h1 := findKey_no (P := P) (w := w) hk hr
  have h2 := checkKey_run (P := P) (em := es.isEmpty) (n := 9999) (w := w) hk
  unfold esOf at he
  split at he
  · cases he
    simp only [Instr.lookup, Sem.run_bind, run_underlying hu, Result.andThen_ok, Sem.run_pure, h2, h1, zeroOf_run hz]
  · next b =>
    split at he
    · next es' c hb =>
      cases he
      have hg : (getObj b).run P w = .ok (.map es c) w := by simp [getObj, Sem.run, hb]
      simp only [Instr.lookup, Sem.run_bind, run_underlying hu, Result.andThen_ok, Sem.run_pure, hg, h2, h1, zeroOf_run hz]
    · cases he
  · cases he
theorem lookup_is {P : Program} {w : World} {mt kt et : TypeId} {x key : Value} {ok : Bool} {es : Array MapEntry} {j : Nat} {e : MapEntry} (hu : P.underlying mt = some (.map kt et)) (he : esOf w x = some es) (hk : keyOk P kt key = true) (hr : KeyIs key (es.toList.map (·.key)) j) (hj : es.toList[j]? = some e) :
    (Instr.lookup mt x key ok).run P w = .ok (if ok = true then .tuple #[e.val, .bool true] else e.val) w := by
  have h1 := findKey_is (P := P) (w := w) hk hr hj
  have h2 := checkKey_run (P := P) (em := es.isEmpty) (n := 9999) (w := w) hk
  unfold esOf at he
  split at he
  · cases he
    simp at hj
  · next b =>
    split at he
    · next es' c hb =>
      cases he
      have hg : (getObj b).run P w = .ok (.map es c) w := by simp [getObj, Sem.run, hb]
      simp only [Instr.lookup, Sem.run_bind, run_underlying hu, Result.andThen_ok, Sem.run_pure, hg, h2, h1]
    · cases he
  · cases he
/-- What a map's value is. -/
def valAV (ag : Bool) (cs : List D) : AV := match ag, cs with
  | true, cs => .agg (cs.map .d)
  | false, [c] => .d c
  | false, _ => .junk
theorem valAV_rep {γ : Ids} {H : HF} {ag : Bool} {cs : List D} {us : List Value} (hl : us.length = cs.length) (h : ∀ (i : Nat) (a : D) (u : Value), cs[i]? = some a → us[i]? = some u → RepD H a u) : Rep γ H (valAV ag cs) (valAg ag us) := by
  cases ag with
  | true => exact rep_map_d hl h
  | false =>
    match cs, us, hl with
    | [], _, _ => exact .junk _
    | [c], [u], _ => exact .d _ _ (h 0 c u rfl rfl)
    | _ :: _ :: _, _, _ => exact .junk _
def wrapOk (ok : Bool) (b : Bool) (V : AV) : AV := match ok with
  | true => .tup [V, .d (.v (.bool b))]
  | false => V
theorem wrapOk_rep {γ : Ids} {H : HF} {ok b : Bool} {V : AV} {v : Value} (h : Rep γ H V v) : Rep γ H (wrapOk ok b V) (if ok = true then .tuple #[v, .bool b] else v) := by
  cases ok with
  | true => exact rep_two h rep_bool
  | false => exact h
/-- A key's value, and what is known where there is none. -/
def LookP (key : Value) (ks : List Value) (vs : List (List D)) (A : List D → Prop) (B : Prop) : Prop := (∃ j cs, KeyIs key ks j ∧ vs[j]? = some cs ∧ A cs) ∨ (KeyNo key ks ∧ B)
section
variable {X : Cx} {d : Option Nat} {ty : TypeId} {pos : String} {aft : Array Edge} {g : Option (Nat × Bool)} {t : T} {σ : Sg} {K : AV → Prop} {F : Prop}
theorem O.lookNo {mt kt et : TypeId} {x y : Operand} {ok : Bool} {av : AV} {ag : Bool} {ks : List Value} {vs : List (List D)} {key z : Value} (hu : X.P.underlying mt = some (.map kt et)) (hx : ge t x = some av) (hm : mapOf σ av = some (ag, ks, vs))
    (hy : ge t y = some (.d (.v key))) (hk : keyOk X.P kt key = true) (hz : zeroOf X.P et = some z) (hr : KeyNo key ks) : QJ X ⟨d, .lookup mt x y ok, ty, pos, aft, g⟩ t σ (wrapOk ok false (ofConst z)) :=
  QJ.value (by simp) (fun γ H a w so sm => by
    have e2 := rep_v (so y (by simp [Op.operands]) _ hy)
    obtain ⟨es, us, h1, h2⟩ := mapOf_rep sm hm (so x (by simp [Op.operands]) _ hx)
    have := lookup_no (w := w) (ok := ok) hu h1 hk hz (by rw [h2.keys]; exact hr)
    exact ⟨_, by simp only [execOp, Sem.run_bind, e2, this, Result.andThen_ok, Sem.run_pure], wrapOk_rep (rep_const γ H z)⟩)
theorem O.lookIs {mt kt et : TypeId} {x y : Operand} {ok : Bool} {av : AV} {ag : Bool} {ks : List Value} {vs : List (List D)} {key : Value} {j : Nat} {cs : List D} (hu : X.P.underlying mt = some (.map kt et)) (hx : ge t x = some av) (hm : mapOf σ av = some (ag, ks, vs))
    (hy : ge t y = some (.d (.v key))) (hk : keyOk X.P kt key = true) (hr : KeyIs key ks j) (hc : vs[j]? = some cs) : QJ X ⟨d, .lookup mt x y ok, ty, pos, aft, g⟩ t σ (wrapOk ok true (valAV ag cs)) :=
  QJ.value (by simp) (fun γ H a w so sm => by
    have e2 := rep_v (so y (by simp [Op.operands]) _ hy)
    obtain ⟨es, us, h1, h2⟩ := mapOf_rep sm hm (so x (by simp [Op.operands]) _ hx)
    have hj : j < es.size := by rw [h2.l, ← h2.l2]; exact (List.getElem?_eq_some_iff.1 hc).1
    have he : es[j]? = some es[j] := by simp [hj]
    have := lookup_is (w := w) (ok := ok) (e := es[j]) hu h1 hk (by rw [h2.keys]; exact hr) (by simp [hj])
    refine ⟨if ok = true then .tuple #[es[j].val, .bool true] else es[j].val, by simp only [execOp, Sem.run_bind, e2, this, Result.andThen_ok, Sem.run_pure], wrapOk_rep ?_⟩
    rw [(h2.k j _ he).2]
    exact valAV_rep (h2.u j cs hc) fun i a u ha hu => h2.r j i cs a u hc ha hu)
def qLook (X : Cx) (mt : TypeId) (x y : Operand) (ok : Bool) (t : T) (σ : Sg) (K : AV → Prop) (F : Prop) : Prop := match und X.P mt, ge t x, ge t y with
  | some (.map kt et), some av, some (.d (.v key)) => (match mapOf σ av, keyOk X.P kt key, zeroOf X.P et with
    | some (ag, ks, vs), true, some z => LookP key ks vs (fun cs => K (wrapOk ok true (valAV ag cs))) (K (wrapOk ok false (ofConst z)))
    | _, _, _ => F)
  | _, _, _ => F
theorem qLook_sound {mt : TypeId} {x y : Operand} {ok : Bool} (h : qLook X mt x y ok t σ K F) : Yields X ⟨d, .lookup mt x y ok, ty, pos, aft, g⟩ t σ K F := by
  simp only [qLook, und_eq] at h
  split at h
  · next kt et av key hu hx hy =>
    split at h
    · next ag ks vs z hm hk hz =>
      rcases h with ⟨j, cs, h1, h2, h3⟩ | ⟨h1, h2⟩
      · exact .inl ⟨_, O.lookIs hu hx hm hy hk h1 h2, h3⟩
      · exact .inl ⟨_, O.lookNo hu hx hm hy hk hz h1, h2⟩
    · exact .inr h
  · exact .inr h
end

/-! ### Maps by whole numbers, and by texts -/
def alook {κ α : Type} [DecidableEq κ] (n : κ) : List (κ × α) → Option α
  | [] => none
  | p :: m => if n = p.1 then some p.2 else alook n m
def aset {κ α : Type} [DecidableEq κ] (n : κ) (x : α) : List (κ × α) → List (κ × α)
  | [] => [(n, x)]
  | p :: m => if n = p.1 then (n, x) :: m else p :: aset n x m
theorem alook_aset {κ α : Type} [DecidableEq κ] (n k : κ) (x : α) : ∀ m : List (κ × α), alook k (aset n x m) = if k = n then some x else alook k m
  | [] => by simp [aset, alook]
  | p :: m => by
    simp only [aset]
    by_cases h : n = p.1
    · rw [if_pos h]; simp only [alook]; by_cases h2 : k = n
      · rw [if_pos h2, if_pos h2]
      · rw [if_neg h2, if_neg h2, if_neg (fun e => h2 (e.trans h.symm))]
    · rw [if_neg h]; simp only [alook, alook_aset n k x m]
      by_cases h2 : k = p.1
      · rw [if_pos h2, if_neg (fun e => h (e.symm.trans h2)), if_pos h2]
      · rw [if_neg h2, if_neg h2]
theorem alook_is {κ α : Type} [DecidableEq κ] {n : κ} : ∀ {m : List (κ × α)} {x : α}, alook n m = some x → ∃ j, m[j]? = some (n, x) ∧ ∀ (i : Nat) (p : κ × α), i < j → m[i]? = some p → n ≠ p.1
  | [], x, h => by simp [alook] at h
  | p :: m, x, h => by
    simp only [alook] at h
    by_cases e : n = p.1
    · rw [if_pos e] at h
      simp only [Option.some.injEq] at h
      exact ⟨0, by subst h; subst e; simp, fun i p hi => by omega⟩
    · rw [if_neg e] at h
      obtain ⟨j, h1, h2⟩ := alook_is h
      refine ⟨j + 1, by simpa using h1, fun i q hi hq => ?_⟩
      cases i with
      | zero => simp at hq; subst hq; exact e
      | succ i => exact h2 i q (by omega) (by simpa using hq)
theorem alook_no {κ α : Type} [DecidableEq κ] {n : κ} : ∀ {m : List (κ × α)}, alook n m = none → ∀ p, p ∈ m → n ≠ p.1
  | [], _, p, hp => by simp at hp
  | q :: m, h, p, hp => by
    simp only [alook] at h
    split at h
    · cases h
    · next e =>
      rcases List.mem_cons.1 hp with rfl | h1
      · exact e
      · exact alook_no h p h1
theorem aset_is {κ α : Type} [DecidableEq κ] {n : κ} {x : α} : ∀ {m : List (κ × α)} {j : Nat} {y : α}, m[j]? = some (n, y) → (∀ (i : Nat) (p : κ × α), i < j → m[i]? = some p → n ≠ p.1) → aset n x m = m.set j (n, x)
  | [], j, y, h, _ => by simp at h
  | p :: m, 0, y, h, _ => by simp at h; subst h; simp [aset]
  | p :: m, j + 1, y, h, hn => by
    have := hn 0 p (by omega) (by simp)
    simp only [aset, if_neg this, List.set_cons_succ]
    rw [aset_is (by simpa using h) fun i q hi hq => hn (i + 1) q (by omega) (by simpa using hq)]
theorem aset_no {κ α : Type} [DecidableEq κ] {n : κ} {x : α} : ∀ {m : List (κ × α)}, (∀ p, p ∈ m → n ≠ p.1) → aset n x m = m ++ [(n, x)]
  | [], _ => rfl
  | p :: m, h => by
    simp only [aset, if_neg (h p (by simp)), List.cons_append]
    rw [aset_no fun q hq => h q (List.mem_cons_of_mem _ hq)]
/-- Keys as values. -/
structure KV (κ : Type) [DecidableEq κ] where
  val : κ → Value
  cmp : ∀ a b : κ, cmpK (val a) (val b) = some (decide (a = b))
def kInt : KV Int := ⟨.int .i64, fun _ _ => rfl⟩
theorem keyNo_of {κ α : Type} [DecidableEq κ] (kv : KV κ) {n : κ} {m : List (κ × α)} (h : ∀ p, p ∈ m → n ≠ p.1) : KeyNo (kv.val n) (m.map fun p => kv.val p.1) := fun i x hx => by
  simp only [List.getElem?_map, Option.map_eq_some_iff] at hx
  obtain ⟨p, hp, rfl⟩ := hx
  rw [kv.cmp, decide_eq_false (h p (mem_of_get hp))]
theorem keyIs_of {κ α : Type} [DecidableEq κ] (kv : KV κ) {n : κ} {m : List (κ × α)} {j : Nat} {x : α} (h : m[j]? = some (n, x)) (hn : ∀ (i : Nat) (p : κ × α), i < j → m[i]? = some p → n ≠ p.1) : KeyIs (kv.val n) (m.map fun p => kv.val p.1) j :=
  ⟨⟨kv.val n, by simp [h], by rw [kv.cmp, decide_eq_true rfl]⟩, fun i x hi hx => by
    simp only [List.getElem?_map, Option.map_eq_some_iff] at hx
    obtain ⟨p, hp, rfl⟩ := hx
    rw [kv.cmp, decide_eq_false (hn i p hi hp)]⟩
/-- What is looked up in a map that is told as a list. -/
theorem LookP.by {κ α : Type} [DecidableEq κ] (kv : KV κ) {n : κ} (m : List (κ × α)) {e : α → List D} {A : List D → Prop} {B : Prop} (hs : ∀ x, alook n m = some x → A (e x)) (hn : alook n m = none → B) :
    LookP (kv.val n) (m.map fun p => kv.val p.1) (m.map fun p => e p.2) A B := by
  cases h : alook n m with
  | some x =>
    obtain ⟨j, h1, h2⟩ := alook_is h
    exact .inl ⟨j, e x, keyIs_of kv h1 h2, by simp [h1], hs x h⟩
  | none => exact .inr ⟨keyNo_of kv (alook_no h), hn h⟩

/-! ### Maps that are written -/
theorem mapUpd_no {P : Program} {w : World} {mt kt et : TypeId} {b : Nat} {es : Array MapEntry} {clock : Nat} {key v : Value} (hu : P.underlying mt = some (.map kt et)) (hb : w.heap[b]? = some (.map es clock)) (hk : keyOk P kt key = true) (hr : KeyNo key (es.toList.map (·.key))) :
    (Instr.mapUpdate mt (.map (some b)) key v).run P w = .ok () (w.putObj b (.map (es.push { key, val := v, born := clock }) (clock + 1))) := by
  have h1 := findKey_no (P := P) (w := w) hk hr
  have h2 := checkKey_run (P := P) (em := false) (n := 9999) (w := w) hk
  have hg : (getObj b).run P w = .ok (.map es clock) w := by simp [getObj, Sem.run, hb]
  have hs : ∀ o, (setObj b o).run P w = .ok () (w.putObj b o) := fun o => by simp [setObj, Sem.run, hb, World.putObj]
  simp only [Instr.mapUpdate, Sem.run_bind, run_underlying hu, Result.andThen_ok, hg, h2, h1, hs]
theorem mapUpd_is {P : Program} {w : World} {mt kt et : TypeId} {b : Nat} {es : Array MapEntry} {clock : Nat} {key v : Value} {j : Nat} {e : MapEntry} (hu : P.underlying mt = some (.map kt et)) (hb : w.heap[b]? = some (.map es clock)) (hk : keyOk P kt key = true) (hr : KeyIs key (es.toList.map (·.key)) j) (hj : es[j]? = some e) :
    (Instr.mapUpdate mt (.map (some b)) key v).run P w = .ok () (w.putObj b (.map (es.modify j fun e => { e with key := key, val := v }) clock)) := by
  have h1 := findKey_is (P := P) (w := w) hk hr (e := e) (by simpa using hj)
  have h2 := checkKey_run (P := P) (em := false) (n := 9999) (w := w) hk
  have hg : (getObj b).run P w = .ok (.map es clock) w := by simp [getObj, Sem.run, hb]
  have hs : ∀ o, (setObj b o).run P w = .ok () (w.putObj b o) := fun o => by simp [setObj, Sem.run, hb, World.putObj]
  have hc : cmpK key e.key = some true := by
    obtain ⟨⟨x, hx, hc⟩, _⟩ := hr
    simp only [List.getElem?_map, Array.getElem?_toList, hj, Option.map_some, Option.some.injEq] at hx
    rw [hx]; exact hc
  have h3 := (cmp_bits (n := 9999) hc).1
  simp only [Instr.mapUpdate, Sem.run_bind, run_underlying hu, Result.andThen_ok, hg, h2, h1, hj, Option.map_some, Option.getD_some, Instr.keyThatStays, h3, if_true, Sem.run_pure, hs]
/-- What is written into a map. -/
def PutP (key : Value) (ks : List Value) (vs : List (List D)) (ds : List D) (K : List Value → List (List D) → Prop) : Prop := (∃ j, KeyIs key ks j ∧ K ks (vs.set j ds)) ∨ (KeyNo key ks ∧ K (ks ++ [key]) (vs ++ [ds]))
def agAV : AV → Bool
  | .agg _ => true
  | _ => false
theorem agAV_val {γ : Ids} {H : HF} {a : AV} {u : Value} {ds : List D} (r : Rep γ H a u) (h1 : oneAV a = true) (hd : dAll (avCells a) = some ds) : ∃ us : List Value, u = valAg (agAV a) us ∧ us.length = ds.length ∧ ∀ (i : Nat) (x : D) (v : Value), ds[i]? = some x → us[i]? = some v → RepD H x v := by
  cases r with
  | agg cs us hl hr =>
    obtain ⟨h2, h3⟩ := dAll_get hd
    refine ⟨us, rfl, by rw [hl, h2]; rfl, fun i x v hx hv => ?_⟩
    obtain ⟨a, ha, hx'⟩ := h3 i x hx
    exact dOf_sound hx' (hr i a v ha hv)
  | d x u hr =>
    refine ⟨[u], rfl, by cases hd; rfl, fun i y v hy hv => ?_⟩
    cases hd
    cases i with
    | zero => simp at hy hv; subst hy; subst hv; exact hr
    | succ i => simp at hy
  | full k xs A hr =>
    refine ⟨[_], rfl, by cases hd; rfl, fun i y v hy hv => ?_⟩
    cases hd
    cases i with
    | zero => simp at hy hv; subst hy; subst hv; exact hr
    | succ i => simp at hy
  | _ => simp [avCells, dAll, dOf] at hd
section
variable {X : Cx} {d : Option Nat} {ty : TypeId} {pos : String} {aft : Array Edge} {g : Option (Nat × Bool)} {t : T} {σ : Sg} {K : T → Sg → Prop} {F : Prop}
theorem map_put {γ : Ids} {H : HF} {a : Act} {w : World} {i : Nat} {ag : Bool} {ks : List Value} {vs : List (List D)} {mt kt et : TypeId} {key v : Value} {us : List Value} {ds : List D} (s : St X γ H t σ a w) (hi : look i σ = some (.mp ag ks vs)) (hu : X.P.underlying mt = some (.map kt et))
    (hk : keyOk X.P kt key = true) (hv : v = valAg ag us) (hl : us.length = ds.length) (hr : ∀ (i : Nat) (x : D) (v : Value), ds[i]? = some x → us[i]? = some v → RepD H x v) {R : List Value → List (List D) → Prop} (hp : PutP key ks vs ds R) :
    ∃ w' ks' vs', (Instr.mapUpdate mt (.map (some (γ i).b)) key v).run X.P w = .ok () w' ∧ R ks' vs' ∧ ∀ (dd : Option Nat) (u : Value), dOk dd X.N = true → St X γ H (putT dd .junk t) ((i, .mp ag ks' vs') :: σ) (a.put dd u) w' := by
  obtain ⟨es, clock, f, hb, hm⟩ := s.mem.ent i _ hi
  have hlt := lt_of_heap hb
  have turn : ∀ (o : Obj) ks' vs', EntOk γ H (w.putObj (γ i).b o) i (.mp ag ks' vs') → ∀ (dd : Option Nat) (u : Value), dOk dd X.N = true → St X γ H (putT dd .junk t) ((i, .mp ag ks' vs') :: σ) (a.put dd u) (w.putObj (γ i).b o) := fun o ks' vs' he dd u hN =>
    s.turn hi rfl (s.mem.turn (w' := w.putObj (γ i).b o) (e' := .mp ag ks' vs') hi rfl ⟨rfl, rfl, rfl, by simp, fun k hk => World.putObj_heap_other hk⟩ he fun b hb => hb) hN (.junk _)
  rcases hp with ⟨j, h1, h2⟩ | ⟨h1, h2⟩
  · have hj : j < es.size := by
      obtain ⟨⟨x, hx, _⟩, _⟩ := h1
      rw [hm.l]; exact (List.getElem?_eq_some_iff.1 hx).1
    have he : es[j]? = some es[j] := by simp [hj]
    have hkj : key = es[j].key := by
      obtain ⟨⟨x, hx, hc⟩, _⟩ := h1
      have := (hm.k j _ he).1
      rw [this] at hx
      cases hx; exact (cmp_bits (n := 0) hc).2
    refine ⟨_, ks, vs.set j ds, mapUpd_is (v := v) hu hb hk (by rw [hm.keys]; exact h1) he, h2, turn _ _ _ ⟨_, clock, fun l => if l = j then us else f l, World.putObj_heap_same hlt, ?_⟩⟩
    refine ⟨by simp [hm.l], by simp [hm.l2], fun l e hl' => ?_, fun l cs hl' => ?_, fun l m cs x u hc ha hu' => ?_⟩
    · rw [Array.getElem?_modify] at hl'
      by_cases hlj : j = l
      · rw [if_pos hlj] at hl'
        subst hlj
        rw [he] at hl'
        simp only [Option.map_some, Option.some.injEq] at hl'
        subst hl'
        simp only [if_pos]
        exact ⟨by rw [hkj]; exact (hm.k j _ he).1, hv⟩
      · rw [if_neg hlj] at hl'
        have := hm.k l e (by simpa using hl')
        rw [if_neg (fun e => hlj e.symm)]; exact this
    · rw [List.getElem?_set] at hl'
      by_cases hlj : j = l
      · subst hlj
        rw [if_pos rfl] at hl'
        split at hl'
        · cases hl'; simp only [if_pos]; exact hl
        · cases hl'
      · rw [if_neg hlj] at hl'
        rw [if_neg (fun e => hlj e.symm)]; exact hm.u l cs hl'
    · rw [List.getElem?_set] at hc
      by_cases hlj : j = l
      · subst hlj
        rw [if_pos rfl] at hc
        simp only [if_pos] at hu'
        split at hc
        · cases hc; exact hr m x u ha hu'
        · cases hc
      · rw [if_neg hlj] at hc
        rw [if_neg (fun e => hlj e.symm)] at hu'
        exact hm.r l m cs x u hc ha hu'
  · refine ⟨_, ks ++ [key], vs ++ [ds], mapUpd_no (v := v) hu hb hk (by rw [hm.keys]; exact h1), h2, turn _ _ _ ⟨_, clock + 1, fun l => if l = es.size then us else f l, World.putObj_heap_same hlt, ?_⟩⟩
    have hl1 : vs.length = es.size := by rw [hm.l2, hm.l]
    refine ⟨by simp [hm.l], by simp [hm.l2], fun l e hl' => ?_, fun l cs hl' => ?_, fun l m cs x u hc ha hu' => ?_⟩
    · rw [Array.getElem?_push] at hl'
      by_cases hlj : l = es.size
      · rw [if_pos hlj] at hl'
        cases hl'
        subst hlj
        simp only [if_pos]
        exact ⟨by rw [hm.l, List.getElem?_append_right (Nat.le_refl _)]; simp, hv⟩
      · rw [if_neg hlj] at hl'
        have hlt' : l < es.size := (Array.getElem?_eq_some_iff.1 hl').1
        rw [if_neg hlj, List.getElem?_append_left (by rw [← hm.l]; exact hlt')]
        exact hm.k l e hl'
    · by_cases hlj : l = es.size
      · subst hlj
        rw [List.getElem?_append_right (by omega), hl1] at hl'
        simp at hl'; subst hl'
        simp only [if_pos]; exact hl
      · have hlt' : l < vs.length := by
          have := (List.getElem?_eq_some_iff.1 hl').1
          simp at this; omega
        rw [List.getElem?_append_left hlt'] at hl'
        rw [if_neg hlj]; exact hm.u l cs hl'
    · by_cases hlj : l = es.size
      · subst hlj
        rw [List.getElem?_append_right (by omega), hl1] at hc
        simp at hc; subst hc
        simp only [if_pos] at hu'
        exact hr m x u ha hu'
      · have hlt' : l < vs.length := by
          have := (List.getElem?_eq_some_iff.1 hc).1
          simp at this; omega
        rw [List.getElem?_append_left hlt'] at hc
        rw [if_neg hlj] at hu'
        exact hm.r l m cs x u hc ha hu'
def eMapPut (X : Cx) (d : Option Nat) (mt : TypeId) (x y z : Operand) (t : T) (σ : Sg) (K : T → Sg → Prop) (F : Prop) : Prop := match und X.P mt, ge t x, ge t y, ge t z with
  | some (.map kt et), some (.mp i), some (.d (.v key)), some av => (match look i σ, dAll (avCells av) with
    | some (.mp ag ks vs), some ds => (match keyOk X.P kt key && (agAV av == ag) && oneAV av && dOk d X.N with
      | true => PutP key ks vs ds fun ks' vs' => K (putT d .junk t) ((i, .mp ag ks' vs') :: σ)
      | false => F)
    | _, _ => F)
  | _, _, _, _ => F
theorem eMapPut_run {mt : TypeId} {x y z : Operand} {op : Op} (hop : ∀ ρ : Operand → Value, execOp ρ ⟨d, op, ty, pos, aft, g⟩ = execOp ρ ⟨d, .mapUpdate mt x y z, ty, pos, aft, g⟩) (hnd : ∀ c, op ≠ .defer c) (h : eMapPut X d mt x y z t σ K (OpJ X ⟨d, op, ty, pos, aft, g⟩ t σ K)) : OpJ X ⟨d, op, ty, pos, aft, g⟩ t σ K := by
  simp only [eMapPut, und_eq] at h
  split at h
  · next kt et i key av hu hx hy hz =>
    split at h
    · next ag ks vs ds hi hd =>
      split at h
      · next hb =>
        simp only [Bool.and_eq_true, beq_iff_eq] at hb
        obtain ⟨⟨⟨h1, h2⟩, h3⟩, h4⟩ := hb
        intro γ H a w s next Q' hk
        have r1 := ge_sound s.tmp hx
        have r2 := rep_v (ge_sound s.tmp hy)
        obtain ⟨us, e3, h5, h6⟩ := agAV_val (ge_sound s.tmp hz) h3 hd
        generalize hq : a.eval x = q at r1
        cases r1 with
        | mp _ =>
        obtain ⟨w', ks', vs', hw, hR, hst⟩ := map_put (v := a.eval z) s hi hu h1 (by rw [← h2]; exact e3) h5 h6 h
        have hrun : (execOp a.eval ⟨d, op, ty, pos, aft, g⟩).run X.P w = .ok .skip w' := by
          rw [hop]
          simp only [execOp, hq, r2, Sem.run_bind, hw, Result.andThen_ok, Sem.run_pure]
        rw [semAt_of hnd, hrun, Oper.uponIn_skip]
        exact hk γ H _ _ _ w' (hst d undef h4) hR
      · exact h
    · exact h
  · exact h
theorem O.makeMap {i : Nat} {mt : TypeId} {ag : Bool} (hN : dOk (some i) X.N = true) (hf : isFresh i t σ X.pin = true) (k : K ((i, .mp i) :: t) ((i, .mp ag [] []) :: σ)) : OpJ X ⟨some i, .makeMap mt none, ty, pos, aft, g⟩ t σ K := by
  intro γ H a w s next Q' hk
  have hrun : (execOp a.eval ⟨some i, .makeMap mt none, ty, pos, aft, g⟩).run X.P w = .ok (.value (.map (some w.heap.size))) (w.alloc (.map #[] 0)) := by
    simp [execOp, run_makeMap]
  rw [semAt_of (by simp), hrun, Oper.uponIn_value]
  have hm := s.mem.new i (.mp ag [] []) (.map #[] 0) 0 (by
    refine ⟨#[], 0, fun _ => [], ?_, ⟨rfl, rfl, fun j e h => by simp at h, fun j cs h => by simp at h, fun j i cs a u h => by simp at h⟩⟩
    rw [upd_same]; exact World.alloc_heap_new w _) (fun _ _ h => by cases h)
  refine hk _ H _ _ _ _ (s.new (d := some i) (V := .mp i) hm hf hN ?_) k
  have := Rep.mp (γ := upd γ i ⟨w.heap.size, 0, fun _ => False⟩) (H := H) i
  rw [upd_same] at this; exact this
def eMakeMap (X : Cx) (i : Nat) (mt : TypeId) (t : T) (σ : Sg) (K : T → Sg → Prop) (F : Prop) : Prop := match und X.P mt with
  | some (.map _ et) => (match aggOf X.P et with
    | some ag => (match isFresh i t σ X.pin && dOk (some i) X.N with
      | true => K ((i, .mp i) :: t) ((i, .mp ag [] []) :: σ)
      | false => F)
    | none => F)
  | _ => F
theorem eMakeMap_sound {i : Nat} {mt : TypeId} (h : eMakeMap X i mt t σ K (OpJ X ⟨some i, .makeMap mt none, ty, pos, aft, g⟩ t σ K)) : OpJ X ⟨some i, .makeMap mt none, ty, pos, aft, g⟩ t σ K := by
  simp only [eMakeMap, und_eq] at h
  split at h
  · split at h
    · split at h
      · next hb => simp only [Bool.and_eq_true] at hb; exact O.makeMap hb.2 hb.1 h
      · exact h
    · exact h
  · exact h
end
/-- What is written into a map that is told as a list. -/
theorem PutP.by {κ α : Type} [DecidableEq κ] (kv : KV κ) {n : κ} (m : List (κ × α)) {e : α → List D} (x : α) {K : List Value → List (List D) → Prop} (h : K ((aset n x m).map fun p => kv.val p.1) ((aset n x m).map fun p => e p.2)) :
    PutP (kv.val n) (m.map fun p => kv.val p.1) (m.map fun p => e p.2) (e x) K := by
  cases hl : alook n m with
  | some y =>
    obtain ⟨j, h1, h2⟩ := alook_is hl
    refine .inl ⟨j, keyIs_of kv h1 h2, ?_⟩
    rw [aset_is h1 h2, List.map_set, List.map_set] at h
    have : (m.map fun p => kv.val p.1).set j (kv.val n) = m.map fun p => kv.val p.1 := by
      apply List.ext_getElem?
      intro l
      rw [List.getElem?_set]
      split
      · next e => subst e; rw [if_pos (by simp; exact (List.getElem?_eq_some_iff.1 h1).1), List.getElem?_map, h1]; rfl
      · rfl
    rw [this] at h; exact h
  | none =>
    have h1 := alook_no hl
    refine .inr ⟨keyNo_of kv h1, ?_⟩
    rw [aset_no h1, List.map_append, List.map_append] at h
    exact h
end Go.Gv
end
section
namespace Go.Gv
open Go.RowKit

/-! ### Literals -/
def chunkL (k : Nat) : Nat → List D → List (List D)
  | 0, _ => []
  | n + 1, ds => ds.take k :: chunkL k n (ds.drop k)
theorem chunkL_eq (k : Nat) : ∀ (n : Nat) (ds : List D), chunkL k n ds = chunk k n ds
  | 0, ds => by simp [chunkL, chunk]
  | n + 1, ds => by
    rw [chunkL, chunkL_eq k n]
    simp only [chunk]
    rw [List.range_succ_eq_map]
    simp only [List.map_cons, List.map_map, Nat.zero_mul, List.drop_zero, List.cons.injEq, true_and]
    refine List.map_congr_left fun j _ => ?_
    simp only [Function.comp, List.drop_drop, Nat.succ_eq_add_one]
    rw [Nat.add_mul, Nat.one_mul, Nat.add_comm]
def cellsP (P : Program) (t : TypeId) : Nat := match inf P t with | some i => i.size | none => 0
theorem cellsP_eq (P : Program) (t : TypeId) : cellsP P t = P.cellsOf t := by
  unfold cellsP Program.cellsOf; rw [inf_eq]; cases P.info? t <;> rfl
def placeS (fs : List Field) (P : Program) (i : Nat) : Option (Nat × Nat) := match fs[i]? with
  | some f => some (f.offset, cellsP P f.type)
  | none => none
theorem placeS_eq (fs : List Field) (P : Program) (i : Nat) : (fs.map fun f => (f.offset, P.cellsOf f.type))[i]? = placeS fs P i := by
  unfold placeS
  rw [List.getElem?_map]
  cases fs[i]? <;> simp [cellsP_eq]
def infoAll (P : Program) : List Field → Bool
  | [] => true
  | f :: r => isSomeB (inf P f.type) && infoAll P r
theorem infoAll_eq {P : Program} : ∀ {fs : List Field}, infoAll P fs = true → (fs.all fun f => (P.info? f.type).isSome) = true
  | [], _ => rfl
  | f :: r, h => by
    simp only [infoAll, inf_eq, Bool.and_eq_true] at h
    simp only [List.all_cons, Bool.and_eq_true]
    refine ⟨?_, infoAll_eq h.2⟩
    cases hx : P.info? f.type with
    | none => rw [hx] at h; simp [isSomeB] at h
    | some i => rfl

section
variable {X : Cx} {d : Option Nat} {ty : TypeId} {pos : String} {aft : Array Edge} {g : Option (Nat × Bool)} {t : T} {σ : Sg} {K : AV → Prop} {F : Prop}
/-- An array's literal. -/
theorem O.buildA {s el : TypeId} {n k : Nat} {parts : Array (Nat × Operand)} {z : Value} {ps : List (Nat × AV)} {cs : List AV} (hp : geParts t parts.toList = some ps) (hu : X.P.underlying s = some (.array n el))
    (hzv : ∀ w, (zeroValue s).run X.P w = .ok z w) (hs : ∀ w, (sizeOf el).run X.P w = .ok k w)
    (hf : fillAV (fun i => some (i * k, k)) (z.cells.toList.map cellAV) ps = some cs) : QJ X ⟨d, .build s parts, ty, pos, aft, g⟩ t σ (.agg cs) :=
  QJ.value (by simp) (fun γ H a w so sm => by
    obtain ⟨h1, h2⟩ := geParts_sound (t := t) (l := parts.toList) (fun x hx => so x (by simp [Op.operands] at hx ⊢; exact hx)) hp
    obtain ⟨us', e1, e2, e3⟩ := fill_sound (γ := γ) (H := H) ps _ (z.cells.toList.map cellAV) z.cells.toList (by simp) (fun j x y hx hy => by
      simp only [List.getElem?_map, hy, Option.map_some, Option.some.injEq] at hx
      subst hx; exact rep_cellAV y) h1 h2 hf
    simp only [Array.toArray_toList] at e1
    refine ⟨.agg us'.toArray, ?_, .agg _ _ e2 e3⟩
    have e : parts.map (fun (i, x) => (i, a.eval x)) = (parts.toList.map fun p => (p.1, a.eval p.2)).toArray := by
      apply Array.toList_inj.1; simp
    simp only [execOp, Sem.run_bind, e, Instr.build, hzv, Result.andThen_ok, run_underlying hu, hs]
    simp only [e1, Sem.run_pure, Result.andThen_ok])

def qBuild (X : Cx) (s : TypeId) (parts : Array (Nat × Operand)) (t : T) (K : AV → Prop) (F : Prop) : Prop :=
  match und X.P s, zeroOf X.P s, geParts t parts.toList with
  | some (.struct fs), some z, some ps => (match infoAll X.P fs.toList, fillAV (placeS fs.toList X.P) (z.cells.toList.map cellAV) ps with
    | true, some cs => K (.agg cs)
    | _, _ => F)
  | some (.array _ el), some z, some ps => (match szOf X.P el with
    | some k => (match fillAV (fun i => some (i * k, k)) (z.cells.toList.map cellAV) ps with
      | some cs => K (.agg cs)
      | none => F)
    | none => F)
  | _, _, _ => F
theorem qBuild_sound {s : TypeId} {parts : Array (Nat × Operand)} (h : qBuild X s parts t K F) : Yields X ⟨d, .build s parts, ty, pos, aft, g⟩ t σ K F := by
  simp only [qBuild, und_eq] at h
  split at h
  · next fs z ps hu hz hp =>
    split at h
    · next cs hi hf =>
      refine .inl ⟨_, O.build hp hu (zeroOf_run hz) (infoAll_eq hi) ?_, h⟩
      have : (fun i => (fs.toList.map fun f => (f.offset, X.P.cellsOf f.type))[i]?) = placeS fs.toList X.P := funext fun i => placeS_eq _ _ _
      rw [this]; exact hf
    · exact .inr h
  · next n el z ps hu hz hp =>
    split at h
    · next k hs =>
      split at h
      · next cs hf => exact .inl ⟨_, O.buildA hp hu (zeroOf_run hz) (szOf_run hs) hf, h⟩
      · exact .inr h
    · exact .inr h
  · exact .inr h

def qBuildSlice (X : Cx) (st : TypeId) (len : Nat) (parts : Array (Nat × Operand)) (t : T) (K : AV → Prop) (F : Prop) : Prop :=
  match und X.P st with
  | some (.slice el) => (match szOf X.P el, zeroOf X.P el, geParts t parts.toList with
    | some k, some z, some ps => (match Nat.ble (len * k) 16777216 && Nat.ble len 16777216, fillAV (fun i => some (i * k, k)) (zeroAV z.cells.toList (len * k)) ps with
      | true, some cs => (match dAll cs with
        | some ds => (match Nat.beq ds.length (len * k) with
          | true => K (.full k (chunkL k len ds))
          | false => F)
        | none => F)
      | _, _ => F)
    | _, _, _ => F)
  | _ => F
theorem qBuildSlice_sound {st : TypeId} {len : Nat} {parts : Array (Nat × Operand)} (h : qBuildSlice X st len parts t K F) : Yields X ⟨d, .buildSlice st len parts, ty, pos, aft, g⟩ t σ K F := by
  simp only [qBuildSlice, und_eq] at h
  split at h
  · next el hu =>
    split at h
    · next k z ps hs hz hp =>
      split at h
      · next cs hb hf =>
        split at h
        · next ds hd =>
          split at h
          · next hl =>
            simp only [Bool.and_eq_true, Nat.ble_eq] at hb
            rw [chunkL_eq] at h
            exact .inl ⟨_, O.mkD hp hu (szOf_run hs) (zeroOf_run hz) hb.1 hb.2 hf hd (Nat.eq_of_beq_eq_true hl), h⟩
          · exact .inr h
        · exact .inr h
      · exact .inr h
    · exact .inr h
  · exact .inr h

/-- Quiet operations, literals too. -/
def qw (X : Cx) (o : Oper) (t : T) (σ : Sg) (K : AV → Prop) (F : Prop) : Prop := match o.op with
  | .build s parts => qBuild X s parts t K F
  | .buildSlice st len parts => qBuildSlice X st len parts t K F
  | .lookup mt x y ok => qLook X mt x y ok t σ K F
  | _ => qv X o t σ K F
theorem qw_sound {o : Oper} (h : qw X o t σ K F) : Yields X o t σ K F := by
  unfold qw at h
  split at h
  · next e => obtain ⟨d, op, ty, pos, aft, g⟩ := o; simp only at e; subst e; exact qBuild_sound h
  · next e => obtain ⟨d, op, ty, pos, aft, g⟩ := o; simp only at e; subst e; exact qBuildSlice_sound h
  · next e => obtain ⟨d, op, ty, pos, aft, g⟩ := o; simp only at e; subst e; exact qLook_sound h
  · exact qv_sound h
end

/-! ### Operations that turn what is private -/
def StoreP (off n kk : Nat) (xs : List (List D)) (ds : List D) (K : List (List D) → Prop) : Prop := ∃ j l cs, off = j * kk + l ∧ xs[j]? = some cs ∧ l + n ≤ cs.length ∧ ds.length = n ∧ K (xs.set j (setL cs l ds))
theorem StoreP.of {off n kk : Nat} {xs : List (List D)} {ds : List D} {K : List (List D) → Prop} (j l : Nat) (cs : List D) (h : off = j * kk + l) (h1 : xs[j]? = some cs) (h2 : l + n ≤ cs.length) (h3 : ds.length = n) (k : K (xs.set j (setL cs l ds))) :
    StoreP off n kk xs ds K := ⟨j, l, cs, h, h1, h2, h3, k⟩

/-- A struct that first points to its own like, with one thing more: a strings.Builder. -/
def isBld (P : Program) (e : TypeId) : Bool := match und P e with
  | some (.struct ⟨[f, _]⟩) => (match und P f.type with
    | some (.pointer e') => Nat.beq e' e
    | _ => false)
  | _ => false

def eff (X : Cx) (o : Oper) (t : T) (σ : Sg) (K : T → Sg → Prop) : Prop := match o.op, o.dst with
  | .box _ x, some i => (match ge t x with
    | some av => (match oneAV av && isFresh i t σ X.pin && !(avCells av).any (has2 i) && dOk (some i) X.N with
      | true => K ((i, .box i 0) :: t) ((i, .cells (avCells av)) :: σ)
      | false => OpJ X o t σ K)
    | none => OpJ X o t σ K)
  | .alloc e, some i => (match zeroOf X.P e with
    | some z => (match oneAV (ofConst z) && isFresh i t σ X.pin && !(avCells (ofConst z)).any (has2 i) && dOk (some i) X.N && !isBld X.P e with
      | true => K ((i, .box i 0) :: t) ((i, .cells (avCells (ofConst z))) :: σ)
      | false => OpJ X o t σ K)
    | none => OpJ X o t σ K)
  | .store e x y, none => (match szOf X.P e, ge t x, ge t y with
    | some n, some (.box i off), some v => (match look i σ with
      | some (.cells cs) => (match oneAV v && oneAll (avCells v) && Nat.beq (avCells v).length n && Nat.ble (off + n) cs.length with
        | true => frcN (off + n) (setF cs off (avCells v)) fun cs' => K t ((i, .cells cs') :: σ)
        | false => OpJ X o t σ K)
      | _ => OpJ X o t σ K)
    | some n, some (.boxX i off), some v => (match look i σ with
      | some (.cells cs) => (match oneAV v && oneAll (avCells v) && Nat.beq (avCells v).length n with
        | true => Req (off + n ≤ cs.length) (K t ((i, .cells (setL cs off (avCells v))) :: σ))
        | false => OpJ X o t σ K)
      | some (.arr kk xs) => (match oneAV v, dAll (avCells v) with
        | true, some ds => StoreP off n kk xs ds fun ys => K t ((i, .arr kk ys) :: σ)
        | _, _ => OpJ X o t σ K)
      | _ => OpJ X o t σ K)
    | _, _, _ => OpJ X o t σ K)
  | .call ⟨.builtin .append, ⟨[x, y]⟩, ⟨[st, xt]⟩⟩, d => eApp X d x y st xt t σ K (OpJ X o t σ K)
  | .mapUpdate mt x y z, d => eMapPut X d mt x y z t σ K (OpJ X o t σ K)
  | .insert mt x y z, d => eMapPut X d mt x y z t σ K (OpJ X o t σ K)
  | .makeMap mt none, some i => eMakeMap X i mt t σ K (OpJ X o t σ K)
  | _, d => qw X o t σ (fun V => match dOk d X.N with | true => K (putT d V t) σ | false => False) (OpJ X o t σ K)

theorem eff_sound {X : Cx} {o : Oper} {t : T} {σ : Sg} {K : T → Sg → Prop} (h : eff X o t σ K) : OpJ X o t σ K := by
  obtain ⟨d, op, ty, pos, aft, g⟩ := o
  unfold eff at h
  simp only at h
  split at h
  · split at h
    · next av hx =>
      split at h
      · next hb =>
        simp only [Bool.and_eq_true, Bool.not_eq_true'] at hb
        exact O.box hb.2 hx hb.1.1.1 hb.1.1.2 hb.1.2 h
      · exact h
    · exact h
  · split at h
    · next z hz =>
      split at h
      · next hb =>
        simp only [Bool.and_eq_true, Bool.not_eq_true'] at hb
        exact O.alloc hb.1.2 (zeroOf_run hz) hb.1.1.1.1 hb.1.1.1.2 hb.1.1.2 h
      · exact h
    · exact h
  · split at h
    · next n i off v hs hx hy =>
      split at h
      · next cs hi =>
        split at h
        · next hb =>
          simp only [Bool.and_eq_true, Nat.ble_eq, Nat.beq_eq] at hb
          rw [frcN_eq, setF_eq] at h
          exact O.store hx rfl hy hi hb.1.1.1 hb.1.1.2 (szOf_run hs) hb.1.2 hb.2 rfl h
        · exact h
      · exact h
    · next n i off v hs hx hy =>
      split at h
      · next cs hi =>
        split at h
        · next hb =>
          simp only [Bool.and_eq_true, Nat.beq_eq] at hb
          exact O.store hx rfl hy hi hb.1.1 hb.1.2 (szOf_run hs) hb.2 h.1 rfl h.2
        · exact h
      · next kk xs hi =>
        split at h
        · next ds h1 hd =>
          obtain ⟨j, l, cs, h2, h3, h4, h5, h⟩ := h
          exact O.storeA hx rfl hy hi h1 hd h2 h3 (szOf_run hs) h5 h4 h
        · exact h
      · exact h
    · exact h
  · exact eApp_sound h
  · exact eMapPut_run (fun _ => rfl) (by simp) h
  · exact eMapPut_run (fun _ => rfl) (by simp) h
  · exact eMakeMap_sound h
  · rcases qw_sound h with ⟨V, hq, hk⟩ | h
    · split at hk
      · next hN => exact OpJ.quiet hq hN hk
      · exact hk.elim
    · exact h

/-! ### Regions -/
/-- A guard's two ways; what it came to is written down. -/
def grd (b0 : Bool) (b : Bool) (d : Nat) (t : T) (yes no : T → Prop) : Prop := match b0 with
  | true => Spl b (yes ((d, .d (.v (.bool true))) :: t)) (no ((d, .d (.v (.bool false))) :: t))
  | false => Spl b (no ((d, .d (.v (.bool true))) :: t)) (yes ((d, .d (.v (.bool false))) :: t))

def dstOf (all : Array Oper) (j : Nat) : Option Nat := match all[j]? with
  | some o => o.dst
  | none => none
theorem dstOf_eq (all : Array Oper) (j : Nat) : ((all[j]?).bind (·.dst)) = dstOf all j := by
  unfold dstOf; cases all[j]? <;> rfl

def vL (X : Cx) (all : Array Oper) : List Oper → T → Sg → (T → Sg → Prop) → Prop
  | [], t, σ, Q => Q t σ
  | o :: rest, t, σ, Q => match o.guard with
    | none => eff X o t σ fun t σ => vL X all rest t σ Q
    | some (j, b0) => match dstOf all j, dOk o.dst X.N with
      | some d, true => (match look d t with
        | some (.d (.v (.bool b))) => grd b0 b d t (fun t => eff X o t σ fun t σ => vL X all rest t σ Q) (fun t => vL X all rest (putT o.dst (.tup []) t) σ Q)
        | some (.tup []) => vL X all rest (putT o.dst (.tup []) t) σ Q
        | _ => False)
      | _, _ => False

theorem LJ.wk {X : Cx} {all : Array Oper} {k : Nat} {rest : List Oper} {t t' : T} {σ : Sg} {Q : T → Sg → Prop} (hw : Wk t' t) (h : LJ X all k rest t' σ Q) : LJ X all k rest t σ Q := LJ.shift (SJ.wk hw (Wk.refl _)) h

theorem vL_sound {X : Cx} {all : Array Oper} {Q : T → Sg → Prop} : ∀ (rest : List Oper) (k : Nat) (t : T) (σ : Sg), vL X all rest t σ Q → LJ X all k rest t σ Q
  | [], k, t, σ, h => LJ.done h
  | o :: rest, k, t, σ, h => by
    unfold vL at h
    split at h
    · next hg => exact LJ.op hg ((eff_sound h).mono fun t σ h => vL_sound rest (k + 1) t σ h)
    · next j b0 hg =>
      split at h
      · next d hd hN =>
        have hd' : ((all[j]?).bind (·.dst)) = some d := by rw [dstOf_eq]; exact hd
        split at h
        · next b hb =>
          have yes : ∀ c, b = c → eff X o ((d, .d (.v (.bool c))) :: t) σ (fun t σ => vL X all rest t σ Q) → c = b0 → LJ X all k (o :: rest) t σ Q := fun c hc he hcb => by
            subst hc; subst hcb
            refine LJ.wk (Wk.cons hb (Wk.refl t)) (LJ.guard hg hd' hN ?_)
            rw [look_cons, if_pos rfl]
            exact ⟨fun _ => (eff_sound he).mono fun t σ h => vL_sound rest (k + 1) t σ h, fun hne => absurd rfl hne⟩
          have no : ∀ c, b = c → vL X all rest (putT o.dst (.tup []) ((d, .d (.v (.bool c))) :: t)) σ Q → c ≠ b0 → LJ X all k (o :: rest) t σ Q := fun c hc he hcb => by
            subst hc
            refine LJ.wk (Wk.cons hb (Wk.refl t)) (LJ.guard hg hd' hN ?_)
            rw [look_cons, if_pos rfl]
            exact ⟨fun e => absurd e hcb, fun _ => vL_sound rest (k + 1) _ σ he⟩
          cases b0 with
          | true => cases b with
            | true => exact yes true rfl (h.1 rfl) rfl
            | false => exact no false rfl (h.2 rfl) (by simp)
          | false => cases b with
            | true => exact no true rfl (h.1 rfl) (by simp)
            | false => exact yes false rfl (h.2 rfl) rfl
        · next hb =>
          refine LJ.guard hg hd' hN ?_
          rw [hb]
          exact vL_sound rest (k + 1) _ σ h
        · exact h.elim
      · exact h.elim

/-! ### Regions that draw -/
/-- The birth of a variable. -/
def bornV (X : Cx) (o : Oper) (t : T) : Option (List AV) := match o.op with
  | .alloc e => (match zeroOf X.P e with
    | some z => (match oneAV (ofConst z) with | true => some (avCells (ofConst z)) | false => none)
    | none => none)
  | .box _ x => (match ge t x with
    | some av => (match oneAV av with | true => some (avCells av) | false => none)
    | none => none)
  | _ => none
theorem bornV_sound {X : Cx} {o : Oper} {t : T} {cs : List AV} (h : bornV X o t = some cs) : NewJ X o t cs := by
  obtain ⟨d, op, ty, pos, aft, g⟩ := o
  unfold bornV at h
  simp only at h
  split at h
  · next e =>
    split at h
    · next z hz =>
      split at h
      · next h1 =>
        cases h
        intro γ H a w so
        obtain ⟨us, hu, hl, hr⟩ := rep_cells (rep_const γ H z) h1
        refine ⟨us, e, ?_, hl, hr⟩
        rw [semAt_of (by simp)]
        simp [execOp, Instr.alloc, newVar, newRow, hu, zeroOf_run hz]
      · cases h
    · cases h
  · next e x =>
    split at h
    · next av hx =>
      split at h
      · next h1 =>
        cases h
        intro γ H a w so
        obtain ⟨us, hu, hl, hr⟩ := rep_cells (so x (by simp [Op.operands]) _ hx) h1
        refine ⟨us, e, ?_, hl, hr⟩
        rw [semAt_of (by simp)]
        simp [execOp, Instr.box, newVar, newRow, hu]
      · cases h
    · cases h
  · cases h

/-- An operation that the reckoning does not know: a quiet one, or the birth of a private thing. -/
inductive QuietP (X : Cx) (o : Oper) (t : T) (σ : Sg) (K : AV → Prop) (K2 : Nat → AV → Ent → Prop) : Prop where
  | of {V : AV} (h : QJ X o t σ V) (k : K V) : QuietP X o t σ K K2
  | born {id : Nat} {V : AV} {e : Ent} (h : BirthJ X o t σ id V e) (k : K2 id V e) : QuietP X o t σ K K2

def stepB (X : Cx) (o : Oper) (t : T) (σ bs : Sg) (K : T → Sg → Prop) : Prop := match bornV X o t, o.dst, o.guard with
  | some cs, some id, none => (match isFresh id t (bs ++ σ) X.pin && !cs.any (has2 id) && dOk (some id) X.N && bs.all (fun p => !entHas p.1 (.cells cs)) with
    | true => K ((id, .box id 0) :: t) ((id, .cells cs) :: bs)
    | false => False)
  | _, d, gd => qw X o t σ (fun V => match dOk d X.N && bs.all (fun p => !has2 p.1 V) with | true => K (putT d V t) bs | false => False)
      (QuietP X o t σ (fun V => match dOk d X.N && bs.all (fun p => !has2 p.1 V) with | true => K (putT d V t) bs | false => False)
        fun id V e => match d, gd with
          | some id', none => (match Nat.beq id id' && isFresh id t (bs ++ σ) X.pin && dOk (some id) X.N && bs.all (fun p => !entHas p.1 e) && bs.all (fun p => !has2 p.1 V) with
            | true => K ((id, V) :: t) ((id, e) :: bs)
            | false => False)
          | _, _ => False)

def vB (X : Cx) (all : Array Oper) (σ : Sg) (Q : T → Sg → Prop) : List Oper → T → Sg → Prop
  | [], t, bs => Q t (bs ++ σ)
  | o :: rest, t, bs => match o.guard with
    | none => stepB X o t σ bs fun t bs => vB X all σ Q rest t bs
    | some (j, b0) => match dstOf all j, dOk o.dst X.N with
      | some d, true => (match look d t with
        | some (.d (.v (.bool b))) => grd b0 b d t (fun t => stepB X o t σ bs fun t bs => vB X all σ Q rest t bs) (fun t => vB X all σ Q rest (putT o.dst (.tup []) t) bs)
        | some (.tup []) => vB X all σ Q rest (putT o.dst (.tup []) t) bs
        | _ => False)
      | _, _ => False

theorem CB.wk {X : Cx} {all : Array Oper} {σ : Sg} {Q : T → Sg → Prop} : ∀ (rest : List Oper) (t t' : T) (bs : Sg), Wk t' t → (∀ p, p ∈ t → p ∈ t') → CB X all σ Q rest t' bs → CB X all σ Q rest t bs
  | [], t, t', bs, hw, _, ⟨t'', h1, h2⟩ => ⟨t'', h1.trans hw, h2⟩
  | o :: rest, t, t', bs, hw, hm, h => by
    rcases h with ⟨V, h1, h2, h3, h4⟩ | ⟨id, V, e, hd, hg, hn, hN, hf, hb, hv, h4⟩
    · refine .inl ⟨V, h1.wk hw, h2, h3, CB.wk rest _ _ bs hw.put (fun p hp => ?_) h4⟩
      cases ho : o.dst with
      | none => rw [ho] at hp; exact hm p hp
      | some d =>
        rw [ho] at hp
        rcases List.mem_cons.1 hp with h | h
        · exact List.mem_cons.2 (.inl h)
        · exact List.mem_cons.2 (.inr (hm p h))
    · refine .inr ⟨id, V, e, hd, hg, hn.wk hw, hN, isFresh_wkT hf hm, hb, hv, CB.wk rest _ _ _ (fun i a hi => ?_) (fun p hp => ?_) h4⟩
      · rw [look_cons] at hi ⊢
        split
        · next e => rw [if_pos e] at hi; exact hi
        · next e => rw [if_neg e] at hi; exact hw i a hi
      · rcases List.mem_cons.1 hp with h | h
        · exact List.mem_cons.2 (.inl h)
        · exact List.mem_cons.2 (.inr (hm p h))

theorem stepB_sound {X : Cx} {all : Array Oper} {o : Oper} {t : T} {σ bs : Sg} {rest : List Oper} {Q : T → Sg → Prop} {K : T → Sg → Prop} (hK : ∀ t bs, K t bs → CB X all σ Q rest t bs)
    (hg : o.guard = none ∨ ∃ j b d, o.guard = some (j, b) ∧ ((all[j]?).bind (·.dst)) = some d ∧ look d t = some (.d (.v (.bool b)))) (h : stepB X o t σ bs K) : CB X all σ Q (o :: rest) t bs := by
  have fin : ∀ V, QJ X o t σ V → (match dOk o.dst X.N && bs.all (fun p => !has2 p.1 V) with | true => K (putT o.dst V t) bs | false => False) → CB X all σ Q (o :: rest) t bs := fun V hq hk => by
    split at hk
    · next hb =>
      simp only [Bool.and_eq_true] at hb
      rcases hg with hg | ⟨j, b, d, h1, h2, h3⟩
      · exact CB.q hg hq hb.1 hb.2 (hK _ _ hk)
      · exact CB.qy h1 h2 h3 hq hb.1 hb.2 (hK _ _ hk)
    · exact hk.elim
  unfold stepB at h
  split at h
  · next cs id hb hd hg0 =>
    split at h
    · next hx =>
      simp only [Bool.and_eq_true, Bool.not_eq_true'] at hx
      exact CB.born hd hg0 (bornV_sound hb) hx.1.1.2 hx.1.2 hx.1.1.1 hx.2 (hK _ _ h)
    · exact h.elim
  · rcases qw_sound h with ⟨V, hq, hk⟩ | h
    · exact fin V hq hk
    · cases h with
      | of hq hk => exact fin _ hq hk
      | born hb hk =>
        split at hk
        · next id' hd hg0 =>
          split at hk
          · next hx =>
            simp only [Bool.and_eq_true] at hx
            obtain rfl := Nat.eq_of_beq_eq_true hx.1.1.1.1
            exact CB.birth hd hg0 hb hx.1.1.2 hx.1.1.1.2 hx.1.2 hx.2 (hK _ _ hk)
          · exact hk.elim
        · exact hk.elim

theorem vB_sound {X : Cx} {all : Array Oper} {σ : Sg} {Q : T → Sg → Prop} : ∀ (rest : List Oper) (t : T) (bs : Sg), vB X all σ Q rest t bs → CB X all σ Q rest t bs
  | [], t, bs, h => CB.done h
  | o :: rest, t, bs, h => by
    unfold vB at h
    split at h
    · next hg => exact stepB_sound (fun t bs h => vB_sound rest t bs h) (.inl hg) h
    · next j b0 hg =>
      split at h
      · next d hd hN =>
        have hd' : ((all[j]?).bind (·.dst)) = some d := by rw [dstOf_eq]; exact hd
        split at h
        · next b hb =>
          have yes : ∀ c, b = c → stepB X o ((d, .d (.v (.bool c))) :: t) σ bs (fun t bs => vB X all σ Q rest t bs) → c = b0 → CB X all σ Q (o :: rest) t bs := fun c hc he hcb => by
            subst hc; subst hcb
            exact CB.wk _ _ _ _ (Wk.cons hb (Wk.refl t)) (fun p hp => List.mem_cons.2 (.inr hp)) (stepB_sound (fun t bs h => vB_sound rest t bs h) (.inr ⟨j, b, d, hg, hd', by rw [look_cons, if_pos rfl]⟩) he)
          have no : ∀ c, b = c → vB X all σ Q rest (putT o.dst (.tup []) ((d, .d (.v (.bool c))) :: t)) bs → c ≠ b0 → CB X all σ Q (o :: rest) t bs := fun c hc he hcb => by
            subst hc
            exact CB.wk _ _ _ _ (Wk.cons hb (Wk.refl t)) (fun p hp => List.mem_cons.2 (.inr hp)) (CB.no hg hd' (by rw [look_cons, if_pos rfl]) (by cases b <;> cases b0 <;> simp_all) hN (vB_sound rest _ bs he))
          cases b0 with
          | true => cases b with
            | true => exact yes true rfl (h.1 rfl) rfl
            | false => exact no false rfl (h.2 rfl) (by simp)
          | false => cases b with
            | true => exact no true rfl (h.1 rfl) (by simp)
            | false => exact yes false rfl (h.2 rfl) rfl
        · next hb => exact CB.noU hg hd' hb hN (vB_sound rest _ bs h)
        · exact h.elim
      · exact h.elim

def loud : Op → Bool
  | .store _ _ _ | .mapUpdate _ _ _ _ | .mapEntry _ _ _ | .entryStore _ _ _ _ | .insert _ _ _ _ | .next _ _ | .makeMap _ _ => true
  | .call ⟨.builtin .append, _, _⟩ | .call ⟨.builtin .copy, _, _⟩ | .call ⟨.builtin .delete, _, _⟩ => true
  | .call ⟨.value (.tmp _), _, _⟩ => true
  | _ => false
/-- How many operations stand ahead of the first loud one. -/
def quietN : List Oper → Nat
  | [] => 0
  | o :: r => match loud o.op with
    | true => 0
    | false => quietN r + 1
def drawOk (ops : Array Oper) : Bool := calmOk ops (quietN ops.toList) && Nat.ble (quietN ops.toList) ops.size
def takeQ : List Oper → List Oper
  | [] => []
  | o :: r => match loud o.op with
    | true => []
    | false => o :: takeQ r
def dropQ : List Oper → List Oper
  | [] => []
  | o :: r => match loud o.op with
    | true => o :: r
    | false => dropQ r
theorem takeQ_eq : ∀ l : List Oper, takeQ l = l.take (quietN l)
  | [] => rfl
  | o :: r => by
    unfold takeQ quietN
    split
    · rfl
    · rw [takeQ_eq r]; rfl
theorem dropQ_eq : ∀ l : List Oper, dropQ l = l.drop (quietN l)
  | [] => rfl
  | o :: r => by
    unfold dropQ quietN
    split
    · rfl
    · rw [dropQ_eq r]; rfl

/-- A region that draws its order. -/
def RegP (X : Cx) (id : Nat) (ops : Array Oper) (t : T) (σ : Sg) (Q : T → Sg → Prop) : Prop := ∀ Q' : Qt, (∀ t σ, Q t σ → Q' .normal t σ) → WJ X (.region id ops true) t σ Q'
theorem RegP.of {X : Cx} {id : Nat} {ops : Array Oper} {t : T} {σ : Sg} {Q : T → Sg → Prop} (hm : X.P.follows .mixedOrders = true) (hc : drawOk ops = true)
    (h : vB X ops σ (fun t σ => vL X ops (dropQ ops.toList) t σ Q) (takeQ ops.toList) t []) : RegP X id ops t σ Q := by
  intro Q' hQ
  simp only [drawOk, Bool.and_eq_true, Nat.ble_eq] at hc
  refine WJ.calmB (quietN ops.toList) hm hc.1 hc.2 ?_
  rw [← takeQ_eq]
  have h' := vB_sound _ _ _ h
  have mono : ∀ (rest : List Oper) (t : T) (bs : Sg), CB X ops σ (fun t σ => vL X ops (dropQ ops.toList) t σ Q) rest t bs → CB X ops σ (fun t σ => LJ X ops (quietN ops.toList) (ops.toList.drop (quietN ops.toList)) t σ (Q' .normal)) rest t bs := by
    intro rest
    induction rest with
    | nil =>
      rintro t bs ⟨t', h1, h2⟩
      refine ⟨t', h1, ?_⟩
      rw [← dropQ_eq]
      exact (vL_sound _ _ _ _ h2).mono hQ
    | cons o r ih =>
      intro t bs h
      rcases h with ⟨V, h1, h2, h3, h4⟩ | ⟨id, V, e, hd, hg, hn, hN, hf, hb, hv, h4⟩
      · exact .inl ⟨V, h1, h2, h3, ih _ _ h4⟩
      · exact .inr ⟨id, V, e, hd, hg, hn, hN, hf, hb, hv, ih _ _ h4⟩
  exact mono _ _ _ h'

/-! ### Code -/
def vc (X : Cx) : Code → T → Sg → Qt → Prop
  | .skip, t, σ, Q => Q .normal t σ
  | .label _, t, σ, Q => Q .normal t σ
  | .seq a b, t, σ, Q => vc X a t σ fun e t σ => match e with
    | .normal => vc X b t σ Q
    | e => Q e t σ
  | .cond c a b, t, σ, Q => (match ge t c with
    | some (.d (.v (.bool x))) => Spl x (vc X a t σ Q) (vc X b t σ Q)
    | _ => False)
  | .block id c, t, σ, Q => vc X c t σ fun e t σ => match e with
    | .exit id' => (match Nat.beq id' id with
      | true => Q .normal t σ
      | false => Q (.exit id') t σ)
    | e => Q e t σ
  | .region _ ops false, t, σ, Q => vL X ops ops.toList t σ (Q .normal)
  | .region id ops true, t, σ, Q => RegP X id ops t σ (Q .normal)
  | .exit id, t, σ, Q => Q (.exit id) t σ
  | .goto l, t, σ, Q => Q (.goto l) t σ
  | .ret, t, σ, Q => Q .ret t σ
  | c, t, σ, Q => WJ X c t σ Q

theorem vc_sound {X : Cx} : ∀ (c : Code) (t : T) (σ : Sg) (Q : Qt), vc X c t σ Q → WJ X c t σ Q
  | .skip, t, σ, Q, h => WJ.skip h
  | .label l, t, σ, Q, h => fun γ H _ _ s => wpIn_label ⟨γ, H, t, σ, s, h⟩
  | .seq a b, t, σ, Q, h => WJ.seq ((vc_sound a t σ _ h).mono fun e t σ q => by
      cases e <;> first | exact vc_sound b t σ Q q | exact q)
  | .cond c a b, t, σ, Q, h => by
    unfold vc at h
    split at h
    · next x hx =>
      intro γ H ac w s
      exact wpIn_cond_split (t := x) (rep_v (ge_sound s.tmp hx)) (fun e => vc_sound a t σ Q (h.1 e) γ H ac w s) (fun e => vc_sound b t σ Q (h.2 e) γ H ac w s)
    · exact h.elim
  | .block id c, t, σ, Q, h => WJ.block ((vc_sound c t σ _ h).mono fun e t σ q => by
      cases e <;> exact q)
  | .region id ops false, t, σ, Q, h => WJ.region (vL_sound _ 0 t σ h)
  | .region id ops true, t, σ, Q, h => h Q fun _ _ h => h
  | .exit id, t, σ, Q, h => WJ.exit h
  | .goto l, t, σ, Q, h => WJ.goto h
  | .ret, t, σ, Q, h => WJ.ret h
  | .loop c, t, σ, Q, h => h
  | .rangeFunc .., t, σ, Q, h => h
  | .scope c, t, σ, Q, h => h
  | .refuse w, t, σ, Q, h => h

/-! ### Results -/
def resV (X : Cx) (t : T) (σ : Sg) : ResultVar → Option AV
  | .tmp i => look i t
  | .cell i ty => match look i t with
    | some (.box j off) => (match look j σ with
      | some (.cells cs) => (match aggOf X.P ty, szOf X.P ty with
        | some true, some n => (match Nat.ble (off + n) cs.length with
          | true => some (.agg ((cs.drop off).take n))
          | false => none)
        | some false, _ => cs[off]?
        | _, _ => none)
      | _ => none)
    | _ => none
def resAll (X : Cx) (t : T) (σ : Sg) : List ResultVar → Option (List AV)
  | [] => some []
  | r :: l => match resV X t σ r with
    | some a => match resAll X t σ l with
      | some asz => some (a :: asz)
      | none => none
    | none => none

/-- The end of a function: what is handed back. -/
def FinP (X : Cx) (σ : Sg) (r : AV) (Q : AV → Sg → Prop) : Prop := ∃ σ' r', PubR σ r σ' r' ∧ closedB X.pin r' σ' ∧ Q r' σ'
theorem FinP.open {X : Cx} {σ : Sg} {r : AV} {Q : AV → Sg → Prop} (h : r.open = true) (k : Q r []) : FinP X σ r Q :=
  ⟨[], r, .wk (Wk.nil _), ⟨(fun j hj => by rw [has2_open h] at hj; cases hj), (fun i e hi => by simp [look] at hi)⟩, k⟩
theorem FinP.of {X : Cx} {σ : Sg} {r : AV} {Q : AV → Sg → Prop} (σ' : Sg) (hw : Wk σ' σ) (hc : closedB X.pin r σ') (k : Q r σ') : FinP X σ r Q := ⟨σ', r, .wk hw, hc, k⟩
theorem FinP.view {X : Cx} {σ : Sg} {r r1 : AV} {Q : AV → Sg → Prop} (hv : ∀ γ H u, Rep γ H r u → Rep γ H r1 u) (k : FinP X σ r1 Q) : FinP X σ r Q :=
  let ⟨σ', r', hp, hc, hq⟩ := k; ⟨σ', r', .view hv hp, hc, hq⟩
/-- A variable, or a map, is given to all. -/
theorem FinP.pub {X : Cx} {σ : Sg} {r : AV} {Q : AV → Sg → Prop} (i : Nat) {e : Ent} {p : Pub} (hi : look i σ = some e) (hp : pubOf e = some p) (k : FinP X ((i, .gone) :: subS i p σ) (sub2 i p r) Q) : FinP X σ r Q :=
  let ⟨σ', r', h1, hc, hq⟩ := k; ⟨σ', r', .pub i hi hp (fun _ _ _ ok rr => sub2_sound ok rr) h1, hc, hq⟩
/-- A row is given to all. -/
theorem FinP.pubA {X : Cx} {σ : Sg} {Q : AV → Sg → Prop} (i : Nat) {k n : Nat} {xs : List (List D)} (hi : look i σ = some (.arr k xs)) (hn : n ≤ xs.length) (hm : n ≤ 9223372036854775807)
    (kk : FinP X ((i, .gone) :: subS i (.a k xs) σ) (.d (.sl k (xs.take n))) Q) : FinP X σ (.arr i k n) Q :=
  let ⟨σ', r', h1, hc, hq⟩ := kk; ⟨σ', r', .pub i hi rfl (fun γ H u ok rr => by
    cases rr with
    | arr _ _ _ A h1 hA => exact .d _ _ (ok n A hn h1 hA hm)) h1, hc, hq⟩

def one : List AV → AV
  | [r] => r
  | rs => .tup rs
def vRet (X : Cx) (fn : Func) (Q : AV → Sg → Prop) : Qt
  | .normal, t, σ => (match resAll X t σ fn.results.toList with
    | some rs => FinP X σ (one rs) Q
    | none => False)
  | .ret, t, σ => (match resAll X t σ fn.results.toList with
    | some rs => FinP X σ (one rs) Q
    | none => False)
  | _, _, _ => False
end Go.Gv
end
section
namespace Go.Gv
open Go.RowKit
universe u

theorem resV_sound {X : Cx} {γ : Ids} {H : HF} {t : T} {σ : Sg} {a : Act} {w : World} (s : St X γ H t σ a w) {rv : ResultVar} {r : AV} (h : resV X t σ rv = some r) :
    ∃ v, (match rv with
      | .tmp t => pure (a.tmps.getD t undef)
      | .cell c t => do loadVar t (← asAddr (a.tmps.getD c undef)) : Sem Value).run X.P w = .ok v w ∧ Rep γ H r v := by
  cases rv with
  | tmp i =>
    obtain ⟨u, hu, hr⟩ := s.tmp i r h
    exact ⟨u, by simp [Array.getD_eq_getD_getElem?, hu], hr⟩
  | cell i ty =>
    simp only [resV] at h
    split at h
    · next j off hi =>
      obtain ⟨u, hu, hr⟩ := s.tmp i _ hi
      have hq := rep_box rfl hr
      split at h
      · next cs hj =>
        obtain ⟨tt, us, h2, h3, h4⟩ := s.mem.ent j _ hj
        split at h
        · next n ha hs =>
          split at h
          · next hb =>
            cases h
            have hle := Nat.le_of_ble_eq_true hb
            have := loadVar_agg (P := X.P) (w := w) (b := (γ j).b) (off := off) (us := (us.drop off).take n) (aggOf_run ha) (szOf_run hs) (by simp; omega) (fun l hl => by
              rw [cell_of_block h2, List.getElem?_take, if_pos hl, List.getElem?_drop])
            exact ⟨_, by simp [Array.getD_eq_getD_getElem?, hu, hq, asAddr, this], rep_cut h3 h4⟩
          · cases h
        · next _ ha =>
          have hlt : off < us.length := by rw [h3]; exact (List.getElem?_eq_some_iff.1 h).1
          have hc : w.cell? ⟨(γ j).b, off, none⟩ = some us[off] := by rw [cell_of_block h2]; simp [hlt]
          exact ⟨us[off], by simp [Array.getD_eq_getD_getElem?, hu, hq, asAddr, loadVar_one (aggOf_run ha) hc], h4 _ r _ h (by simp [hlt])⟩
        · cases h
      · cases h
    · cases h

theorem resAll_sound {X : Cx} {γ : Ids} {H : HF} {t : T} {σ : Sg} {a : Act} {w : World} (s : St X γ H t σ a w) : ∀ {l : List ResultVar} {rs : List AV}, resAll X t σ l = some rs →
    ∃ vs : List Value, (l.mapM (fun
      | .tmp t => pure (a.tmps.getD t undef)
      | .cell c t => do loadVar t (← asAddr (a.tmps.getD c undef)) : ResultVar → Sem Value)).run X.P w = .ok vs w ∧ vs.length = rs.length ∧ ∀ (j : Nat) (x : AV) (u : Value), rs[j]? = some x → vs[j]? = some u → Rep γ H x u
  | [], rs, h => by
    simp only [resAll, Option.some.injEq] at h; subst h
    exact ⟨[], by simp, rfl, fun j x u h => by simp at h⟩
  | r :: l, rs, h => by
    simp only [resAll] at h
    split at h
    · next av hr =>
      split at h
      · next asz hl =>
        simp only [Option.some.injEq] at h; subst h
        obtain ⟨v, hv, rep⟩ := resV_sound s hr
        obtain ⟨vs, hvs, hlen, reps⟩ := resAll_sound s hl
        refine ⟨v :: vs, ?_, by simp [hlen], fun j x u hx hu => ?_⟩
        · simp only [List.mapM_cons, Sem.run_bind, hv, Result.andThen_ok, hvs, Sem.run_pure]
        · cases j with
          | zero => simp at hx hu; subst hx; subst hu; exact rep
          | succ j => exact reps j x u (by simpa using hx) (by simpa using hu)
      · cases h
    · cases h

theorem vRet_sound {X : Cx} {fn : Func} {Q : AV → Sg → Prop} {e : Exit} {t : T} {σ : Sg} (h : vRet X fn Q e t σ) : Ret X fn Q e t σ := by
  have key : (match resAll X t σ fn.results.toList with
    | some rs => FinP X σ (one rs) Q
    | none => False) → ∃ r σ', RetIs X fn t σ r σ' ∧ closedB X.pin r σ' ∧ Q r σ' := fun h => by
    split at h
    · next rs hrs =>
      obtain ⟨σ', r', hw, hc, hq⟩ := h
      refine ⟨r', σ', fun γ H a w s => ?_, hc, hq⟩
      obtain ⟨vs, hvs, hlen, reps⟩ := resAll_sound s hrs
      have hm : (fn.results.mapM (fun
        | .tmp t => pure (a.tmps.getD t undef)
        | .cell c t => do loadVar t (← asAddr (a.tmps.getD c undef)) : ResultVar → Sem Value)).run X.P w = .ok vs.toArray w := by
        rw [Array.mapM_eq_mapM_toList]
        simp only [Sem.run_map, hvs, Result.andThen_ok]
      have hres : (results fn a.tmps).run X.P w = .ok (if h : vs.toArray.size = 1 then vs.toArray[0] else .tuple vs.toArray) w := by
        unfold results
        simp only [Sem.run_bind]
        refine (congrArg (fun r => Result.andThen r _) hm).trans ?_
        simp only [Result.andThen_ok, Sem.run_pure]
      suffices hr : Rep γ H (one rs) (if h : vs.toArray.size = 1 then vs.toArray[0] else .tuple vs.toArray) by
        obtain ⟨H', s', r⟩ := hw.sound s hr
        exact ⟨_, γ, H', hres, s', r⟩
      clear hrs hvs hm hres hw hc hq
      match rs, vs, hlen, reps with
      | [], [], _, _ => exact .tup [] [] rfl fun j x u h => by simp at h
      | [r], [v], _, reps => exact reps 0 r v rfl rfl
      | r :: r' :: rs, v :: v' :: vs, hlen, reps =>
        have : ¬ ((v :: v' :: vs).toArray.size = 1) := by simp
        rw [dif_neg this]
        exact .tup _ _ hlen reps
    · exact h.elim
  cases e <;> first | exact key h | exact h

/-- **A contract, out of what is reckoned.** -/
theorem Ct.of_vc {Λ : Amb} {P : Program} {f : FuncId} (fn : Func) {c : Code} {avs : List AV} {σ : Sg} {Q : AV → Sg → Prop} (hf : P.funcs[f]? = some fn) (hb : fn.body = some c)
    (hl : Nat.ble avs.length fn.ntmps = true)
    (h : ∀ w H B g0, vc ⟨P, Λ, none, w, H, B, fn.ntmps, pinsOf σ, g0⟩ c (numbered 0 avs) σ (vRet ⟨P, Λ, none, w, H, B, fn.ntmps, pinsOf σ, g0⟩ fn Q)) : Ct Λ P f avs σ Q :=
  Ct.of_wj fn.ntmps hf hb rfl (Nat.le_of_ble_eq_true hl) fun w H B g0 => (vc_sound _ _ _ _ (h w H B g0)).mono fun _ _ _ q => vRet_sound q

/-! ### Loops -/
def opsW : List Oper → List Nat → List Nat
  | [], acc => acc
  | o :: r, acc => match o.dst with
    | some d => opsW r (d :: acc)
    | none => opsW r acc
/-- The temporaries that code writes. -/
def writes : Code → List Nat → List Nat
  | .region _ ops _, acc => opsW ops.toList acc
  | .seq a b, acc => writes a (writes b acc)
  | .cond _ a b, acc => writes a (writes b acc)
  | .block _ a, acc => writes a acc
  | .loop a, acc => writes a acc
  | .scope a, acc => writes a acc
  | .rangeFunc _ ps a b, acc => ps.toList ++ writes a (writes b acc)
  | _, acc => acc
def memN (i : Nat) : List Nat → Bool
  | [] => false
  | j :: r => match Nat.beq i j with
    | true => true
    | false => memN i r
/-- What a loop leaves alone. -/
def keepT (ws : List Nat) : T → T
  | [] => []
  | (i, a) :: t => match memN i ws with
    | true => keepT ws t
    | false => (i, a) :: keepT (i :: ws) t
theorem memN_cons {i j : Nat} {ws : List Nat} : memN i (j :: ws) = if i = j then true else memN i ws := by
  simp only [memN]
  by_cases h : i = j
  · subst h; simp
  · have : Nat.beq i j = false := by rw [← Bool.not_eq_true, Nat.beq_eq]; exact h
    simp [this, h]
theorem keepT_not : ∀ {ws : List Nat} {t : T} {i : Nat}, memN i ws = true → look i (keepT ws t) = none
  | ws, [], i, _ => rfl
  | ws, (j, a) :: t, i, h => by
    simp only [keepT]
    split
    · exact keepT_not h
    · next hj =>
      rw [look_cons]
      have : i ≠ j := fun e => by subst e; rw [h] at hj; cases hj
      rw [if_neg this]
      exact keepT_not (by rw [memN_cons]; simp [h])
theorem keepT_wk : ∀ (ws : List Nat) (t : T), Wk (keepT ws t) t
  | ws, [], i, b, h => by simp [keepT, look] at h
  | ws, (j, a) :: t, i, b, h => by
    simp only [keepT] at h
    rw [look_cons]
    split at h
    · next hj =>
      have : i ≠ j := fun e => by
        subst e
        rw [keepT_not hj] at h; cases h
      rw [if_neg this]
      exact keepT_wk ws t i b h
    · rw [look_cons] at h
      split at h
      · next e => rw [if_pos e]; exact h
      · next e => rw [if_neg e]; exact keepT_wk (j :: ws) t i b h

/-- Each entry is there. -/
def Has {α : Type u} : List (Nat × α) → List (Nat × α) → Prop
  | [], _ => True
  | (i, a) :: r, l => look i l = some a ∧ Has r l
theorem Has.wk {α : Type u} : ∀ {l' l : List (Nat × α)}, Has l' l → Wk l' l
  | [], _, _ => Wk.nil _
  | (_, _) :: _, _, h => Wk.cons h.1 h.2.wk

/-- A loop: what varies (V), the temporaries and the private things that it turns, the rest as it was. -/
theorem WJ.loopF {X : Cx} {c : Code} {t : T} {σ : Sg} {Q : Qt} {V : Type} (T0 : V → T) (S0 : V → Sg) (μ : V → Nat) (I : V → Prop) (v0 : V) (h0 : I v0) (ht : Has (T0 v0) t) (hs : Has (S0 v0) σ)
    (round : ∀ v, I v → vc X c (T0 v ++ keepT (writes c []) t) (S0 v) fun e t' σ' => match e with
      | .normal => ∃ v', I v' ∧ μ v' < μ v ∧ Has (T0 v') t' ∧ Has (keepT (writes c []) t) t' ∧ Has (S0 v') σ'
      | e => Q e t' σ') : WJ X (.loop c) t σ Q := by
  refine WJ.loop (fun n t' σ' => ∃ v, I v ∧ n = μ v ∧ Wk (T0 v ++ keepT (writes c []) t) t' ∧ Wk (S0 v) σ') (μ v0) ⟨v0, h0, rfl, ?_, hs.wk⟩ ?_
  · intro i x hi
    rw [look_append] at hi
    cases hx : look i (T0 v0) with
    | some y => rw [hx, Option.some_or] at hi; rw [← hi]; exact ht.wk i y hx
    | none => rw [hx] at hi; simp only [Option.none_or] at hi; exact keepT_wk _ _ i x hi
  · rintro n t' σ' ⟨v, hv, rfl, ht', hs'⟩
    refine WJ.wk ht' hs' ((vc_sound _ _ _ _ (round v hv)).mono fun e t'' σ'' q => ?_)
    cases e with
    | normal =>
      obtain ⟨v', h1, h2, h3, h4, h5⟩ := q
      refine ⟨μ v', h2, v', h1, rfl, fun i x hi => ?_, h5.wk⟩
      rw [look_append] at hi
      cases hx : look i (T0 v') with
      | some y => rw [hx, Option.some_or] at hi; rw [← hi]; exact h3.wk i y hx
      | none => rw [hx] at hi; simp only [Option.none_or] at hi; exact h4.wk i x hi
    | exit id => exact q
    | goto l => exact q
    | ret => exact q
    | panic ch => exact q
    | outgrown => exact q
end Go.Gv
end
section
namespace Go.Gv
open Go.RowKit

section
variable {X : Cx} {d : Option Nat} {ty : TypeId} {pos : String} {aft : Array Edge} {g : Option (Nat × Bool)} {t : T} {σ : Sg}
/-- A call whose result names nothing private, in its place. -/
theorem OpJ.callV {K : T → Sg → Prop} {f : FuncId} {args : Array Operand} {tys : Array TypeId} {avs : List AV} {r : AV} (hc : Ct X.Λ X.P f avs [] (fun q _ => q = r)) (hok : callOk X.P f)
    (ha : geAll t args.toList = some avs) (ho : r.open = true) (hN : dOk d X.N = true) (k : K (putT d r t) σ) : OpJ X ⟨d, .call { callee := .value (.func f), args := args, argTypes := tys }, ty, pos, aft, g⟩ t σ K :=
  OpJ.quiet (QJ.call hc hok ha ho) hN k
theorem OpJ.qu {K : T → Sg → Prop} {o : Oper} {V : AV} (h : QJ X o t σ V) (hN : dOk o.dst X.N = true) (k : K (putT o.dst V t) σ) : OpJ X o t σ K := OpJ.quiet h hN k
end

section
variable {X : Cx} {d : Option Nat} {ty : TypeId} {pos : String} {aft : Array Edge} {g : Option (Nat × Bool)} {t : T} {σ : Sg}
/-! ### Comparison of structs of scalars -/
def veq : Value → Value → Bool
  | .int _ a, .int _ b => a == b
  | .bool a, .bool b => a == b
  | .string a, .string b => a.toList == b.toList
  | _, _ => false
def valsOf : List AV → Option (List Value)
  | [] => some []
  | .d (.v x) :: r => match valsOf r with
    | some l => some (x :: l)
    | none => none
  | _ :: _ => none
theorem valsOf_rep {γ : Ids} {H : HF} : ∀ {cs : List AV} {xs us : List Value}, valsOf cs = some xs → us.length = cs.length → (∀ (j : Nat) (a : AV) (u : Value), cs[j]? = some a → us[j]? = some u → Rep γ H a u) → us = xs
  | [], xs, us, h, hl, _ => by
    simp only [valsOf, Option.some.injEq] at h; subst h
    exact List.length_eq_zero_iff.1 hl
  | .d (.v x) :: r, xs, u :: us, h, hl, hr => by
    simp only [valsOf] at h
    split at h
    · next l hl' =>
      simp only [Option.some.injEq] at h; subst h
      have h8 := rep_v (hr 0 _ u rfl rfl)
      have h9 := valsOf_rep (us := us) hl' (by simpa using hl) fun j a u h1 h2 => hr (j + 1) a u (by simpa using h1) (by simpa using h2)
      rw [h8, h9]
    · cases h
  | _ :: _, _, [], _, hl, _ => by simp at hl
  | .d (.sl ..) :: _, _, _, h, _, _ | .d (.ptr ..) :: _, _, _, h, _, _ | .d (.fn ..) :: _, _, _, h, _, _ | .d (.ifc ..) :: _, _, _, h, _, _ | .d (.ifa ..) :: _, _, _, h, _, _ => by simp [valsOf] at h
  | .d (.mp ..) :: _, _, _, h, _, _ | .full .. :: _, _, _, h, _, _ | .boxX .. :: _, _, _, h, _, _ | .box .. :: _, _, _, h, _, _ | .arr .. :: _, _, _, h, _, _ | .suf .. :: _, _, _, h, _, _ | .fnp .. :: _, _, _, h, _, _ | .agg .. :: _, _, _, h, _, _ | .tup .. :: _, _, _, h, _, _ | .mp .. :: _, _, _, h, _, _ | .junk :: _, _, _, h, _, _ => by simp [valsOf] at h

/-- Each field is a scalar of the two values' kind. -/
def eqFit (P : Program) (xs ys : List Value) : List Field → Bool
  | [] => true
  | f :: fs => (match P.underlying f.type, xs[f.offset]?, ys[f.offset]? with
    | some (.int _), some (.int k _), some (.int k' _) => decide (k = k')
    | some .bool, some (.bool _), some (.bool _) => true
    | some .string, some (.string _), some (.string _) => true
    | _, _, _ => false) && eqFit P xs ys fs
def eqRes (xs ys : List Value) : List Field → Bool
  | [] => true
  | f :: fs => (if f.name = "_" then true else match xs[f.offset]?, ys[f.offset]? with
    | some x, some y => veq x y
    | _, _ => false) && eqRes xs ys fs

theorem isAgg_of {P : Program} {e : TypeId} {d : TypeDesc} (h : P.underlying e = some d) (hd : (match d with | .struct _ => true | .array _ _ => true | _ => false) = false) (w : World) : (isAgg e).run P w = .ok false w := by
  simp only [isAgg, Sem.run_bind, run_underlying h, Result.andThen_ok]
  cases d <;> simp_all

theorem part_one {P : Program} {e : TypeId} (ha : ∀ w, (isAgg e).run P w = .ok false w) : ∀ (cs : Array Value) (i : Nat) (v : Value) (w : World), cs[i]? = some v → (part e cs i).run P w = .ok v w := by
  intro cs i v w h
  simp [part, ha, h]
theorem eqFields_run {P : Program} {w : World} {d : Nat} {xs ys : List Value} : ∀ (fs : List Field), eqFit P xs ys fs = true → (Op.eqFields (d + 1) xs.toArray ys.toArray fs).run P w = .ok (eqRes xs ys fs) w
  | [], _ => by simp [Op.eqFields, eqRes]
  | f :: fs, h => by
    simp only [eqFit, Bool.and_eq_true] at h
    have ih := eqFields_run fs h.2 (w := w) (d := d)
    have one : ∃ x y, xs[f.offset]? = some x ∧ ys[f.offset]? = some y ∧ (part f.type xs.toArray f.offset).run P w = .ok x w ∧ (part f.type ys.toArray f.offset).run P w = .ok y w ∧ (Op.equalIn (d + 1) f.type x y).run P w = .ok (veq x y) w := by
      have h1 := h.1
      split at h1
      · next k' k a k2 b hu hx hy =>
        have : k = k2 := of_decide_eq_true h1
        subst this
        exact ⟨_, _, hx, hy, part_one (isAgg_of hu rfl) _ _ _ w (by simpa using hx), part_one (isAgg_of hu rfl) _ _ _ w (by simpa using hy), run_equalIn_int w d _ k _ a b hu⟩
      · next a b hu hx hy => exact ⟨_, _, hx, hy, part_one (isAgg_of hu rfl) _ _ _ w (by simpa using hx), part_one (isAgg_of hu rfl) _ _ _ w (by simpa using hy), run_equalIn_bool' w d _ a b hu⟩
      · next a b hu hx hy => exact ⟨_, _, hx, hy, part_one (isAgg_of hu rfl) _ _ _ w (by simpa using hx), part_one (isAgg_of hu rfl) _ _ _ w (by simpa using hy), run_equalIn_string w d _ a b hu⟩
      · cases h1
    obtain ⟨x, y, hx, hy, px, py, pe⟩ := one
    simp only [Op.eqFields, eqRes, hx, hy]
    by_cases hn : f.name = "_"
    · simp [hn, ih]
    · simp only [hn, ne_eq, not_false_eq_true, if_true, if_false, Sem.run_bind, px, py, pe, Result.andThen_ok]
      cases veq x y with
      | true => simpa using ih
      | false => simp

theorem O.eqS {tt yt : TypeId} {x y : Operand} {asz bs : List AV} {xs ys : List Value} {fs : Array Field} {r : Bool} (hx : ge t x = some (.agg asz)) (hy : ge t y = some (.agg bs)) (hxs : valsOf asz = some xs) (hys : valsOf bs = some ys)
    (hu : X.P.underlying tt = some (.struct fs)) (hp : X.P.stoodInHeld tt = false) (hg : X.P.eqGuardType X.P.depth tt = false) (hfit : eqFit X.P xs ys fs.toList = true) (hr : eqRes xs ys fs.toList = r) :
    QJ X ⟨d, .binOp .eql tt x y yt, ty, pos, aft, g⟩ t σ (.d (.v (.bool r))) :=
  QJ.value (by simp) (fun γ H a w so sm => by
    have h1 := so _ (by simp [Op.operands]) _ hx
    have h2 := so _ (by simp [Op.operands]) _ hy
    refine ⟨.bool r, ?_, .d _ _ (.v _ rfl)⟩
    generalize hq1 : a.eval x = q1 at h1
    generalize hq2 : a.eval y = q2 at h2
    cases h1 with
    | agg _ us hl1 hr1 =>
    cases h2 with
    | agg _ vs hl2 hr2 =>
    have e1 := valsOf_rep hxs hl1 hr1
    have e2 := valsOf_rep hys hl2 hr2
    subst e1; subst e2
    have hfs : X.P.fieldsOf tt = fs := by simp [Program.fieldsOf, hu]
    have h3 := run_equalIn_struct (P := X.P) w 9999 tt us.toArray vs.toArray (by rw [hfs]; exact hu) hp
    rw [hfs, eqFields_run (d := 9998) _ hfit, hr] at h3
    simp only [execOp, hq1, hq2, Sem.run_bind, run_eql_struct, run_eqGuard_agg w _ _ _ _ _ _ hg, Result.andThen_ok, h3, Sem.run_pure])

/-! ### Texts of bytes -/
def bytesOf : List (List D) → Option (List Int)
  | [] => some []
  | [.v (.int .u8 n)] :: r => match bytesOf r with
    | some l => some (n :: l)
    | none => none
  | _ :: _ => none
theorem bytesOf_get : ∀ {xs : List (List D)} {ns : List Int}, bytesOf xs = some ns → ns.length = xs.length ∧ ∀ (j : Nat) (n : Int), ns[j]? = some n → xs[j]? = some [.v (.int .u8 n)]
  | [], ns, h => by simp only [bytesOf, Option.some.injEq] at h; subst h; simp
  | x :: r, ns, h => by
    unfold bytesOf at h
    split at h
    · next he => cases he
    · next n r' he =>
      simp only [List.cons.injEq] at he
      obtain ⟨rfl, rfl⟩ := he
      split at h
      · next l hl =>
        simp only [Option.some.injEq] at h; subst h
        obtain ⟨h1, h2⟩ := bytesOf_get hl
        refine ⟨by simp [h1], fun j m hm => ?_⟩
        cases j with
        | zero => simp at hm; subst hm; rfl
        | succ j => simpa using h2 j m (by simpa using hm)
      · cases h
    · cases h
def strOf (ns : List Int) : ByteArray := ⟨(ns.map fun n => UInt8.ofNat n.toNat).toArray⟩
theorem foldl_push (ns : List Int) : ∀ (s : ByteArray), ns.foldl (fun r n => r.push (UInt8.ofNat n.toNat)) s = ⟨s.data ++ (ns.map fun n => UInt8.ofNat n.toNat).toArray⟩ := by
  induction ns with
  | nil => intro s; simp
  | cons n r ih =>
    intro s
    rw [List.foldl_cons, ih]
    apply congrArg ByteArray.mk
    simp [ByteArray.push]

theorem O.bytesStr {src dst el : TypeId} {x : Operand} {av : AV} {xs : List (List D)} {ns : List Int} (hx : ge t x = some av) (hel : elems av = some (1, xs)) (hb : bytesOf xs = some ns)
    (hs : X.P.underlying src = some (.slice el)) (hd : X.P.underlying dst = some .string) (he : X.P.underlying el = some (.int .u8)) :
    QJ X ⟨d, .convert src dst x, ty, pos, aft, g⟩ t σ (.d (.v (.string (strOf ns)))) :=
  QJ.value (by simp) (fun γ H a w so sm => by
    have h1 := rep_elems (so _ (by simp [Op.operands]) _ hx) hel
    refine ⟨.string (strOf ns), ?_, .d _ _ (.v _ rfl)⟩
    generalize hq : a.eval x = q at h1
    obtain ⟨b1, b2⟩ := bytesOf_get hb
    have hq2 : ∃ A n c, q = .slice A n c := by cases h1; exact ⟨_, _, _, rfl⟩
    have hconv : (Conv.bytesToString q).run X.P w = .ok (.string (strOf ns)) w := by
      cases h1 with
      | sl _ _ A c b o us hk hn hc hA hH h =>
        cases A with
        | none =>
          have h0 : xs = [] := by
            cases xs with
            | nil => rfl
            | cons y r => exact absurd (hA (by simp)) (by simp)
          subst h0
          have : ns = [] := List.length_eq_zero_iff.1 (by simpa using b1)
          subst this
          simp [Conv.bytesToString, strOf]; rfl
        | some ad =>
          have hload : (loadCells ad xs.length).run X.P w = .ok (ns.map (Value.int .u8)).toArray w := by
            by_cases h0 : xs.length = 0
            · have e0 : xs = [] := List.length_eq_zero_iff.1 h0
              subst e0
              have : ns = [] := List.length_eq_zero_iff.1 (by simpa using b1)
              subst this
              simp [loadCells, loadCellsFrom]
            · have hA' := hA (by omega)
              simp only [Option.some.injEq] at hA'
              subst hA'
              have key := load_cells (P := X.P) (w := w) (b := b) (vs := fun j => .int .u8 (ns.getD j 0)) xs.length o 0 #[] (fun j hj => by
                have hjn : j < ns.length := by omega
                have hx1 := b2 j ns[j] (by simp [hjn])
                have h3 := h j 0 _ _ hx1 (by rfl)
                have h4 : us j 0 = .int .u8 ns[j] := rep_v (γ := γ) (.d _ _ h3)
                have h5 := hH j 0 hj (by omega)
                rw [h4] at h5
                have h6 := sm.hok.c _ _ _ h5
                rw [show o + 0 + j = o + j * 1 + 0 from by omega, h6, Nat.zero_add, List.getD_eq_getElem?_getD, List.getElem?_eq_getElem hjn]; rfl)
              simp only [loadCells]
              rw [key]
              congr 1
              apply Array.toList_inj.1
              simp only [Array.toList_append, List.nil_append, List.toList_toArray]
              apply List.ext_getElem?
              intro j
              by_cases hj : j < ns.length
              · simp [hj, b1 ▸ hj, List.getElem?_range', List.getD_eq_getElem?_getD]
              · rw [List.getElem?_eq_none (by simp; omega), List.getElem?_eq_none (by simp; omega)]
          have := run_bytesToString w ad xs.length c ns hload
          rw [this, foldl_push]
          simp [strOf]
    obtain ⟨A, n, c, rfl⟩ := hq2
    simp only [execOp, hq, convert, Sem.run_bind, run_underlying hs, run_underlying hd, run_underlying he, Result.andThen_ok, hconv, Sem.run_pure])
end
/-- The cells and maps of a world. -/
def cellH (w : World) : HF := ⟨fun b o => w.cell? ⟨b, o, none⟩, fun b => match w.heap[b]? with | some (.map es c) => some (es, c) | _ => none⟩
theorem HOk.le {H : HF} {w : World} (h : HOk H w) : HLe H (cellH w) := ⟨h.c, fun b x hx => by
  have := h.m b x.1 x.2 hx
  show (match w.heap[b]? with | some (.map es c) => some (es, c) | _ => none) = some x
  rw [this]⟩
theorem cellH_ok (w : World) : HOk (cellH w) w := ⟨fun _ _ _ h => h, fun b es c h => by
  have h' : (match w.heap[b]? with | some (.map es c) => some (es, c) | _ => none) = some (es, c) := h
  split at h'
  · next es' c' hb => simp only [Option.some.injEq, Prod.mk.injEq] at h'; obtain ⟨rfl, rfl⟩ := h'; exact hb
  · cases h'⟩
/-- What a private thing looks like to who only reads. -/
inductive View (σ : Sg) : AV → AV → Prop where
  | same (a : AV) (h : a.open = true) : View σ a a
  | arr (i k n : Nat) (xs : List (List D)) (h : look i σ = some (.arr k xs)) (hn : xs.length = n) (hm : n ≤ 9223372036854775807) : View σ (.arr i k n) (.d (.sl k xs))
  | box (i : Nat) (cs : List AV) (ds : List D) (h : look i σ = some (.cells cs)) (hd : dAll cs = some ds) : View σ (.box i 0) (.d (.ptr ds))

theorem View.sound {σ : Sg} {w0 w : World} {H0 H : HF} {B : Nat → Prop} {γ γ' : Ids} (m : Mem w0 H0 B γ H σ w) {a b : AV} {u : Value} (v : View σ a b) (r : Rep γ H a u) : Rep γ' (cellH w) b u := by
  have hle : HLe H (cellH w) := m.hok.le
  cases v with
  | same a h => exact (r.mono hle).free h
  | arr i k n xs hi hn hm =>
    obtain ⟨e1, e2, e3⟩ := m.ent i _ hi
    cases r with
    | arr _ _ _ A hn' hA =>
      refine .d _ _ ?_
      by_cases h0 : 0 < (γ i).n
      · obtain ⟨tt, us, q1, q2, q3⟩ := e3 h0
        have key := RepD.sl (H := cellH w) k xs A (γ i).n (γ i).b 0 (fun j l => us.getD (j * k + l) undef) e2 e1 (by omega) (fun _ => hA h0) (fun j l hj hl => by
          have hlt : j * k + l < us.length := by
            rw [q2]
            calc j * k + l < j * k + k := by omega
              _ = (j + 1) * k := by rw [Nat.succ_mul]
              _ ≤ (γ i).n * k := Nat.mul_le_mul_right _ (by omega)
          show w.cell? _ = _
          rw [cell_of_block q1, Nat.zero_add, List.getD_eq_getElem?_getD, List.getElem?_eq_getElem hlt]; rfl) (fun j l cs d hj hd => by
          have hjl : j < xs.length := (List.getElem?_eq_some_iff.1 hj).1
          have hlk : l < k := by rw [← e2 cs (mem_of_get hj)]; exact (List.getElem?_eq_some_iff.1 hd).1
          have hlt : j * k + l < us.length := by
            rw [q2]
            calc j * k + l < j * k + k := by omega
              _ = (j + 1) * k := by rw [Nat.succ_mul]
              _ ≤ (γ i).n * k := Nat.mul_le_mul_right _ (by omega)
          exact (q3 j l cs d _ hj hd (by rw [List.getD_eq_getElem?_getD, List.getElem?_eq_getElem hlt]; rfl)).mono hle)
        rw [hn] at key; exact key
      · have hxl : xs = [] := by
          cases xs with
          | nil => rfl
          | cons x r => simp only [List.length_cons] at e1; omega
        subst hxl
        have hn0 : n = 0 := by simpa using hn.symm
        subst hn0
        exact .sl k [] A _ 0 0 (fun _ _ => undef) (fun _ h => by simp at h) (by simp) (by simp) (fun h => by simp at h) (fun j i h => by simp at h) (fun j i cs a h => by simp at h)
  | box i cs ds hi hd =>
    obtain ⟨tt, us, q1, q2, q3⟩ := m.ent i _ hi
    obtain ⟨d1, d2⟩ := dAll_get hd
    cases r
    refine .d _ _ (.ptr ds (γ i).b 0 (fun j => us.getD j undef) (fun j hj => ?_) fun j a ha => ?_)
    · have hlt : j < us.length := by omega
      show w.cell? _ = _
      rw [cell_of_block q1, Nat.zero_add, List.getD_eq_getElem?_getD, List.getElem?_eq_getElem hlt]; rfl
    · obtain ⟨x, h1, h2⟩ := d2 j a ha
      have hlt : j < us.length := by rw [q2]; exact (List.getElem?_eq_some_iff.1 h1).1
      exact (dOf_sound h2 (q3 j x _ h1 (by rw [List.getD_eq_getElem?_getD, List.getElem?_eq_getElem hlt]; rfl))).mono hle

theorem blks_nil (γ : Ids) : blks γ [] = fun _ => False := by
  funext b; simp [blks, look]
theorem Mem.quiet {w0 w w' : World} {H0 H : HF} {B : Nat → Prop} {γ : Ids} {σ : Sg} (h : Mem w0 H0 B γ H σ w) (k : Keeps w (fun _ => False) w') : Mem w H (fun _ => False) γ H [] w' :=
  ⟨k, HLe.refl _, HNew.refl _ _ _, ⟨fun b o v hv => by
    have h1 := h.hok.c b o v hv
    have hlt := lt_of_cell h1
    simp only [World.cell?] at h1 ⊢
    rw [k.block b hlt (fun x => x)]; exact h1, fun b es c hv => by
    have h1 := h.hok.m b es c hv
    exact (k.block b (lt_of_heap h1) (fun x => x)).trans h1⟩, fun i e h => by simp [look] at h, fun i e h => by simp [look] at h, fun i e h => by simp [look] at h, fun i e j e' b h => by simp [look] at h⟩
theorem Ct.of_calls {Λ : Amb} {P : Program} {f : FuncId} {avs : List AV} {V : AV}
    (h : ∀ (γ : Ids) (H : HF) (w : World) (vs : List Value), Λ.p w → HOk H w → vs.length = avs.length → (∀ (j : Nat) (a : AV) (u : Value), avs[j]? = some a → vs[j]? = some u → Rep γ H a u) → Calls P f vs.toArray w fun e w' => ∃ v H', e = .returned v ∧ Rep γ H' V v ∧ Mem w H (fun _ => False) γ H' [] w') :
    Ct Λ P f avs [] (fun r _ => r = V) := by
  intro ro γ H w vs hΛ hm hlen hr
  have key : CallsIn (Fr none) 0 P f vs.toArray w fun e w' => ∃ v r σ' γ' H', e = .returned v ∧ r = V ∧ Rep γ' H' r v ∧ (∀ i, look i σ' = none → γ i = γ' i) ∧ (∀ i e, look i ([] : Sg) = some e → e.var = true → γ i = γ' i) ∧ Mem w H (blks γ []) γ' H' σ' w' := by
    refine callsIn_wide.2 ((h γ H w vs hΛ.1 hm.hok hlen hr).mono fun e w' ⟨v, H', he, hrep, hk⟩ => ?_)
    exact ⟨v, V, [], γ, H', he, rfl, hrep, fun _ _ => rfl, fun _ _ _ _ => rfl, by rw [blks_nil]; exact hk⟩
  cases ro with
  | none => exact key
  | some l => exact CallsIn.inRound l key

/-- Scalars as arguments. -/
def scalars (xs : List Value) : List AV := xs.map fun x => .d (.v x)
theorem scalars_eq {γ : Ids} {H : HF} {xs vs : List Value} (hl : vs.length = (scalars xs).length) (h : ∀ (j : Nat) (a : AV) (u : Value), (scalars xs)[j]? = some a → vs[j]? = some u → Rep γ H a u) : vs = xs := by
  apply List.ext_getElem?
  intro j
  cases hx : xs[j]? with
  | none => simp [scalars] at hl hx; rw [List.getElem?_eq_none]; omega
  | some x =>
    have hlt : j < vs.length := by rw [hl]; simp [scalars]; exact (List.getElem?_eq_some_iff.1 hx).1
    have := rep_v (h j (.d (.v x)) vs[j] (by simp [scalars, hx]) (by simp [hlt]))
    simp [hlt, this]
theorem Ct.of_calls_scalars {Λ : Amb} {P : Program} {f : FuncId} (xs : List Value) {V : Value} (h1 : V.oneCell' = true)
    (h : ∀ (w : World), Λ.p w → Calls P f xs.toArray w fun e w' => e = .returned V ∧ Keeps w (fun _ => False) w') : Ct Λ P f (scalars xs) [] (fun r _ => r = .d (.v V)) :=
  Ct.of_calls fun γ H w vs hΛ hok hl hr => by
    rw [scalars_eq hl hr]
    have hm : Mem w H (fun _ => False) γ H [] w := ⟨Keeps.refl _ _, HLe.refl _, HNew.refl _ _ _, hok, fun i e h => by simp [look] at h, fun i e h => by simp [look] at h, fun i e h => by simp [look] at h, fun i e j e' b h => by simp [look] at h⟩
    exact (h w hΛ).mono fun e w' ⟨he, hk⟩ => ⟨V, H, he, .d _ _ (.v V h1), hm.quiet hk⟩

theorem keeps_below {w w' : World} (h : Below w.heap.size w w') : Keeps w (fun _ => False) w' := ⟨h.os, h.tape, h.output, h.size, fun k hk _ => h.block k hk⟩

/-- A contract, as the kit's call. -/
theorem Ct.calls {Λ : Amb} {P : Program} {f : FuncId} {avs : List AV} {V : Value} (h : Ct Λ P f avs [] (fun r _ => r = .d (.v V))) (w : World) (hΛ : Λ.p w) (hg : Λ.g ≤ w.heap.size) (vs : List Value) (hl : vs.length = avs.length)
    (hr : ∀ (j : Nat) (a : AV) (u : Value), avs[j]? = some a → vs[j]? = some u → Rep (fun _ => ⟨0, 0, fun _ => False⟩) (cellH w) a u) :
    Calls P f vs.toArray w fun e w' => e = .returned V ∧ Below w.heap.size w w' := by
  have := h none (fun _ => ⟨0, 0, fun _ => False⟩) (cellH w) w vs ⟨hΛ, hg, by rw [blks_nil]; exact fun b h => h.elim⟩ (by
    rw [blks_nil]
    exact ⟨Keeps.refl _ _, HLe.refl _, HNew.refl _ _ _, cellH_ok w, fun i e h => by simp [look] at h, fun i e h => by simp [look] at h, fun i e h => by simp [look] at h, fun i e j e' b h => by simp [look] at h⟩) hl hr
  refine (callsIn_wide.1 this).mono fun e w' ⟨v, r, σ, γ', H', he, hq, hrep, _, _, hm⟩ => ?_
  subst hq
  rw [blks_nil] at hm
  cases hrep with
  | d _ _ hd => cases hd with
    | v _ _ => exact ⟨he, hm.keep.below fun _ => id⟩

/-! ### Tables of the library -/
/-- Variables of the library's hold what they hold: told by the first g blocks. -/
def tabAmb (P : Program) (g : Nat) (tabs : List (String × IntKind × List Int)) (hg : ∀ n, n ∈ tabs → ∀ i, P.globalNamed n.1 = some i → i < g) : Amb :=
  ⟨fun w => ∀ n, n ∈ tabs → Lib.TabIs P w n.1 n.2.1 n.2.2, g, fun {w w'} h hk n hn => by
    have h := h n hn
    obtain ⟨i, hi, hm⟩ := Option.bind_eq_some_iff.1 (show World.var? P w n.1 = some _ from h)
    show World.var? P w' n.1 = some _
    unfold World.var?
    rw [hi]
    simp only [Option.bind_some]
    rw [hk i (hg n hn i hi)]; exact hm⟩
end Go.Gv
end
section
namespace Go.Gv
open Go.RowKit Go.ChangeShapes Go.WideShapes

section
variable {H : Type} {enc : TypeId × Value → H} {P : Program} {W : World}

/-- Whatever reads at that type stands for data of the shape G. -/
def OpenEl (enc : TypeId × Value → H) (P : Program) (W : World) (e : TypeId) (G : List D → Prop) : Prop :=
  ∀ (n : Nat) (cs : List Value) (x : DataW H × List MemPlace), DataW.trod enc P W 0 (fun _ => true) true n e cs = some x →
    ∃ ds : List D, cs.length = ds.length ∧ (∀ (j : Nat) (a : D) (u : Value), ds[j]? = some a → cs[j]? = some u → RepD (cellH W) a u) ∧ G ds

theorem openEl_one {e : TypeId} {G : List D → Prop} (h : ∀ n cs x, DataW.trod enc P W 0 (fun _ => true) true n e cs = some x → ∃ v a, cs = [v] ∧ RepD (cellH W) a v ∧ G [a]) : OpenEl enc P W e G := by
  intro n cs x hx
  obtain ⟨v, a, rfl, hr, hg⟩ := h n cs x hx
  refine ⟨[a], rfl, fun j b u h1 h2 => ?_, hg⟩
  cases j with
  | zero => simp at h1 h2; subst h1; subst h2; exact hr
  | succ j => simp at h1

theorem openEl_int {e : TypeId} {k : IntKind} (he : P.underlying e = some (.int k)) : OpenEl enc P W e (fun ds => ∃ n, ds = [.v (.int k n)] ∧ (Lit.int k n).wf = true) :=
  openEl_one fun _ _ _ hx => let ⟨m, h1, _, h2⟩ := DataW.trod_int he hx; ⟨_, .v (.int k m), h1, .v _ rfl, m, rfl, h2⟩

theorem openEl_bool {e : TypeId} (he : P.underlying e = some .bool) : OpenEl enc P W e (fun ds => ∃ b, ds = [.v (.bool b)]) :=
  openEl_one fun _ _ _ hx => let ⟨b, h1, _⟩ := DataW.trod_bool he hx; ⟨_, .v (.bool b), h1, .v _ rfl, b, rfl⟩

theorem openEl_str {e : TypeId} (he : P.underlying e = some .string) : OpenEl enc P W e (fun ds => ∃ s, ds = [.v (.string s)] ∧ s.size ≤ maxLen) :=
  openEl_one fun _ _ _ hx => let ⟨s, h1, _, h2⟩ := DataW.trod_string he hx; ⟨_, .v (.string s), h1, .v _ rfl, s, rfl, h2⟩

theorem choose_list {α : Type} {n : Nat} {p : Nat → α → Prop} (h : ∀ i, i < n → ∃ x, p i x) : ∃ l : List α, l.length = n ∧ ∀ i a, l[i]? = some a → p i a := by
  induction n with
  | zero => exact ⟨[], rfl, fun i a h => by simp at h⟩
  | succ n ih =>
    obtain ⟨l, hl, hp⟩ := ih fun i hi => h i (by omega)
    obtain ⟨x, hx⟩ := h n (by omega)
    refine ⟨l ++ [x], by simp [hl], fun i a hi => ?_⟩
    by_cases hin : i < l.length
    · rw [List.getElem?_append_left hin] at hi; exact hp i a hi
    · rw [List.getElem?_append_right (by omega)] at hi
      have : i - l.length = 0 := by
        rcases Nat.eq_zero_or_pos (i - l.length) with h0 | h0
        · exact h0
        · rw [List.getElem?_eq_none (by simp; omega)] at hi; cases hi
      rw [this] at hi
      simp at hi; subst hi
      rwa [show i = n by omega]

theorem add_zero_addr (a : Addr) : a.add 0 = a := by simp [Addr.add]

theorem cells_get {b0 : Nat} {a : Addr} {k : Nat} {cs : List Value} (h : W.cells? b0 a k = some cs) : cs.length = k ∧ ∀ j v, cs[j]? = some v → W.cell? (a.add j) = some v := by
  obtain ⟨_, hl, hc⟩ := World.cells?_some h
  refine ⟨hl, fun j v hj => ?_⟩
  have hjk : j < k := by rw [← hl]; exact (List.getElem?_eq_some_iff.1 hj).1
  rw [hc j hjk, hj]

theorem cell_spot {a : Addr} {v : Value} (h : W.cell? a = some v) : a.spot = none := by
  unfold World.cell? at h
  split at h
  · split at h
    · cases h
    · rename_i hs; simpa using hs
  · cases h

theorem openEl_slice {t e : TypeId} {G : List D → Prop} {k : Nat} (ht : P.underlying t = some (.slice e)) (hc : P.cellsOf e = k) (hk : 0 < k) (el : OpenEl enc P W e G) :
    OpenEl enc P W t (fun ds => ∃ xs, ds = [.sl k xs] ∧ ∀ cs, cs ∈ xs → G cs) := by
  refine openEl_one fun n cs x hx => ?_
  rcases Go.Deep.open_slice ht hx with ⟨rfl, _⟩ | ⟨a, len, cap, m, n', Df, Pl, rfl, _, hl, hm, hmm, _, hel⟩
  · exact ⟨_, .sl k [], rfl, .sl k [] none 0 0 0 (fun _ _ => .nilIface) (fun _ h => by simp at h) (Nat.le_refl _) (by simp) (by simp) (fun j i h => by simp at h) (fun j i cs a h => by simp at h), [], rfl, fun _ h => by simp at h⟩
  · simp only [if_true] at hmm
    subst hmm
    rw [hc] at hel
    have spot : 0 < len → a = ⟨a.block, a.off, none⟩ := by
      intro h0
      obtain ⟨cs', h1, h2⟩ := hel 0 (by omega)
      obtain ⟨hlen, hcell⟩ := cells_get h1
      have : ∃ v, cs'[0]? = some v := by
        have : 0 < cs'.length := by omega
        exact ⟨cs'[0], by simp [this]⟩
      obtain ⟨v, hv⟩ := this
      have := cell_spot (hcell 0 v hv)
      simp [add_zero_addr] at this
      cases a; simp_all
    obtain ⟨xs, hxl, hxp⟩ := choose_list (α := List D × List Value) (n := len) (p := fun i y => y.1.length = k ∧ y.2.length = k ∧ (∀ j v, y.2[j]? = some v → W.cell? ((a.add (i * k)).add j) = some v) ∧
        (∀ (j : Nat) (a : D) (u : Value), y.1[j]? = some a → y.2[j]? = some u → RepD (cellH W) a u) ∧ G y.1) fun i hi => by
      obtain ⟨cs', h1, h2⟩ := hel i (by omega)
      obtain ⟨hlen, hcell⟩ := cells_get h1
      obtain ⟨ds, hd, hr, hg⟩ := el n' cs' _ h2
      exact ⟨(ds, cs'), by simp; omega, hlen, hcell, hr, hg⟩
    have get : ∀ (j : Nat) (ds : List D), (xs.map (·.1))[j]? = some ds → ∃ y, xs[j]? = some y ∧ y.1 = ds := by
      intro j ds h
      simp only [List.getElem?_map, Option.map_eq_some_iff] at h
      exact h
    have hxl' : (xs.map (·.1)).length = len := by simp [hxl]
    refine ⟨_, .sl k (xs.map (·.1)), rfl, ?_, _, rfl, fun ds hds => ?_⟩
    · have key := RepD.sl (H := cellH W) k (xs.map (·.1)) (some a) m a.block a.off (fun j i => ((xs.getD j ([], [])).2.getD i .nilIface)) (fun cs hcs => by
          obtain ⟨j, hj⟩ := List.getElem?_of_mem hcs
          obtain ⟨y, hy, rfl⟩ := get j cs hj
          exact (hxp j y hy).1) (by rw [hxl']; exact hl) (by rw [hxl']; have : maxLen = 9223372036854775807 := rfl; omega) (fun h => by rw [hxl'] at h; rw [← spot h]) (fun j i hj hi => by
          rw [hxl'] at hj
          have hjx : j < xs.length := by omega
          obtain ⟨_, q2, q3, _⟩ := hxp j xs[j] (by simp [hjx])
          have hi' : i < (xs[j]).2.length := by omega
          have := q3 i (xs[j]).2[i] (by simp [hi'])
          simp only [cellH, List.getD, hjx, List.getElem?_eq_getElem, Option.getD_some, hi']
          rw [← this]
          congr 1
          have hs := spot (by omega)
          rw [Go.Deep.add_add]
          unfold Addr.add
          split
          · rename_i h0
            have e1 : j * k = 0 := by omega
            have e2 : i = 0 := by omega
            rw [e1, e2]; exact hs.symm
          · rw [Nat.add_assoc]) (fun j i ds d hj hd => by
          obtain ⟨y, hy, rfl⟩ := get j ds hj
          obtain ⟨q1, q2, _, q4, _⟩ := hxp j y hy
          have hi' : i < y.2.length := by have := (List.getElem?_eq_some_iff.1 hd).1; omega
          have : (xs.getD j ([], [])) = y := by simp [List.getD, hy]
          rw [this]
          exact q4 i d _ hd (by simp [List.getD, hi']))
      rw [hxl'] at key
      exact key
    · obtain ⟨j, hj⟩ := List.getElem?_of_mem hds
      obtain ⟨y, hy, rfl⟩ := get j ds hj
      exact (hxp j y hy).2.2.2.2


/-! ### Types by their shape -/
inductive Ty where
  | int (k : IntKind)
  | bool
  | str
  | st (fs : List Ty)
  | sl (e : Ty)
def cells : Ty → Nat
  | .st fs => go fs
  | _ => 1
where go : List Ty → Nat
  | [] => 0
  | f :: r => cells f + go r
def Ty.ok : Ty → List D → Prop
  | .int k, ds => ∃ n, ds = [.v (.int k n)] ∧ (Lit.int k n).wf = true
  | .bool, ds => ∃ b, ds = [.v (.bool b)]
  | .str, ds => ∃ l : List UInt8, ds = [.v (.string ⟨⟨l⟩⟩)] ∧ l.length ≤ maxLen
  | .st fs, ds => okFs fs ds
  | .sl e, ds => ∃ xs, ds = [.sl (cells e) xs] ∧ ∀ cs, cs ∈ xs → e.ok cs
where okFs : List Ty → List D → Prop
  | [], ds => ds = []
  | f :: r, ds => ∃ d1 d2, ds = d1 ++ d2 ∧ f.ok d1 ∧ okFs r d2
/-- Is a type of this shape? -/
def Ty.isT (P : Program) : Ty → TypeId → Bool
  | .int k, t => (match P.underlying t with | some (.int k') => kEq k k' | _ => false) && Nat.beq (P.cellsOf t) 1
  | .bool, t => (match P.underlying t with | some .bool => true | _ => false) && Nat.beq (P.cellsOf t) 1
  | .str, t => (match P.underlying t with | some .string => true | _ => false) && Nat.beq (P.cellsOf t) 1
  | .st fs, t => (match P.underlying t with | some (.struct gs) => isFs P fs gs.toList 0 && Nat.beq (P.cellsOf t) (cells (.st fs)) | _ => false)
  | .sl e, t => (match P.underlying t with | some (.slice u) => e.isT P u && Nat.blt 0 (cells e) | _ => false) && Nat.beq (P.cellsOf t) 1
where isFs (P : Program) : List Ty → List Field → Nat → Bool
  | [], [], _ => true
  | f :: r, g :: s, off => Nat.beq g.offset off && f.isT P g.type && isFs P r s (off + cells f)
  | _, _, _ => false

theorem isT_cells {ty : Ty} {t : TypeId} (h : ty.isT P t = true) : P.cellsOf t = cells ty := by
  cases ty with
  | int k => simp only [Ty.isT, Bool.and_eq_true, Nat.beq_eq] at h; exact h.2
  | bool => simp only [Ty.isT, Bool.and_eq_true, Nat.beq_eq] at h; exact h.2
  | str => simp only [Ty.isT, Bool.and_eq_true, Nat.beq_eq] at h; exact h.2
  | sl e => simp only [Ty.isT, Bool.and_eq_true, Nat.beq_eq] at h; exact h.2
  | st fs =>
    simp only [Ty.isT] at h
    split at h
    · simp only [Bool.and_eq_true, Nat.beq_eq] at h; exact h.2
    · cases h

theorem byteSize (s : ByteArray) : s.data.toList.length = s.size := rfl
mutual
theorem openTy : ∀ (ty : Ty) (t : TypeId), ty.isT P t = true → OpenEl enc P W t ty.ok
  | .int k, t, hty => by
    simp only [Ty.isT, Bool.and_eq_true] at hty
    obtain ⟨h1, _⟩ := hty
    split at h1
    · next k' hu =>
      obtain rfl := kEq_eq h1
      exact openEl_int hu
    · cases h1
  | .bool, t, hty => by
    simp only [Ty.isT, Bool.and_eq_true] at hty
    obtain ⟨h1, _⟩ := hty
    split at h1
    · next hu => exact openEl_bool hu
    · cases h1
  | .str, t, hty => by
    simp only [Ty.isT, Bool.and_eq_true] at hty
    obtain ⟨h1, _⟩ := hty
    split at h1
    · next hu =>
      intro n cs x hx
      obtain ⟨ds, e1, e2, s, rfl, hs⟩ := openEl_str hu n cs x hx
      exact ⟨_, e1, e2, s.data.toList, rfl, by rw [byteSize]; exact hs⟩
    · cases h1
  | .sl e, t, hty => by
    simp only [Ty.isT, Bool.and_eq_true] at hty
    obtain ⟨h1, _⟩ := hty
    split at h1
    · next u hu =>
      simp only [Bool.and_eq_true, Nat.blt_eq] at h1
      exact openEl_slice hu (isT_cells h1.1) h1.2 (openTy e u h1.1)
    · cases h1
  | .st fs, t, hty => by
    simp only [Ty.isT] at hty
    split at hty
    · next gs hu =>
      simp only [Bool.and_eq_true, Nat.beq_eq] at hty
      intro n cs x hx
      obtain ⟨xs, m, _, _, hl, hsz, hfld⟩ := DataW.trod_struct hu hx
      have hlen : cs.length = cells (.st fs) := by rw [hl]; exact hty.2
      obtain ⟨ds, e1, e2, e3⟩ := openFs fs gs.toList 0 hty.1 m cs (by rw [hlen]; simp [cells]) (fun k g hg => by
        have hg' : gs[k]? = some g := by simpa using hg
        have hk : k < xs.length := by
          have := (Array.getElem?_eq_some_iff.1 hg').1
          omega
        have := hfld k g hg'
        exact ⟨xs[k], this.trans (by simp [hk])⟩)
      refine ⟨ds, by rw [hlen, e1]; rfl, fun j a u ha hu => e2 j a u ha (by simpa using hu), e3⟩
    · cases hty
theorem openFs : ∀ (fs : List Ty) (gs : List Field) (off : Nat), Ty.isT.isFs P fs gs off = true → ∀ (n : Nat) (cs : List Value), off + cells.go fs ≤ cs.length →
    (∀ (k : Nat) (g : Field), gs[k]? = some g → ∃ y, DataW.trod enc P W 0 (fun _ => true) true n g.type ((cs.drop g.offset).take (P.cellsOf g.type)) = some y) →
    ∃ ds : List D, ds.length = cells.go fs ∧ (∀ (j : Nat) (a : D) (u : Value), ds[j]? = some a → cs[off + j]? = some u → RepD (cellH W) a u) ∧ Ty.ok.okFs fs ds
  | [], [], off, _, n, cs, _, _ => ⟨[], rfl, fun j a u h => by simp at h, rfl⟩
  | f :: r, g :: s, off, hty, n, cs, hle, hf => by
    simp only [Ty.isT.isFs, Bool.and_eq_true, Nat.beq_eq] at hty
    obtain ⟨⟨h1, h2⟩, h3⟩ := hty
    simp only [cells.go] at hle
    obtain ⟨y, hy⟩ := hf 0 g rfl
    obtain ⟨d1, e1, e2, e3⟩ := openTy f g.type h2 n _ _ hy
    obtain ⟨d2, e4, e5, e6⟩ := openFs r s (off + cells f) h3 n cs (by omega) (fun k g' hg => hf (k + 1) g' (by simpa using hg))
    rw [h1, isT_cells h2] at e1 e2
    have hl1 : d1.length = cells f := by
      rw [← e1, List.length_take, List.length_drop]; omega
    refine ⟨d1 ++ d2, by simp [cells.go, hl1, e4], fun j a u ha hu => ?_, d1, d2, rfl, e3, e6⟩
    by_cases hj : j < d1.length
    · rw [List.getElem?_append_left hj] at ha
      refine e2 j a u ha ?_
      rw [List.getElem?_take, if_pos (by omega), List.getElem?_drop]; exact hu
    · rw [List.getElem?_append_right (by omega)] at ha
      refine e5 (j - d1.length) a u ha ?_
      rw [hl1, show off + cells f + (j - cells f) = off + j by omega]; exact hu
  | [], _ :: _, off, hty, _, _, _, _ => by simp [Ty.isT.isFs] at hty
  | _ :: _, [], off, hty, _, _, _, _ => by simp [Ty.isT.isFs] at hty
end

/-- What stands for an argument. -/
def firstAV : List D → AV
  | d :: _ => .d d
  | [] => .junk
def Ty.av : Ty → List D → AV
  | .st _, ds => .agg (ds.map .d)
  | _, ds => firstAV ds
/-- An argument, opened. -/
theorem openArg {b0 : Nat} {t : TypeId} (ty : Ty) {v : Value} {d : DataW H} {ps : List MemPlace} (hty : ty.isT P t = true) (hok : Value.okWide P W .any b0 t v) (h : DataW.Trod enc P W 0 (fun _ => true) true t v d ps) :
    ∃ ds, ty.ok ds ∧ ∀ γ, Rep γ (cellH W) (ty.av ds) v := by
  obtain ⟨n, hn⟩ := h
  obtain ⟨ds, hl, hr, hG⟩ := openTy ty t hty n _ _ hn
  refine ⟨ds, hG, fun γ => ?_⟩
  have single : v.cells.toList = [v] → Ty.av ty ds = firstAV ds → Rep γ (cellH W) (ty.av ds) v := fun hc he => by
    rw [he]
    rw [hc] at hl hr
    match ds, hl with
    | [a], _ => exact .d _ _ (hr 0 a v rfl rfl)
  cases ty with
  | st fs =>
    simp only [Ty.isT] at hty
    split at hty
    · next gs hu =>
      obtain ⟨cs, rfl, _⟩ := okWide_struct hu hok
      have := rep_map_d (γ := γ) (H := cellH W) (cs := ds) (us := cs.toList) (by simpa [Value.cells] using hl) (fun j a u ha hu => hr j a u ha (by simpa [Value.cells] using hu))
      simpa [Ty.av] using this
    · cases hty
  | int k =>
    simp only [Ty.isT, Bool.and_eq_true] at hty
    obtain ⟨h1, _⟩ := hty
    split at h1
    · next hu => obtain ⟨n, rfl⟩ := okWide_int hu hok; exact single rfl rfl
    · cases h1
  | bool =>
    simp only [Ty.isT, Bool.and_eq_true] at hty
    obtain ⟨h1, _⟩ := hty
    split at h1
    · next hu => obtain ⟨n, rfl⟩ := okWide_bool hu hok; exact single rfl rfl
    · cases h1
  | str =>
    simp only [Ty.isT, Bool.and_eq_true] at hty
    obtain ⟨h1, _⟩ := hty
    split at h1
    · next hu => obtain ⟨n, rfl⟩ := okWide_string hu hok; exact single rfl rfl
    · cases h1
  | sl e =>
    simp only [Ty.isT, Bool.and_eq_true] at hty
    obtain ⟨h1, _⟩ := hty
    split at h1
    · next hu => obtain ⟨a, l, c, rfl⟩ := okWide_slice hu hok; exact single rfl rfl
    · cases h1
/-- Rows whose elements are told by a shape. -/
theorem rowsOf {α : Type} {p : List D → Prop} {enc' : α → List D} {q : α → Prop} (h : ∀ cs, p cs → ∃ a, cs = enc' a ∧ q a) : ∀ {xs : List (List D)}, (∀ cs, cs ∈ xs → p cs) → ∃ l : List α, xs = l.map enc' ∧ ∀ a, a ∈ l → q a
  | [], _ => ⟨[], rfl, fun _ h => by simp at h⟩
  | c :: r, hx => by
    obtain ⟨a, rfl, ha⟩ := h c (hx c (by simp))
    obtain ⟨l, rfl, hl⟩ := rowsOf h (xs := r) fun cs hcs => hx cs (by simp [hcs])
    exact ⟨a :: l, rfl, fun b hb => by rcases List.mem_cons.1 hb with rfl | hb; exact ha; exact hl b hb⟩
end
theorem args_nil {γ : Ids} {H : HF} : ∀ (j : Nat) (a : AV) (u : Value), ([] : List AV)[j]? = some a → ([] : List Value)[j]? = some u → Rep γ H a u := fun j a u h => by simp at h
theorem args_cons {γ : Ids} {H : HF} {avs : List AV} {vs : List Value} {a0 : AV} {u0 : Value} (h0 : Rep γ H a0 u0) (h : ∀ (j : Nat) (a : AV) (u : Value), avs[j]? = some a → vs[j]? = some u → Rep γ H a u) :
    ∀ (j : Nat) (a : AV) (u : Value), (a0 :: avs)[j]? = some a → (u0 :: vs)[j]? = some u → Rep γ H a u := by
  intro j a u h1 h2
  cases j with
  | zero => simp at h1 h2; subst h1; subst h2; exact h0
  | succ j => exact h j a u (by simpa using h1) (by simpa using h2)
end Go.Gv
end
section
namespace Go.Gv
open Go.RowKit

section
variable {X : Cx} {d : Option Nat} {ty : TypeId} {pos : String} {aft : Array Edge} {g : Option (Nat × Bool)} {t : T} {σ : Sg}

/-- A slice of an array that is data. -/
theorem O.sliceP {st e : TypeId} {x : Operand} {lo hi : Option Operand} {n k : Nat} {cs : List D} {l h : Int} (hx : ge t x = some (.d (.ptr cs))) (hu : X.P.underlying st = some (.array n e)) (hs : szOf X.P e = some k)
    (hl : loV t lo = some l) (hh : hiV t n hi = some h) (h0 : 0 ≤ l) (h1 : l ≤ h) (h2 : h ≤ (n : Int)) (hc : cs.length = n * k) (hn : n ≤ 9223372036854775807) {xs : List (List D)} (hv : ((chunkL k n cs).take h.toNat).drop l.toNat = xs) :
    QJ X ⟨d, .slice st x lo hi none, ty, pos, aft, g⟩ t σ (.d (.sl k xs)) := by
  subst hv
  refine QJ.value (by simp) (fun γ H a w so sm => ?_)
  obtain ⟨b, o, us, hq, hcc, hr⟩ := repd_ptr (rep_d (so x (by simp [Op.operands]) _ hx))
  have hb := bounds_run (P := X.P) (w := w) (γ := γ) (H := H) (a := a) (isS := false) hl hh h0 h1 h2 (Nat.le_refl _) (fun y hy v hv => so y (by
    rcases hy with rfl | rfl <;> simp [Op.operands]) v hv)
  rw [chunkL_eq]
  obtain ⟨c1, c2⟩ := chunk_len (k := k) (n := n) (ds := cs) hc
  have hsl : RepD H (.sl k (chunk k n cs)) (.slice (some ⟨b, o, none⟩) (chunk k n cs).length n) := by
    refine .sl k _ _ n b o (fun j i => us (j * k + i)) c2 (by omega) (by omega) (fun _ => rfl) (fun j i hj hi => ?_) (fun j i ds d hj hd => ?_)
    · rw [c1] at hj
      rw [Nat.add_assoc]
      refine hcc _ ?_
      rw [hc]
      calc j * k + i < j * k + k := by omega
        _ = (j + 1) * k := by rw [Nat.add_mul]; omega
        _ ≤ n * k := Nat.mul_le_mul_right _ (by omega)
    · obtain ⟨_, _, hx⟩ := chunk_get hc hj hd
      exact hr _ d hx
  have hcut := hsl.cut (l := l.toNat) (h := h.toNat) (c' := n) (by omega) (by rw [c1]; omega) (by omega) (Nat.le_refl _)
  refine ⟨_, ?_, .d _ _ hcut⟩
  simp only [execOp, hq, Instr.sliceAt, Instr.sureAddr, Sem.run_bind, run_underlying hu, Result.andThen_ok, hb, szOf_run hs, Sem.run_pure, Option.map_none]
  congr 3
  split <;> rfl
end
/-! ### Comparison of structs, however deep -/
def eqT (P : Program) : Nat → TypeId → List Value → List Value → Option Bool
  | 0, _, _, _ => none
  | n + 1, t, xs, ys => match P.underlying t with
    | some (.struct fs) => fs.toList.foldr (fun f r => match eqT P n f.type ((xs.drop f.offset).take (P.cellsOf f.type)) ((ys.drop f.offset).take (P.cellsOf f.type)), r with
      | some b, some r => some (b && r)
      | _, _ => none) (some true)
    | some (.int _) => match xs, ys with
      | [.int k a], [.int k' b] => match kEq k k' with
        | true => some (decide (a = b))
        | false => none
      | _, _ => none
    | some .bool => match xs, ys with
      | [.bool a], [.bool b] => some (a == b)
      | _, _ => none
    | some .string => match xs, ys with
      | [.string a], [.string b] => some (a.toList == b.toList)
      | _, _ => none
    | _ => none
/-- Each struct within may be compared, and each of its fields is. -/
def eqOk (P : Program) : Nat → TypeId → Bool
  | 0, _ => false
  | n + 1, t => match P.underlying t with
    | some (.struct fs) => !P.stoodInHeld t && fs.toList.all fun f => f.name != "_" && (P.info? f.type).isSome && eqOk P n f.type && (match P.underlying f.type with | some (.struct _) => true | some (.array ..) => false | _ => Nat.beq (P.cellsOf f.type) 1)
    | some (.array ..) => false
    | _ => true
def valAt (P : Program) (t : TypeId) (xs : List Value) : Value := match P.underlying t with
  | some (.struct _) => .agg xs.toArray
  | _ => xs.headD undef

def aggD : TypeDesc → Bool
  | .struct _ => true
  | .array _ _ => true
  | _ => false
theorem isAgg_aggD {P : Program} {e : TypeId} {d : TypeDesc} (h : P.underlying e = some d) (hd : aggD d = false) (w : World) : (isAgg e).run P w = .ok false w := by
  cases d <;> first | (exact isAgg_of h rfl w) | (cases hd)
theorem eqT_some {P : Program} {n : Nat} {t : TypeId} {xs ys : List Value} {r : Bool} (he : eqT P (n + 1) t xs ys = some r) :
    (∃ fs, P.underlying t = some (.struct fs)) ∨ ((∃ x, xs = [x]) ∧ (∃ y, ys = [y]) ∧ ∃ d, P.underlying t = some d ∧ aggD d = false) := by
  simp only [eqT] at he
  cases hu : P.underlying t with
  | none => rw [hu] at he; simp at he
  | some d =>
    rw [hu] at he
    cases d with
    | struct fs => exact .inl ⟨fs, rfl⟩
    | int k => right; simp only at he; split at he; exact ⟨⟨_, rfl⟩, ⟨_, rfl⟩, _, rfl, rfl⟩; cases he
    | bool => right; simp only at he; split at he; exact ⟨⟨_, rfl⟩, ⟨_, rfl⟩, _, rfl, rfl⟩; cases he
    | string => right; simp only at he; split at he; exact ⟨⟨_, rfl⟩, ⟨_, rfl⟩, _, rfl, rfl⟩; cases he
    | _ => simp at he
theorem part_run {P : Program} {t : TypeId} {off : Nat} {xs : List Value} {w : World} (hi : (P.info? t).isSome = true) (hc : (match P.underlying t with | some (.struct _) => true | some (.array ..) => false | _ => Nat.beq (P.cellsOf t) 1) = true)
    (he : (∃ fs, P.underlying t = some (.struct fs)) ∨ ((∃ x, (xs.drop off).take (P.cellsOf t) = [x]) ∧ ∃ d, P.underlying t = some d ∧ aggD d = false)) :
    (part t xs.toArray off).run P w = .ok (valAt P t ((xs.drop off).take (P.cellsOf t))) w := by
  unfold part valAt
  rcases he with ⟨fs, hu⟩ | ⟨⟨x, hx⟩, d, hu, hd⟩
  · have ha : (isAgg t).run P w = .ok true w := by simp [isAgg, run_underlying hu]
    rw [hu]
    simp only [Sem.run_bind, ha, Result.andThen_ok, if_true, sizeOf_cells hi, Sem.run_pure]
    congr 2
    apply Array.toList_inj.1
    simp
  · have ha := isAgg_aggD hu hd w
    rw [hu] at hc
    have hk : P.cellsOf t = 1 := Nat.eq_of_beq_eq_true (by cases d <;> first | exact hc | cases hd)
    rw [hx]
    have hv : xs[off]? = some x := by
      have := congrArg (fun l => l[0]?) hx
      rw [hk] at this
      simpa using this
    have : (match P.underlying t with | some (.struct _) => Value.agg ([x] : List Value).toArray | _ => ([x] : List Value).headD undef) = x := by rw [hu]; cases d <;> first | rfl | cases hd
    rw [this]
    simp [ha, hv]

theorem eqT_run {P : Program} {w : World} : ∀ (n d : Nat) (t : TypeId) (xs ys : List Value) (r : Bool), eqOk P n t = true → eqT P n t xs ys = some r → (Op.equalIn (d + n) t (valAt P t xs) (valAt P t ys)).run P w = .ok r w
  | 0, _, _, _, _, _, _, h => by simp [eqT] at h
  | n + 1, d, t, xs, ys, r, ho, h => by
    simp only [eqT] at h
    cases hu : P.underlying t with
    | none => rw [hu] at h; simp at h
    | some de =>
      rw [hu] at h
      unfold valAt
      rw [hu]
      cases de with
      | struct fs =>
        simp only at h ⊢
        simp only [eqOk, hu, Bool.and_eq_true, Bool.not_eq_true'] at ho
        have hfs : P.fieldsOf t = fs := by simp [Program.fieldsOf, hu]
        have h3 := run_equalIn_struct (P := P) w (d + n) t xs.toArray ys.toArray (by rw [hfs]; exact hu) ho.1
        rw [← Nat.add_assoc, h3, hfs]
        have key : ∀ (l : List Field) (r : Bool), (l.all fun f => f.name != "_" && (P.info? f.type).isSome && eqOk P n f.type && (match P.underlying f.type with | some (.struct _) => true | some (.array ..) => false | _ => Nat.beq (P.cellsOf f.type) 1)) = true →
            l.foldr (fun f r => match eqT P n f.type ((xs.drop f.offset).take (P.cellsOf f.type)) ((ys.drop f.offset).take (P.cellsOf f.type)), r with
              | some b, some r => some (b && r)
              | _, _ => none) (some true) = some r → (Op.eqFields (d + n) xs.toArray ys.toArray l).run P w = .ok r w := by
          intro l
          induction l with
          | nil => intro r _ h; simp only [List.foldr_nil, Option.some.injEq] at h; subst h; simp [Op.eqFields]
          | cons f l ih =>
            intro r ha h
            simp only [List.all_cons, Bool.and_eq_true] at ha
            obtain ⟨⟨⟨⟨a1, a2⟩, a3⟩, a4⟩, a5⟩ := ha
            simp only [List.foldr_cons] at h
            split at h
            · next b r' hb hr =>
              simp only [Option.some.injEq] at h
              subst h
              cases n with
              | zero => simp [eqT] at hb
              | succ n =>
                have q := eqT_some hb
                have p1 := part_run (w := w) (xs := xs) a2 a4 (q.imp (fun h => h) fun h => ⟨h.1, h.2.2⟩)
                have p2 := part_run (w := w) (xs := ys) a2 a4 (q.imp (fun h => h) fun h => ⟨h.2.1, h.2.2⟩)
                have e1 := eqT_run (w := w) (n + 1) d f.type _ _ b a3 hb
                have i1 := ih r' a5 hr
                have hn : f.name ≠ "_" := by simpa using a1
                simp only [Op.eqFields, hn, ne_eq, not_false_eq_true, if_true, Sem.run_bind, p1, p2, Result.andThen_ok, e1]
                cases b with
                | true => simpa using i1
                | false => simp
            · cases h
        exact key _ _ ho.2 h
      | int k =>
        simp only at h ⊢
        split at h
        · next k1 a k2 b =>
          split at h
          · next hk =>
            obtain rfl := kEq_eq hk
            simp only [Option.some.injEq] at h; subst h
            show (Op.equalIn (d + n + 1) t (.int k1 a) (.int k1 b)).run P w = _
            rw [run_equalIn_int w _ t k1 k a b hu]; rfl
          · cases h
        · cases h
      | bool =>
        simp only at h ⊢
        split at h
        · next a b =>
          simp only [Option.some.injEq] at h; subst h
          show (Op.equalIn (d + n + 1) t (.bool a) (.bool b)).run P w = _
          rw [run_equalIn_bool' w _ t a b hu]
        · cases h
      | string =>
        simp only at h ⊢
        split at h
        · next a b =>
          simp only [Option.some.injEq] at h; subst h
          show (Op.equalIn (d + n + 1) t (.string a) (.string b)).run P w = _
          rw [run_equalIn_string w _ t a b hu]
        · cases h
      | _ => simp at h
section
variable {X : Cx} {d : Option Nat} {ty : TypeId} {pos : String} {aft : Array Edge} {g : Option (Nat × Bool)} {t : T} {σ : Sg}
theorem cmp_run {γ : Ids} {H : HF} {P : Program} {tt : TypeId} {u v : Value} {asz bs : List AV} {xs ys : List Value} {fs : Array Field} {r : Bool} (n : Nat) {w : World} (h1 : Rep γ H (.agg asz) u) (h2 : Rep γ H (.agg bs) v) (hxs : valsOf asz = some xs) (hys : valsOf bs = some ys)
    (hu : P.underlying tt = some (.struct fs)) (ho : eqOk P n tt = true) (hn : n ≤ 10000) (hr : eqT P n tt xs ys = some r) :
    u = .agg xs.toArray ∧ v = .agg ys.toArray ∧ (Op.equalIn 10000 tt (.agg xs.toArray) (.agg ys.toArray)).run P w = .ok r w := by
  cases h1 with
  | agg _ us hl1 hr1 =>
  cases h2 with
  | agg _ vs hl2 hr2 =>
  have e1 := valsOf_rep hxs hl1 hr1
  have e2 := valsOf_rep hys hl2 hr2
  subst e1; subst e2
  have := eqT_run (w := w) n (10000 - n) tt us vs r ho hr
  rw [show 10000 - n + n = 10000 by omega] at this
  simp only [valAt, hu] at this
  exact ⟨rfl, rfl, this⟩
theorem O.eqT {tt yt : TypeId} {x y : Operand} {asz bs : List AV} {xs ys : List Value} {fs : Array Field} {r : Bool} (n : Nat) (hx : ge t x = some (.agg asz)) (hy : ge t y = some (.agg bs)) (hxs : valsOf asz = some xs) (hys : valsOf bs = some ys)
    (hu : X.P.underlying tt = some (.struct fs)) (ho : eqOk X.P n tt = true) (hg : X.P.eqGuardType X.P.depth tt = false) (hr : Gv.eqT X.P n tt xs ys = some r) (hn : n ≤ 10000 := by decide) :
    QJ X ⟨d, .binOp .eql tt x y yt, ty, pos, aft, g⟩ t σ (.d (.v (.bool r))) :=
  QJ.value (by simp) (fun γ H a w so sm => by
    obtain ⟨h1, h2, h3⟩ := cmp_run (P := X.P) n (w := w) (so _ (by simp [Op.operands]) _ hx) (so _ (by simp [Op.operands]) _ hy) hxs hys hu ho hn hr
    refine ⟨.bool r, ?_, .d _ _ (.v _ rfl)⟩
    simp only [execOp, h1, h2, Sem.run_bind, run_eql_struct, run_eqGuard_agg w _ _ _ _ _ _ hg, Result.andThen_ok, h3, Sem.run_pure])
end
theorem Mem.start {w : World} {H : HF} (hok : HOk H w) (γ : Ids) : Mem w H (fun _ => False) γ H [] w :=
  ⟨Keeps.refl _ _, HLe.refl _, HNew.refl _ _ _, hok, fun i e h => by simp [look] at h, fun i e h => by simp [look] at h, fun i e h => by simp [look] at h, fun i e j e' b h => by simp [look] at h⟩
theorem chunkL_one : ∀ (ds : List D), chunkL 1 ds.length ds = ds.map fun d => [d]
  | [] => rfl
  | d :: r => by
    have := chunkL_one r
    simp only [List.length_cons, chunkL, List.map_cons]
    simpa using this
abbrev bD (b : UInt8) : D := .v (.int .u8 b.toNat)
theorem bytesOf_map : ∀ (l : List UInt8), bytesOf (l.map fun b => [bD b]) = some (l.map fun b => (b.toNat : Int))
  | [] => rfl
  | b :: r => by simp [bytesOf, bytesOf_map r]
theorem strOf_map (l : List UInt8) : strOf (l.map fun b => (b.toNat : Int)) = ⟨⟨l⟩⟩ := by
  unfold strOf
  simp only [List.map_map]
  have : ((fun n : Int => UInt8.ofNat n.toNat) ∘ fun b : UInt8 => (b.toNat : Int)) = id := by funext b; simp
  rw [this, List.map_id]
theorem dAll_map {α : Type} (f : α → D) : ∀ (l : List α), dAll (l.map fun a => AV.d (f a)) = some (l.map f)
  | [] => rfl
  | a :: r => by simp [dAll, dOf, dAll_map f r]
end Go.Gv
end
section
namespace Go.Gv
open Go.RowKit
universe u
def keepG {α : Type u} (ws : List Nat) : List (Nat × α) → List (Nat × α)
  | [] => []
  | (i, a) :: t => match memN i ws with
    | true => keepG ws t
    | false => (i, a) :: keepG (i :: ws) t
theorem keepG_not {α : Type u} : ∀ {ws : List Nat} {t : List (Nat × α)} {i : Nat}, memN i ws = true → look i (keepG ws t) = none
  | ws, [], i, _ => rfl
  | ws, (j, a) :: t, i, h => by
    simp only [keepG]
    split
    · exact keepG_not h
    · next hj =>
      rw [look_cons]
      have : i ≠ j := fun e => by subst e; rw [h] at hj; cases hj
      rw [if_neg this]
      exact keepG_not (by rw [memN_cons]; simp [h])
theorem keepG_wk {α : Type u} : ∀ (ws : List Nat) (t : List (Nat × α)), Wk (keepG ws t) t
  | ws, [], i, b, h => by simp [keepG, look] at h
  | ws, (j, a) :: t, i, b, h => by
    simp only [keepG] at h
    rw [look_cons]
    split at h
    · next hj =>
      have : i ≠ j := fun e => by
        subst e
        rw [keepG_not hj] at h; cases h
      rw [if_neg this]
      exact keepG_wk ws t i b h
    · rw [look_cons] at h
      split at h
      · next e => rw [if_pos e]; exact h
      · next e => rw [if_neg e]; exact keepG_wk (j :: ws) t i b h
theorem Wk.app {α : Type u} {a b l : List (Nat × α)} (h : Wk a l) (k : Wk b l) : Wk (a ++ b) l := fun i x hi => by
  rw [look_append] at hi
  cases hx : look i a with
  | some y => rw [hx, Option.some_or] at hi; rw [← hi]; exact h i y hx
  | none => rw [hx] at hi; simp only [Option.none_or] at hi; exact k i x hi
theorem WJ.loopK {X : Cx} {c : Code} {t : T} {σ : Sg} {Q : Qt} {V : Type} (T0 : V → T) (S0 : V → Sg) (ks : List Nat) (μ : V → Nat) (I : V → Prop) (v0 : V) (h0 : I v0) (ht : Has (T0 v0) t) (hs : Has (S0 v0) σ)
    (round : ∀ v, I v → vc X c (T0 v ++ keepT (writes c []) t) (S0 v ++ keepG ks σ) fun e t' σ' => match e with
      | .normal => ∃ v', I v' ∧ μ v' < μ v ∧ Has (T0 v') t' ∧ Has (keepT (writes c []) t) t' ∧ Has (S0 v') σ' ∧ Has (keepG ks σ) σ'
      | e => Q e t' σ') : WJ X (.loop c) t σ Q := by
  refine WJ.loop (fun n t' σ' => ∃ v, I v ∧ n = μ v ∧ Wk (T0 v ++ keepT (writes c []) t) t' ∧ Wk (S0 v ++ keepG ks σ) σ') (μ v0) ⟨v0, h0, rfl, ht.wk.app (keepT_wk _ _), hs.wk.app (keepG_wk _ _)⟩ ?_
  rintro n t' σ' ⟨v, hv, rfl, ht', hs'⟩
  refine WJ.wk ht' hs' ((vc_sound _ _ _ _ (round v hv)).mono fun e t'' σ'' q => ?_)
  cases e with
  | normal =>
    obtain ⟨v', h1, h2, h3, h4, h5, h6⟩ := q
    exact ⟨μ v', h2, v', h1, rfl, h3.wk.app h4.wk, h5.wk.app h6.wk⟩
  | exit id => exact q
  | goto l => exact q
  | ret => exact q
  | panic ch => exact q
  | outgrown => exact q
end Go.Gv
end
