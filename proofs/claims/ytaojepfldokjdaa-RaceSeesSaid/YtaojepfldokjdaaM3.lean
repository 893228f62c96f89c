/- Laws that the claim's text stands on: Maps: what is looked up, and written; The weakest precondition of code, reckoned; A contract out of what is reckoned; loops; Calls, as they are used; structs compared; texts of bytes; contracts out of the library's; From the statement's reading of the arguments to abstract values; An array given to all, cut to a slice; Loops that keep what is private, but for what is named; Words of a plain seat's contracts; Traces: what happens ahead of what, and the clocks that tell it; Calls of functions' values; A range over a function: what an iterator is; the loop; A range over a function: one round; A range over a function: the loop; A range over a function: the law; Rows handed back; nil as data; Cells that hold rows; Calls that are lent rows; rows of a told type; strings gone over; a variable's address as unsafe.Pointer; append, on a private row of a told type; Going over a string; Variables of a told type; a builder's bytes as a string; A builder's bytes as a string; abi.NoEscape; What is handed back privately, checked; a cell that holds nil as one that holds a row of a told type; Private rows cut; append of a private row's end onto data that has no room; Clocks: what the functions that read and widen them answer; Calls of the library that return a new row; Regions that draw their order, all orders one by one; A region that draws its order whose tail waits on all of the head but on its last operation (a late load). -/
import Derived.Test.YtaojepfldokjdaaM1
import Derived.Test.YtaojepfldokjdaaM2
import Derived.Laws.BytesString
import Derived.Lib.LaidTab
import Derived.Lib.AppendIntMem
import Derived.OpenShut
import Derived.ChangeOld
import Derived.SizedLaws
import Derived.Deep.Slices
import Derived.WideShapes
import Derived.KernelRfl
import Derived.Test.YtaojepfldokjdaaChecked
import Derived.RangeFuncNested
import Derived.Lib.Builder
import Derived.Lib.UnsafeStr
import Derived.Laws.Externs
set_option linter.unusedVariables false
set_option linter.unusedSimpArgs false
section
namespace Go.Gv
open Go.RowKit
/-- Are two keys alike? -/
def cmpK : Value → Value → Option Bool
  | .int k a, .int k' b => (match kEq k k' with | true => some (decide (a = b)) | false => none)
  | .string ⟨⟨a⟩⟩, .string ⟨⟨b⟩⟩ => some (decide (a = b))
  | _, _ => none
/-- A key of its type. -/
def keyOk (P : Program) (kt : TypeId) (key : Value) : Bool := match und P kt, key with
  | some (.int _), .int _ _ => true
  | some .string, .string _ => true
  | _, _ => false
theorem cmp_same {P : Program} {kt : TypeId} {key x : Value} {b : Bool} (h : keyOk P kt key = true) (hc : cmpK key x = some b) : ∃ d, P.underlying kt = some d ∧ Instr.sameNow d key x = some b := by
  simp only [keyOk, und_eq] at h
  split at h
  · next j k a hu =>
    refine ⟨_, hu, ?_⟩
    cases x with
    | int k' b' =>
      simp only [cmpK] at hc
      split at hc
      · next hk =>
        have := kEq_eq hk; subst this
        simp only [Option.some.injEq] at hc; subst hc
        simp only [Instr.sameNow, if_true]; congr 1
      · cases hc
    | _ => simp [cmpK] at hc
  · next s hu =>
    refine ⟨_, hu, ?_⟩
    cases x with
    | string s' =>
      obtain ⟨⟨a⟩⟩ := s
      obtain ⟨⟨b'⟩⟩ := s'
      simp only [cmpK, Option.some.injEq] at hc; subst hc
      simp only [Instr.sameNow]
      congr 1
      by_cases e : a = b'
      · subst e; rw [decide_eq_true rfl]; show (Array.mk a == Array.mk a) = true; simp
      · rw [decide_eq_false e]; show (Array.mk a == Array.mk b') = false; simp [e]
    | _ => simp [cmpK] at hc
  · cases h
theorem cmp_bits {key x : Value} {n : Nat} (hc : cmpK key x = some true) : Instr.sameBits (n + 1) x key = true ∧ key = x := by
  cases key <;> cases x <;> simp only [cmpK] at hc <;> try (cases hc)
  · next k a k' b =>
    split at hc
    · next hk =>
      have := kEq_eq hk; subst this
      simp only [Option.some.injEq, decide_eq_true_eq] at hc; subst hc
      simp [Instr.sameBits]
    · cases hc
  · next s s' =>
    obtain ⟨⟨a⟩⟩ := s
    obtain ⟨⟨b⟩⟩ := s'
    simp only [cmpK, Option.some.injEq, decide_eq_true_eq] at hc
    subst hc
    refine ⟨?_, rfl⟩
    show (Array.mk a == Array.mk a) = true; simp

/-- A key is not among others; it is the j-th. -/
abbrev KeyNo (key : Value) (ks : List Value) : Prop := ∀ (i : Nat) (x : Value), ks[i]? = some x → cmpK key x = some false
abbrev KeyIs (key : Value) (ks : List Value) (j : Nat) : Prop := (∃ x : Value, ks[j]? = some x ∧ cmpK key x = some true) ∧ ∀ (i : Nat) (x : Value), i < j → ks[i]? = some x → cmpK key x = some false

theorem keyOk_d {P : Program} {kt : TypeId} {key : Value} (hk : keyOk P kt key = true) : ∃ d, P.underlying kt = some d ∧ ∀ x b, cmpK key x = some b → Instr.sameNow d key x = some b := by
  have hd : ∃ d, P.underlying kt = some d := by
    simp only [keyOk, und_eq] at hk
    split at hk
    · exact ⟨_, by assumption⟩
    · exact ⟨_, by assumption⟩
    · cases hk
  obtain ⟨d, hd⟩ := hd
  exact ⟨d, hd, fun x b h => by
    obtain ⟨d', h1, h2⟩ := cmp_same hk h
    rw [hd] at h1; cases h1; exact h2⟩
theorem findNow_no {d : TypeDesc} {key : Value} (same : ∀ x b, cmpK key x = some b → Instr.sameNow d key x = some b) : ∀ (es : List MapEntry) (n : Nat), KeyNo key (es.map (·.key)) → Instr.findNow d key es n = some none
  | [], n, _ => rfl
  | e :: es, n, h => by
    simp only [Instr.findNow, same _ _ (h 0 e.key (by simp))]
    exact findNow_no same es (n + 1) fun i x hx => h (i + 1) x (by simpa using hx)
theorem findNow_is {d : TypeDesc} {key : Value} (same : ∀ x b, cmpK key x = some b → Instr.sameNow d key x = some b) : ∀ (es : List MapEntry) (n j : Nat) (e : MapEntry), KeyIs key (es.map (·.key)) j → es[j]? = some e → Instr.findNow d key es n = some (some (n + j, e.val))
  | [], n, j, e, _, h => by simp at h
  | e0 :: es, n, 0, e, h, he => by
    obtain ⟨⟨x, hx, hc⟩, _⟩ := h
    simp at hx he; subst hx; subst he
    simp only [Instr.findNow, same _ _ hc]; simp
  | e0 :: es, n, j + 1, e, h, he => by
    simp only [Instr.findNow, same _ _ (h.2 0 e0.key (by omega) (by simp))]
    rw [findNow_is same es (n + 1) j e ⟨by obtain ⟨⟨x, hx, hc⟩, _⟩ := h; exact ⟨x, by simpa using hx, hc⟩, fun i x hi hx => h.2 (i + 1) x (by omega) (by simpa using hx)⟩ (by simpa using he)]
    congr 3; omega
theorem checkKey_run {P : Program} {kt : TypeId} {key : Value} {em : Bool} {n : Nat} {w : World} (hk : keyOk P kt key = true) : (Instr.checkKey em (n + 1) kt key).run P w = .ok () w := by
  simp only [keyOk, und_eq] at hk
  split at hk
  · next hu => simp [Instr.checkKey, underlying, hu]
  · next hu => simp [Instr.checkKey, underlying, hu]
  · cases hk
theorem findKey_no {P : Program} {kt : TypeId} {key : Value} {es : List MapEntry} {w : World} (hk : keyOk P kt key = true) (hr : KeyNo key (es.map (·.key))) : (Instr.findKey kt key es).run P w = .ok none w := by
  obtain ⟨d, hd, same⟩ := keyOk_d hk
  simp only [Instr.findKey, Sem.run_bind, run_underlying hd, Result.andThen_ok, findNow_no same es 0 hr, Sem.run_pure]
theorem findKey_is {P : Program} {kt : TypeId} {key : Value} {es : List MapEntry} {j : Nat} {e : MapEntry} {w : World} (hk : keyOk P kt key = true) (hr : KeyIs key (es.map (·.key)) j) (he : es[j]? = some e) : (Instr.findKey kt key es).run P w = .ok (some (j, e.val)) w := by
  obtain ⟨d, hd, same⟩ := keyOk_d hk
  have := findNow_is same es 0 j e hr he
  rw [Nat.zero_add] at this
  simp only [Instr.findKey, Sem.run_bind, run_underlying hd, Result.andThen_ok, this, Sem.run_pure]

/-! ### What is looked up -/
def mapOf (σ : Sg) : AV → Option (Bool × List Value × List (List D))
  | .mp i => (match look i σ with
    | some (.mp ag ks vs) => some (ag, ks, vs)
    | _ => none)
  | .d (.mp ag ks vs) => some (ag, ks, vs)
  | .d (.v (.map none)) => some (false, [], [])
  | _ => none
theorem MapRep.keys {H : HF} {ag : Bool} {ks : List Value} {vs : List (List D)} {es : Array MapEntry} {us : Nat → List Value} (h : MapRep H ag ks vs es us) : es.toList.map (·.key) = ks := by
  apply List.ext_getElem?
  intro j
  rw [List.getElem?_map]
  cases he : es.toList[j]? with
  | none =>
    have : es.size ≤ j := by simpa using he
    rw [List.getElem?_eq_none (by rw [← h.l]; exact this)]; rfl
  | some e => rw [(h.k j e (by simpa using he)).1]; rfl
/-- A map's entries. -/
def esOf (w : World) : Value → Option (Array MapEntry)
  | .map none => some #[]
  | .map (some b) => (match w.heap[b]? with
    | some (.map es _) => some es
    | _ => none)
  | _ => none
theorem mapOf_rep {w0 w : World} {H0 H : HF} {B : Nat → Prop} {γ : Ids} {σ : Sg} (m : Mem w0 H0 B γ H σ w) {a : AV} {ag : Bool} {ks : List Value} {vs : List (List D)} (h : mapOf σ a = some (ag, ks, vs)) {u : Value} (r : Rep γ H a u) :
    ∃ es us, esOf w u = some es ∧ MapRep H ag ks vs es us := by
  unfold mapOf at h
  split at h
  · next i =>
    split at h
    · next ag' ks' vs' hi =>
      simp only [Option.some.injEq, Prod.mk.injEq] at h
      obtain ⟨rfl, rfl, rfl⟩ := h
      obtain ⟨es, clock, us, h1, h2⟩ := m.ent i _ hi
      cases r with
      | mp _ => exact ⟨es, us, by simp [esOf, h1], h2⟩
    · cases h
  · simp only [Option.some.injEq, Prod.mk.injEq] at h
    obtain ⟨rfl, rfl, rfl⟩ := h
    cases rep_d r with
    | mp _ _ _ b es clock us hm hl hl2 hk hu hh => exact ⟨es, us, by simp [esOf, m.hok.m _ _ _ hm], ⟨hl, hl2, hk, hu, hh⟩⟩
  · simp only [Option.some.injEq, Prod.mk.injEq] at h
    obtain ⟨rfl, rfl, rfl⟩ := h
    obtain rfl := rep_v r
    exact ⟨#[], fun _ => [], rfl, ⟨rfl, rfl, fun j e h => by simp at h, fun j cs h => by simp at h, fun j i cs a u h => by simp at h⟩⟩
  · cases h
theorem lookup_no {P : Program} {w : World} {mt kt et : TypeId} {x key z : Value} {ok : Bool} {es : Array MapEntry} (hu : P.underlying mt = some (.map kt et)) (he : esOf w x = some es) (hk : keyOk P kt key = true) (hz : zeroOf P et = some z) (hr : KeyNo key (es.toList.map (·.key))) :
    (Instr.lookup mt x key ok).run P w = .ok (if ok = true then .tuple #[z, .bool false] else z) w := by
  have h1 := findKey_no (P := P) (w := w) hk hr
  have h2 := checkKey_run (P := P) (em := es.isEmpty) (n := 9999) (w := w) hk
  unfold esOf at he
  split at he
  · cases he
    simp only [Instr.lookup, Sem.run_bind, run_underlying hu, Result.andThen_ok, Sem.run_pure, h2, h1, zeroOf_run hz]
  · next b =>
    split at he
    · next es' c hb =>
      cases he
      have hg : (getObj b).run P w = .ok (.map es c) w := by simp [getObj, Sem.run, hb]
      simp only [Instr.lookup, Sem.run_bind, run_underlying hu, Result.andThen_ok, Sem.run_pure, hg, h2, h1, zeroOf_run hz]
    · cases he
  · cases he
theorem lookup_is {P : Program} {w : World} {mt kt et : TypeId} {x key : Value} {ok : Bool} {es : Array MapEntry} {j : Nat} {e : MapEntry} (hu : P.underlying mt = some (.map kt et)) (he : esOf w x = some es) (hk : keyOk P kt key = true) (hr : KeyIs key (es.toList.map (·.key)) j) (hj : es.toList[j]? = some e) :
    (Instr.lookup mt x key ok).run P w = .ok (if ok = true then .tuple #[e.val, .bool true] else e.val) w := by
  have h1 := findKey_is (P := P) (w := w) hk hr hj
  have h2 := checkKey_run (P := P) (em := es.isEmpty) (n := 9999) (w := w) hk
  unfold esOf at he
  split at he
  · cases he
    simp at hj
  · next b =>
    split at he
    · next es' c hb =>
      cases he
      have hg : (getObj b).run P w = .ok (.map es c) w := by simp [getObj, Sem.run, hb]
      simp only [Instr.lookup, Sem.run_bind, run_underlying hu, Result.andThen_ok, Sem.run_pure, hg, h2, h1]
    · cases he
  · cases he
/-- What a map's value is. -/
def valAV (ag : Bool) (cs : List D) : AV := match ag, cs with
  | true, cs => .agg (cs.map .d)
  | false, [c] => .d c
  | false, _ => .junk
theorem valAV_rep {γ : Ids} {H : HF} {ag : Bool} {cs : List D} {us : List Value} (hl : us.length = cs.length) (h : ∀ (i : Nat) (a : D) (u : Value), cs[i]? = some a → us[i]? = some u → RepD H a u) : Rep γ H (valAV ag cs) (valAg ag us) := by
  cases ag with
  | true => exact rep_map_d hl h
  | false =>
    match cs, us, hl with
    | [], _, _ => exact .junk _
    | [c], [u], _ => exact .d _ _ (h 0 c u rfl rfl)
    | _ :: _ :: _, _, _ => exact .junk _
def wrapOk (ok : Bool) (b : Bool) (V : AV) : AV := match ok with
  | true => .tup [V, .d (.v (.bool b))]
  | false => V
theorem wrapOk_rep {γ : Ids} {H : HF} {ok b : Bool} {V : AV} {v : Value} (h : Rep γ H V v) : Rep γ H (wrapOk ok b V) (if ok = true then .tuple #[v, .bool b] else v) := by
  cases ok with
  | true => exact rep_two h rep_bool
  | false => exact h
/-- A key's value, and what is known where there is none. -/
def LookP (key : Value) (ks : List Value) (vs : List (List D)) (A : List D → Prop) (B : Prop) : Prop := (∃ j cs, KeyIs key ks j ∧ vs[j]? = some cs ∧ A cs) ∨ (KeyNo key ks ∧ B)
section
variable {X : Cx} {d : Option Nat} {ty : TypeId} {pos : String} {aft : Array Edge} {g : Option (Nat × Bool)} {t : T} {σ : Sg} {K : AV → Prop} {F : Prop}
theorem O.lookNo {mt kt et : TypeId} {x y : Operand} {ok : Bool} {av : AV} {ag : Bool} {ks : List Value} {vs : List (List D)} {key z : Value} (hu : X.P.underlying mt = some (.map kt et)) (hx : ge t x = some av) (hm : mapOf σ av = some (ag, ks, vs))
    (hy : ge t y = some (.d (.v key))) (hk : keyOk X.P kt key = true) (hz : zeroOf X.P et = some z) (hr : KeyNo key ks) : QJ X ⟨d, .lookup mt x y ok, ty, pos, aft, g⟩ t σ (wrapOk ok false (ofConst z)) :=
  QJ.value (by simp) (fun γ H a w so sm => by
    have e2 := rep_v (so y (by simp [Op.operands]) _ hy)
    obtain ⟨es, us, h1, h2⟩ := mapOf_rep sm hm (so x (by simp [Op.operands]) _ hx)
    have := lookup_no (w := w) (ok := ok) hu h1 hk hz (by rw [h2.keys]; exact hr)
    exact ⟨_, by simp only [execOp, Sem.run_bind, e2, this, Result.andThen_ok, Sem.run_pure], wrapOk_rep (rep_const γ H z)⟩)
theorem O.lookIs {mt kt et : TypeId} {x y : Operand} {ok : Bool} {av : AV} {ag : Bool} {ks : List Value} {vs : List (List D)} {key : Value} {j : Nat} {cs : List D} (hu : X.P.underlying mt = some (.map kt et)) (hx : ge t x = some av) (hm : mapOf σ av = some (ag, ks, vs))
    (hy : ge t y = some (.d (.v key))) (hk : keyOk X.P kt key = true) (hr : KeyIs key ks j) (hc : vs[j]? = some cs) : QJ X ⟨d, .lookup mt x y ok, ty, pos, aft, g⟩ t σ (wrapOk ok true (valAV ag cs)) :=
  QJ.value (by simp) (fun γ H a w so sm => by
    have e2 := rep_v (so y (by simp [Op.operands]) _ hy)
    obtain ⟨es, us, h1, h2⟩ := mapOf_rep sm hm (so x (by simp [Op.operands]) _ hx)
    have hj : j < es.size := by rw [h2.l, ← h2.l2]; exact (List.getElem?_eq_some_iff.1 hc).1
    have he : es[j]? = some es[j] := by simp [hj]
    have := lookup_is (w := w) (ok := ok) (e := es[j]) hu h1 hk (by rw [h2.keys]; exact hr) (by simp [hj])
    refine ⟨if ok = true then .tuple #[es[j].val, .bool true] else es[j].val, by simp only [execOp, Sem.run_bind, e2, this, Result.andThen_ok, Sem.run_pure], wrapOk_rep ?_⟩
    rw [(h2.k j _ he).2]
    exact valAV_rep (h2.u j cs hc) fun i a u ha hu => h2.r j i cs a u hc ha hu)
def qLook (X : Cx) (mt : TypeId) (x y : Operand) (ok : Bool) (t : T) (σ : Sg) (K : AV → Prop) (F : Prop) : Prop := match und X.P mt, ge t x, ge t y with
  | some (.map kt et), some av, some (.d (.v key)) => (match mapOf σ av, keyOk X.P kt key, zeroOf X.P et with
    | some (ag, ks, vs), true, some z => LookP key ks vs (fun cs => K (wrapOk ok true (valAV ag cs))) (K (wrapOk ok false (ofConst z)))
    | _, _, _ => F)
  | _, _, _ => F
theorem qLook_sound {mt : TypeId} {x y : Operand} {ok : Bool} (h : qLook X mt x y ok t σ K F) : Yields X ⟨d, .lookup mt x y ok, ty, pos, aft, g⟩ t σ K F := by
  simp only [qLook, und_eq] at h
  split at h
  · next kt et av key hu hx hy =>
    split at h
    · next ag ks vs z hm hk hz =>
      rcases h with ⟨j, cs, h1, h2, h3⟩ | ⟨h1, h2⟩
      · exact .inl ⟨_, O.lookIs hu hx hm hy hk h1 h2, h3⟩
      · exact .inl ⟨_, O.lookNo hu hx hm hy hk hz h1, h2⟩
    · exact .inr h
  · exact .inr h
end

/-! ### Maps by whole numbers, and by texts -/
def alook {κ α : Type} [DecidableEq κ] (n : κ) : List (κ × α) → Option α
  | [] => none
  | p :: m => if n = p.1 then some p.2 else alook n m
def aset {κ α : Type} [DecidableEq κ] (n : κ) (x : α) : List (κ × α) → List (κ × α)
  | [] => [(n, x)]
  | p :: m => if n = p.1 then (n, x) :: m else p :: aset n x m
theorem alook_aset {κ α : Type} [DecidableEq κ] (n k : κ) (x : α) : ∀ m : List (κ × α), alook k (aset n x m) = if k = n then some x else alook k m
  | [] => by simp [aset, alook]
  | p :: m => by
    simp only [aset]
    by_cases h : n = p.1
    · rw [if_pos h]; simp only [alook]; by_cases h2 : k = n
      · rw [if_pos h2, if_pos h2]
      · rw [if_neg h2, if_neg h2, if_neg (fun e => h2 (e.trans h.symm))]
    · rw [if_neg h]; simp only [alook, alook_aset n k x m]
      by_cases h2 : k = p.1
      · rw [if_pos h2, if_neg (fun e => h (e.symm.trans h2)), if_pos h2]
      · rw [if_neg h2, if_neg h2]
theorem alook_is {κ α : Type} [DecidableEq κ] {n : κ} : ∀ {m : List (κ × α)} {x : α}, alook n m = some x → ∃ j, m[j]? = some (n, x) ∧ ∀ (i : Nat) (p : κ × α), i < j → m[i]? = some p → n ≠ p.1
  | [], x, h => by simp [alook] at h
  | p :: m, x, h => by
    simp only [alook] at h
    by_cases e : n = p.1
    · rw [if_pos e] at h
      simp only [Option.some.injEq] at h
      exact ⟨0, by subst h; subst e; simp, fun i p hi => by omega⟩
    · rw [if_neg e] at h
      obtain ⟨j, h1, h2⟩ := alook_is h
      refine ⟨j + 1, by simpa using h1, fun i q hi hq => ?_⟩
      cases i with
      | zero => simp at hq; subst hq; exact e
      | succ i => exact h2 i q (by omega) (by simpa using hq)
theorem alook_no {κ α : Type} [DecidableEq κ] {n : κ} : ∀ {m : List (κ × α)}, alook n m = none → ∀ p, p ∈ m → n ≠ p.1
  | [], _, p, hp => by simp at hp
  | q :: m, h, p, hp => by
    simp only [alook] at h
    split at h
    · cases h
    · next e =>
      rcases List.mem_cons.1 hp with rfl | h1
      · exact e
      · exact alook_no h p h1
theorem aset_is {κ α : Type} [DecidableEq κ] {n : κ} {x : α} : ∀ {m : List (κ × α)} {j : Nat} {y : α}, m[j]? = some (n, y) → (∀ (i : Nat) (p : κ × α), i < j → m[i]? = some p → n ≠ p.1) → aset n x m = m.set j (n, x)
  | [], j, y, h, _ => by simp at h
  | p :: m, 0, y, h, _ => by simp at h; subst h; simp [aset]
  | p :: m, j + 1, y, h, hn => by
    have := hn 0 p (by omega) (by simp)
    simp only [aset, if_neg this, List.set_cons_succ]
    rw [aset_is (by simpa using h) fun i q hi hq => hn (i + 1) q (by omega) (by simpa using hq)]
theorem aset_no {κ α : Type} [DecidableEq κ] {n : κ} {x : α} : ∀ {m : List (κ × α)}, (∀ p, p ∈ m → n ≠ p.1) → aset n x m = m ++ [(n, x)]
  | [], _ => rfl
  | p :: m, h => by
    simp only [aset, if_neg (h p (by simp)), List.cons_append]
    rw [aset_no fun q hq => h q (List.mem_cons_of_mem _ hq)]
/-- Keys as values. -/
structure KV (κ : Type) [DecidableEq κ] where
  val : κ → Value
  cmp : ∀ a b : κ, cmpK (val a) (val b) = some (decide (a = b))
def kInt : KV Int := ⟨.int .i64, fun _ _ => rfl⟩
theorem keyNo_of {κ α : Type} [DecidableEq κ] (kv : KV κ) {n : κ} {m : List (κ × α)} (h : ∀ p, p ∈ m → n ≠ p.1) : KeyNo (kv.val n) (m.map fun p => kv.val p.1) := fun i x hx => by
  simp only [List.getElem?_map, Option.map_eq_some_iff] at hx
  obtain ⟨p, hp, rfl⟩ := hx
  rw [kv.cmp, decide_eq_false (h p (mem_of_get hp))]
theorem keyIs_of {κ α : Type} [DecidableEq κ] (kv : KV κ) {n : κ} {m : List (κ × α)} {j : Nat} {x : α} (h : m[j]? = some (n, x)) (hn : ∀ (i : Nat) (p : κ × α), i < j → m[i]? = some p → n ≠ p.1) : KeyIs (kv.val n) (m.map fun p => kv.val p.1) j :=
  ⟨⟨kv.val n, by simp [h], by rw [kv.cmp, decide_eq_true rfl]⟩, fun i x hi hx => by
    simp only [List.getElem?_map, Option.map_eq_some_iff] at hx
    obtain ⟨p, hp, rfl⟩ := hx
    rw [kv.cmp, decide_eq_false (hn i p hi hp)]⟩
/-- What is looked up in a map that is told as a list. -/
theorem LookP.by {κ α : Type} [DecidableEq κ] (kv : KV κ) {n : κ} (m : List (κ × α)) {e : α → List D} {A : List D → Prop} {B : Prop} (hs : ∀ x, alook n m = some x → A (e x)) (hn : alook n m = none → B) :
    LookP (kv.val n) (m.map fun p => kv.val p.1) (m.map fun p => e p.2) A B := by
  cases h : alook n m with
  | some x =>
    obtain ⟨j, h1, h2⟩ := alook_is h
    exact .inl ⟨j, e x, keyIs_of kv h1 h2, by simp [h1], hs x h⟩
  | none => exact .inr ⟨keyNo_of kv (alook_no h), hn h⟩

/-! ### Maps that are written -/
theorem mapUpd_no {P : Program} {w : World} {mt kt et : TypeId} {b : Nat} {es : Array MapEntry} {clock : Nat} {key v : Value} (hu : P.underlying mt = some (.map kt et)) (hb : w.heap[b]? = some (.map es clock)) (hk : keyOk P kt key = true) (hr : KeyNo key (es.toList.map (·.key))) :
    (Instr.mapUpdate mt (.map (some b)) key v).run P w = .ok () (w.putObj b (.map (es.push { key, val := v, born := clock }) (clock + 1))) := by
  have h1 := findKey_no (P := P) (w := w) hk hr
  have h2 := checkKey_run (P := P) (em := false) (n := 9999) (w := w) hk
  have hg : (getObj b).run P w = .ok (.map es clock) w := by simp [getObj, Sem.run, hb]
  have hs : ∀ o, (setObj b o).run P w = .ok () (w.putObj b o) := fun o => by simp [setObj, Sem.run, hb, World.putObj]
  simp only [Instr.mapUpdate, Sem.run_bind, run_underlying hu, Result.andThen_ok, hg, h2, h1, hs]
theorem mapUpd_is {P : Program} {w : World} {mt kt et : TypeId} {b : Nat} {es : Array MapEntry} {clock : Nat} {key v : Value} {j : Nat} {e : MapEntry} (hu : P.underlying mt = some (.map kt et)) (hb : w.heap[b]? = some (.map es clock)) (hk : keyOk P kt key = true) (hr : KeyIs key (es.toList.map (·.key)) j) (hj : es[j]? = some e) :
    (Instr.mapUpdate mt (.map (some b)) key v).run P w = .ok () (w.putObj b (.map (es.modify j fun e => { e with key := key, val := v }) clock)) := by
  have h1 := findKey_is (P := P) (w := w) hk hr (e := e) (by simpa using hj)
  have h2 := checkKey_run (P := P) (em := false) (n := 9999) (w := w) hk
  have hg : (getObj b).run P w = .ok (.map es clock) w := by simp [getObj, Sem.run, hb]
  have hs : ∀ o, (setObj b o).run P w = .ok () (w.putObj b o) := fun o => by simp [setObj, Sem.run, hb, World.putObj]
  have hc : cmpK key e.key = some true := by
    obtain ⟨⟨x, hx, hc⟩, _⟩ := hr
    simp only [List.getElem?_map, Array.getElem?_toList, hj, Option.map_some, Option.some.injEq] at hx
    rw [hx]; exact hc
  have h3 := (cmp_bits (n := 9999) hc).1
  simp only [Instr.mapUpdate, Sem.run_bind, run_underlying hu, Result.andThen_ok, hg, h2, h1, hj, Option.map_some, Option.getD_some, Instr.keyThatStays, h3, if_true, Sem.run_pure, hs]
/-- What is written into a map. -/
def PutP (key : Value) (ks : List Value) (vs : List (List D)) (ds : List D) (K : List Value → List (List D) → Prop) : Prop := (∃ j, KeyIs key ks j ∧ K ks (vs.set j ds)) ∨ (KeyNo key ks ∧ K (ks ++ [key]) (vs ++ [ds]))
def agAV : AV → Bool
  | .agg _ => true
  | _ => false
theorem agAV_val {γ : Ids} {H : HF} {a : AV} {u : Value} {ds : List D} (r : Rep γ H a u) (h1 : oneAV a = true) (hd : dAll (avCells a) = some ds) : ∃ us : List Value, u = valAg (agAV a) us ∧ us.length = ds.length ∧ ∀ (i : Nat) (x : D) (v : Value), ds[i]? = some x → us[i]? = some v → RepD H x v := by
  cases r with
  | agg cs us hl hr =>
    obtain ⟨h2, h3⟩ := dAll_get hd
    refine ⟨us, rfl, by rw [hl, h2]; rfl, fun i x v hx hv => ?_⟩
    obtain ⟨a, ha, hx'⟩ := h3 i x hx
    exact dOf_sound hx' (hr i a v ha hv)
  | d x u hr =>
    refine ⟨[u], rfl, by cases hd; rfl, fun i y v hy hv => ?_⟩
    cases hd
    cases i with
    | zero => simp at hy hv; subst hy; subst hv; exact hr
    | succ i => simp at hy
  | full k xs A hr =>
    refine ⟨[_], rfl, by cases hd; rfl, fun i y v hy hv => ?_⟩
    cases hd
    cases i with
    | zero => simp at hy hv; subst hy; subst hv; exact hr
    | succ i => simp at hy
  | _ => simp [avCells, dAll, dOf] at hd
section
variable {X : Cx} {d : Option Nat} {ty : TypeId} {pos : String} {aft : Array Edge} {g : Option (Nat × Bool)} {t : T} {σ : Sg} {K : T → Sg → Prop} {F : Prop}
theorem map_put {γ : Ids} {H : HF} {a : Act} {w : World} {i : Nat} {ag : Bool} {ks : List Value} {vs : List (List D)} {mt kt et : TypeId} {key v : Value} {us : List Value} {ds : List D} (s : St X γ H t σ a w) (hi : look i σ = some (.mp ag ks vs)) (hu : X.P.underlying mt = some (.map kt et))
    (hk : keyOk X.P kt key = true) (hv : v = valAg ag us) (hl : us.length = ds.length) (hr : ∀ (i : Nat) (x : D) (v : Value), ds[i]? = some x → us[i]? = some v → RepD H x v) {R : List Value → List (List D) → Prop} (hp : PutP key ks vs ds R) :
    ∃ w' ks' vs', (Instr.mapUpdate mt (.map (some (γ i).b)) key v).run X.P w = .ok () w' ∧ R ks' vs' ∧ ∀ (dd : Option Nat) (u : Value), dOk dd X.N = true → St X γ H (putT dd .junk t) ((i, .mp ag ks' vs') :: σ) (a.put dd u) w' := by
  obtain ⟨es, clock, f, hb, hm⟩ := s.mem.ent i _ hi
  have hlt := lt_of_heap hb
  have turn : ∀ (o : Obj) ks' vs', EntOk γ H (w.putObj (γ i).b o) i (.mp ag ks' vs') → ∀ (dd : Option Nat) (u : Value), dOk dd X.N = true → St X γ H (putT dd .junk t) ((i, .mp ag ks' vs') :: σ) (a.put dd u) (w.putObj (γ i).b o) := fun o ks' vs' he dd u hN =>
    s.turn hi rfl (s.mem.turn (w' := w.putObj (γ i).b o) (e' := .mp ag ks' vs') hi rfl ⟨rfl, rfl, rfl, by simp, fun k hk => World.putObj_heap_other hk⟩ he fun b hb => hb) hN (.junk _)
  rcases hp with ⟨j, h1, h2⟩ | ⟨h1, h2⟩
  · have hj : j < es.size := by
      obtain ⟨⟨x, hx, _⟩, _⟩ := h1
      rw [hm.l]; exact (List.getElem?_eq_some_iff.1 hx).1
    have he : es[j]? = some es[j] := by simp [hj]
    have hkj : key = es[j].key := by
      obtain ⟨⟨x, hx, hc⟩, _⟩ := h1
      have := (hm.k j _ he).1
      rw [this] at hx
      cases hx; exact (cmp_bits (n := 0) hc).2
    refine ⟨_, ks, vs.set j ds, mapUpd_is (v := v) hu hb hk (by rw [hm.keys]; exact h1) he, h2, turn _ _ _ ⟨_, clock, fun l => if l = j then us else f l, World.putObj_heap_same hlt, ?_⟩⟩
    refine ⟨by simp [hm.l], by simp [hm.l2], fun l e hl' => ?_, fun l cs hl' => ?_, fun l m cs x u hc ha hu' => ?_⟩
    · rw [Array.getElem?_modify] at hl'
      by_cases hlj : j = l
      · rw [if_pos hlj] at hl'
        subst hlj
        rw [he] at hl'
        simp only [Option.map_some, Option.some.injEq] at hl'
        subst hl'
        simp only [if_pos]
        exact ⟨by rw [hkj]; exact (hm.k j _ he).1, hv⟩
      · rw [if_neg hlj] at hl'
        have := hm.k l e (by simpa using hl')
        rw [if_neg (fun e => hlj e.symm)]; exact this
    · rw [List.getElem?_set] at hl'
      by_cases hlj : j = l
      · subst hlj
        rw [if_pos rfl] at hl'
        split at hl'
        · cases hl'; simp only [if_pos]; exact hl
        · cases hl'
      · rw [if_neg hlj] at hl'
        rw [if_neg (fun e => hlj e.symm)]; exact hm.u l cs hl'
    · rw [List.getElem?_set] at hc
      by_cases hlj : j = l
      · subst hlj
        rw [if_pos rfl] at hc
        simp only [if_pos] at hu'
        split at hc
        · cases hc; exact hr m x u ha hu'
        · cases hc
      · rw [if_neg hlj] at hc
        rw [if_neg (fun e => hlj e.symm)] at hu'
        exact hm.r l m cs x u hc ha hu'
  · refine ⟨_, ks ++ [key], vs ++ [ds], mapUpd_no (v := v) hu hb hk (by rw [hm.keys]; exact h1), h2, turn _ _ _ ⟨_, clock + 1, fun l => if l = es.size then us else f l, World.putObj_heap_same hlt, ?_⟩⟩
    have hl1 : vs.length = es.size := by rw [hm.l2, hm.l]
    refine ⟨by simp [hm.l], by simp [hm.l2], fun l e hl' => ?_, fun l cs hl' => ?_, fun l m cs x u hc ha hu' => ?_⟩
    · rw [Array.getElem?_push] at hl'
      by_cases hlj : l = es.size
      · rw [if_pos hlj] at hl'
        cases hl'
        subst hlj
        simp only [if_pos]
        exact ⟨by rw [hm.l, List.getElem?_append_right (Nat.le_refl _)]; simp, hv⟩
      · rw [if_neg hlj] at hl'
        have hlt' : l < es.size := (Array.getElem?_eq_some_iff.1 hl').1
        rw [if_neg hlj, List.getElem?_append_left (by rw [← hm.l]; exact hlt')]
        exact hm.k l e hl'
    · by_cases hlj : l = es.size
      · subst hlj
        rw [List.getElem?_append_right (by omega), hl1] at hl'
        simp at hl'; subst hl'
        simp only [if_pos]; exact hl
      · have hlt' : l < vs.length := by
          have := (List.getElem?_eq_some_iff.1 hl').1
          simp at this; omega
        rw [List.getElem?_append_left hlt'] at hl'
        rw [if_neg hlj]; exact hm.u l cs hl'
    · by_cases hlj : l = es.size
      · subst hlj
        rw [List.getElem?_append_right (by omega), hl1] at hc
        simp at hc; subst hc
        simp only [if_pos] at hu'
        exact hr m x u ha hu'
      · have hlt' : l < vs.length := by
          have := (List.getElem?_eq_some_iff.1 hc).1
          simp at this; omega
        rw [List.getElem?_append_left hlt'] at hc
        rw [if_neg hlj] at hu'
        exact hm.r l m cs x u hc ha hu'
def eMapPut (X : Cx) (d : Option Nat) (mt : TypeId) (x y z : Operand) (t : T) (σ : Sg) (K : T → Sg → Prop) (F : Prop) : Prop := match und X.P mt, ge t x, ge t y, ge t z with
  | some (.map kt et), some (.mp i), some (.d (.v key)), some av => (match look i σ, dAll (avCells av) with
    | some (.mp ag ks vs), some ds => (match keyOk X.P kt key && (agAV av == ag) && oneAV av && dOk d X.N with
      | true => PutP key ks vs ds fun ks' vs' => K (putT d .junk t) ((i, .mp ag ks' vs') :: σ)
      | false => F)
    | _, _ => F)
  | _, _, _, _ => F
theorem eMapPut_run {mt : TypeId} {x y z : Operand} {op : Op} (hop : ∀ ρ : Operand → Value, execOp ρ ⟨d, op, ty, pos, aft, g⟩ = execOp ρ ⟨d, .mapUpdate mt x y z, ty, pos, aft, g⟩) (hnd : ∀ c, op ≠ .defer c) (h : eMapPut X d mt x y z t σ K (OpJ X ⟨d, op, ty, pos, aft, g⟩ t σ K)) : OpJ X ⟨d, op, ty, pos, aft, g⟩ t σ K := by
  simp only [eMapPut, und_eq] at h
  split at h
  · next kt et i key av hu hx hy hz =>
    split at h
    · next ag ks vs ds hi hd =>
      split at h
      · next hb =>
        simp only [Bool.and_eq_true, beq_iff_eq] at hb
        obtain ⟨⟨⟨h1, h2⟩, h3⟩, h4⟩ := hb
        intro γ H a w s next Q' hk
        have r1 := ge_sound s.tmp hx
        have r2 := rep_v (ge_sound s.tmp hy)
        obtain ⟨us, e3, h5, h6⟩ := agAV_val (ge_sound s.tmp hz) h3 hd
        generalize hq : a.eval x = q at r1
        cases r1 with
        | mp _ =>
        obtain ⟨w', ks', vs', hw, hR, hst⟩ := map_put (v := a.eval z) s hi hu h1 (by rw [← h2]; exact e3) h5 h6 h
        have hrun : (execOp a.eval ⟨d, op, ty, pos, aft, g⟩).run X.P w = .ok .skip w' := by
          rw [hop]
          simp only [execOp, hq, r2, Sem.run_bind, hw, Result.andThen_ok, Sem.run_pure]
        rw [semAt_of hnd, hrun, Oper.uponIn_skip]
        exact hk γ H _ _ _ w' (hst d undef h4) hR
      · exact h
    · exact h
  · exact h
theorem O.makeMap {i : Nat} {mt : TypeId} {ag : Bool} (hN : dOk (some i) X.N = true) (hf : isFresh i t σ X.pin = true) (k : K ((i, .mp i) :: t) ((i, .mp ag [] []) :: σ)) : OpJ X ⟨some i, .makeMap mt none, ty, pos, aft, g⟩ t σ K := by
  intro γ H a w s next Q' hk
  have hrun : (execOp a.eval ⟨some i, .makeMap mt none, ty, pos, aft, g⟩).run X.P w = .ok (.value (.map (some w.heap.size))) (w.alloc (.map #[] 0)) := by
    simp [execOp, run_makeMap]
  rw [semAt_of (by simp), hrun, Oper.uponIn_value]
  have hm := s.mem.new i (.mp ag [] []) (.map #[] 0) 0 (by
    refine ⟨#[], 0, fun _ => [], ?_, ⟨rfl, rfl, fun j e h => by simp at h, fun j cs h => by simp at h, fun j i cs a u h => by simp at h⟩⟩
    rw [upd_same]; exact World.alloc_heap_new w _) (fun _ _ h => by cases h)
  refine hk _ H _ _ _ _ (s.new (d := some i) (V := .mp i) hm hf hN ?_) k
  have := Rep.mp (γ := upd γ i ⟨w.heap.size, 0, fun _ => False⟩) (H := H) i
  rw [upd_same] at this; exact this
def eMakeMap (X : Cx) (i : Nat) (mt : TypeId) (t : T) (σ : Sg) (K : T → Sg → Prop) (F : Prop) : Prop := match und X.P mt with
  | some (.map _ et) => (match aggOf X.P et with
    | some ag => (match isFresh i t σ X.pin && dOk (some i) X.N with
      | true => K ((i, .mp i) :: t) ((i, .mp ag [] []) :: σ)
      | false => F)
    | none => F)
  | _ => F
theorem eMakeMap_sound {i : Nat} {mt : TypeId} (h : eMakeMap X i mt t σ K (OpJ X ⟨some i, .makeMap mt none, ty, pos, aft, g⟩ t σ K)) : OpJ X ⟨some i, .makeMap mt none, ty, pos, aft, g⟩ t σ K := by
  simp only [eMakeMap, und_eq] at h
  split at h
  · split at h
    · split at h
      · next hb => simp only [Bool.and_eq_true] at hb; exact O.makeMap hb.2 hb.1 h
      · exact h
    · exact h
  · exact h
end
/-- What is written into a map that is told as a list. -/
theorem PutP.by {κ α : Type} [DecidableEq κ] (kv : KV κ) {n : κ} (m : List (κ × α)) {e : α → List D} (x : α) {K : List Value → List (List D) → Prop} (h : K ((aset n x m).map fun p => kv.val p.1) ((aset n x m).map fun p => e p.2)) :
    PutP (kv.val n) (m.map fun p => kv.val p.1) (m.map fun p => e p.2) (e x) K := by
  cases hl : alook n m with
  | some y =>
    obtain ⟨j, h1, h2⟩ := alook_is hl
    refine .inl ⟨j, keyIs_of kv h1 h2, ?_⟩
    rw [aset_is h1 h2, List.map_set, List.map_set] at h
    have : (m.map fun p => kv.val p.1).set j (kv.val n) = m.map fun p => kv.val p.1 := by
      apply List.ext_getElem?
      intro l
      rw [List.getElem?_set]
      split
      · next e => subst e; rw [if_pos (by simp; exact (List.getElem?_eq_some_iff.1 h1).1), List.getElem?_map, h1]; rfl
      · rfl
    rw [this] at h; exact h
  | none =>
    have h1 := alook_no hl
    refine .inr ⟨keyNo_of kv h1, ?_⟩
    rw [aset_no h1, List.map_append, List.map_append] at h
    exact h
end Go.Gv
end
section
namespace Go.Gv
open Go.RowKit

/-! ### Literals -/
def chunkL (k : Nat) : Nat → List D → List (List D)
  | 0, _ => []
  | n + 1, ds => ds.take k :: chunkL k n (ds.drop k)
theorem chunkL_eq (k : Nat) : ∀ (n : Nat) (ds : List D), chunkL k n ds = chunk k n ds
  | 0, ds => by simp [chunkL, chunk]
  | n + 1, ds => by
    rw [chunkL, chunkL_eq k n]
    simp only [chunk]
    rw [List.range_succ_eq_map]
    simp only [List.map_cons, List.map_map, Nat.zero_mul, List.drop_zero, List.cons.injEq, true_and]
    refine List.map_congr_left fun j _ => ?_
    simp only [Function.comp, List.drop_drop, Nat.succ_eq_add_one]
    rw [Nat.add_mul, Nat.one_mul, Nat.add_comm]
def cellsP (P : Program) (t : TypeId) : Nat := match inf P t with | some i => i.size | none => 0
theorem cellsP_eq (P : Program) (t : TypeId) : cellsP P t = P.cellsOf t := by
  unfold cellsP Program.cellsOf; rw [inf_eq]; cases P.info? t <;> rfl
def placeS (fs : List Field) (P : Program) (i : Nat) : Option (Nat × Nat) := match fs[i]? with
  | some f => some (f.offset, cellsP P f.type)
  | none => none
theorem placeS_eq (fs : List Field) (P : Program) (i : Nat) : (fs.map fun f => (f.offset, P.cellsOf f.type))[i]? = placeS fs P i := by
  unfold placeS
  rw [List.getElem?_map]
  cases fs[i]? <;> simp [cellsP_eq]
def infoAll (P : Program) : List Field → Bool
  | [] => true
  | f :: r => isSomeB (inf P f.type) && infoAll P r
theorem infoAll_eq {P : Program} : ∀ {fs : List Field}, infoAll P fs = true → (fs.all fun f => (P.info? f.type).isSome) = true
  | [], _ => rfl
  | f :: r, h => by
    simp only [infoAll, inf_eq, Bool.and_eq_true] at h
    simp only [List.all_cons, Bool.and_eq_true]
    refine ⟨?_, infoAll_eq h.2⟩
    cases hx : P.info? f.type with
    | none => rw [hx] at h; simp [isSomeB] at h
    | some i => rfl

section
variable {X : Cx} {d : Option Nat} {ty : TypeId} {pos : String} {aft : Array Edge} {g : Option (Nat × Bool)} {t : T} {σ : Sg} {K : AV → Prop} {F : Prop}
/-- An array's literal. -/
theorem O.buildA {s el : TypeId} {n k : Nat} {parts : Array (Nat × Operand)} {z : Value} {ps : List (Nat × AV)} {cs : List AV} (hp : geParts t parts.toList = some ps) (hu : X.P.underlying s = some (.array n el))
    (hzv : ∀ w, (zeroValue s).run X.P w = .ok z w) (hs : ∀ w, (sizeOf el).run X.P w = .ok k w)
    (hf : fillAV (fun i => some (i * k, k)) (z.cells.toList.map cellAV) ps = some cs) : QJ X ⟨d, .build s parts, ty, pos, aft, g⟩ t σ (.agg cs) :=
  QJ.value (by simp) (fun γ H a w so sm => by
    obtain ⟨h1, h2⟩ := geParts_sound (t := t) (l := parts.toList) (fun x hx => so x (by simp [Op.operands] at hx ⊢; exact hx)) hp
    obtain ⟨us', e1, e2, e3⟩ := fill_sound (γ := γ) (H := H) ps _ (z.cells.toList.map cellAV) z.cells.toList (by simp) (fun j x y hx hy => by
      simp only [List.getElem?_map, hy, Option.map_some, Option.some.injEq] at hx
      subst hx; exact rep_cellAV y) h1 h2 hf
    simp only [Array.toArray_toList] at e1
    refine ⟨.agg us'.toArray, ?_, .agg _ _ e2 e3⟩
    have e : parts.map (fun (i, x) => (i, a.eval x)) = (parts.toList.map fun p => (p.1, a.eval p.2)).toArray := by
      apply Array.toList_inj.1; simp
    simp only [execOp, Sem.run_bind, e, Instr.build, hzv, Result.andThen_ok, run_underlying hu, hs]
    simp only [e1, Sem.run_pure, Result.andThen_ok])

def qBuild (X : Cx) (s : TypeId) (parts : Array (Nat × Operand)) (t : T) (K : AV → Prop) (F : Prop) : Prop :=
  match und X.P s, zeroOf X.P s, geParts t parts.toList with
  | some (.struct fs), some z, some ps => (match infoAll X.P fs.toList, fillAV (placeS fs.toList X.P) (z.cells.toList.map cellAV) ps with
    | true, some cs => K (.agg cs)
    | _, _ => F)
  | some (.array _ el), some z, some ps => (match szOf X.P el with
    | some k => (match fillAV (fun i => some (i * k, k)) (z.cells.toList.map cellAV) ps with
      | some cs => K (.agg cs)
      | none => F)
    | none => F)
  | _, _, _ => F
theorem qBuild_sound {s : TypeId} {parts : Array (Nat × Operand)} (h : qBuild X s parts t K F) : Yields X ⟨d, .build s parts, ty, pos, aft, g⟩ t σ K F := by
  simp only [qBuild, und_eq] at h
  split at h
  · next fs z ps hu hz hp =>
    split at h
    · next cs hi hf =>
      refine .inl ⟨_, O.build hp hu (zeroOf_run hz) (infoAll_eq hi) ?_, h⟩
      have : (fun i => (fs.toList.map fun f => (f.offset, X.P.cellsOf f.type))[i]?) = placeS fs.toList X.P := funext fun i => placeS_eq _ _ _
      rw [this]; exact hf
    · exact .inr h
  · next n el z ps hu hz hp =>
    split at h
    · next k hs =>
      split at h
      · next cs hf => exact .inl ⟨_, O.buildA hp hu (zeroOf_run hz) (szOf_run hs) hf, h⟩
      · exact .inr h
    · exact .inr h
  · exact .inr h

def qBuildSlice (X : Cx) (st : TypeId) (len : Nat) (parts : Array (Nat × Operand)) (t : T) (K : AV → Prop) (F : Prop) : Prop :=
  match und X.P st with
  | some (.slice el) => (match szOf X.P el, zeroOf X.P el, geParts t parts.toList with
    | some k, some z, some ps => (match Nat.ble (len * k) 16777216 && Nat.ble len 16777216, fillAV (fun i => some (i * k, k)) (zeroAV z.cells.toList (len * k)) ps with
      | true, some cs => (match dAll cs with
        | some ds => (match Nat.beq ds.length (len * k) with
          | true => K (.full k (chunkL k len ds))
          | false => F)
        | none => F)
      | _, _ => F)
    | _, _, _ => F)
  | _ => F
theorem qBuildSlice_sound {st : TypeId} {len : Nat} {parts : Array (Nat × Operand)} (h : qBuildSlice X st len parts t K F) : Yields X ⟨d, .buildSlice st len parts, ty, pos, aft, g⟩ t σ K F := by
  simp only [qBuildSlice, und_eq] at h
  split at h
  · next el hu =>
    split at h
    · next k z ps hs hz hp =>
      split at h
      · next cs hb hf =>
        split at h
        · next ds hd =>
          split at h
          · next hl =>
            simp only [Bool.and_eq_true, Nat.ble_eq] at hb
            rw [chunkL_eq] at h
            exact .inl ⟨_, O.mkD hp hu (szOf_run hs) (zeroOf_run hz) hb.1 hb.2 hf hd (Nat.eq_of_beq_eq_true hl), h⟩
          · exact .inr h
        · exact .inr h
      · exact .inr h
    · exact .inr h
  · exact .inr h

/-- Quiet operations, literals too. -/
def qw (X : Cx) (o : Oper) (t : T) (σ : Sg) (K : AV → Prop) (F : Prop) : Prop := match o.op with
  | .build s parts => qBuild X s parts t K F
  | .buildSlice st len parts => qBuildSlice X st len parts t K F
  | .lookup mt x y ok => qLook X mt x y ok t σ K F
  | _ => qv X o t σ K F
theorem qw_sound {o : Oper} (h : qw X o t σ K F) : Yields X o t σ K F := by
  unfold qw at h
  split at h
  · next e => obtain ⟨d, op, ty, pos, aft, g⟩ := o; simp only at e; subst e; exact qBuild_sound h
  · next e => obtain ⟨d, op, ty, pos, aft, g⟩ := o; simp only at e; subst e; exact qBuildSlice_sound h
  · next e => obtain ⟨d, op, ty, pos, aft, g⟩ := o; simp only at e; subst e; exact qLook_sound h
  · exact qv_sound h
end

/-! ### Operations that turn what is private -/
def StoreP (off n kk : Nat) (xs : List (List D)) (ds : List D) (K : List (List D) → Prop) : Prop := ∃ j l cs, off = j * kk + l ∧ xs[j]? = some cs ∧ l + n ≤ cs.length ∧ ds.length = n ∧ K (xs.set j (setL cs l ds))
theorem StoreP.of {off n kk : Nat} {xs : List (List D)} {ds : List D} {K : List (List D) → Prop} (j l : Nat) (cs : List D) (h : off = j * kk + l) (h1 : xs[j]? = some cs) (h2 : l + n ≤ cs.length) (h3 : ds.length = n) (k : K (xs.set j (setL cs l ds))) :
    StoreP off n kk xs ds K := ⟨j, l, cs, h, h1, h2, h3, k⟩

/-- A struct that first points to its own like, with one thing more: a strings.Builder. -/
def isBld (P : Program) (e : TypeId) : Bool := match und P e with
  | some (.struct ⟨[f, _]⟩) => (match und P f.type with
    | some (.pointer e') => Nat.beq e' e
    | _ => false)
  | _ => false

def eff (X : Cx) (o : Oper) (t : T) (σ : Sg) (K : T → Sg → Prop) : Prop := match o.op, o.dst with
  | .box _ x, some i => (match ge t x with
    | some av => (match oneAV av && isFresh i t σ X.pin && !(avCells av).any (has2 i) && dOk (some i) X.N with
      | true => K ((i, .box i 0) :: t) ((i, .cells (avCells av)) :: σ)
      | false => OpJ X o t σ K)
    | none => OpJ X o t σ K)
  | .alloc e, some i => (match zeroOf X.P e with
    | some z => (match oneAV (ofConst z) && isFresh i t σ X.pin && !(avCells (ofConst z)).any (has2 i) && dOk (some i) X.N && !isBld X.P e with
      | true => K ((i, .box i 0) :: t) ((i, .cells (avCells (ofConst z))) :: σ)
      | false => OpJ X o t σ K)
    | none => OpJ X o t σ K)
  | .store e x y, none => (match szOf X.P e, ge t x, ge t y with
    | some n, some (.box i off), some v => (match look i σ with
      | some (.cells cs) => (match oneAV v && oneAll (avCells v) && Nat.beq (avCells v).length n && Nat.ble (off + n) cs.length with
        | true => frcN (off + n) (setF cs off (avCells v)) fun cs' => K t ((i, .cells cs') :: σ)
        | false => OpJ X o t σ K)
      | _ => OpJ X o t σ K)
    | some n, some (.boxX i off), some v => (match look i σ with
      | some (.cells cs) => (match oneAV v && oneAll (avCells v) && Nat.beq (avCells v).length n with
        | true => Req (off + n ≤ cs.length) (K t ((i, .cells (setL cs off (avCells v))) :: σ))
        | false => OpJ X o t σ K)
      | some (.arr kk xs) => (match oneAV v, dAll (avCells v) with
        | true, some ds => StoreP off n kk xs ds fun ys => K t ((i, .arr kk ys) :: σ)
        | _, _ => OpJ X o t σ K)
      | _ => OpJ X o t σ K)
    | _, _, _ => OpJ X o t σ K)
  | .call ⟨.builtin .append, ⟨[x, y]⟩, ⟨[st, xt]⟩⟩, d => eApp X d x y st xt t σ K (OpJ X o t σ K)
  | .mapUpdate mt x y z, d => eMapPut X d mt x y z t σ K (OpJ X o t σ K)
  | .insert mt x y z, d => eMapPut X d mt x y z t σ K (OpJ X o t σ K)
  | .makeMap mt none, some i => eMakeMap X i mt t σ K (OpJ X o t σ K)
  | _, d => qw X o t σ (fun V => match dOk d X.N with | true => K (putT d V t) σ | false => False) (OpJ X o t σ K)

theorem eff_sound {X : Cx} {o : Oper} {t : T} {σ : Sg} {K : T → Sg → Prop} (h : eff X o t σ K) : OpJ X o t σ K := by
  obtain ⟨d, op, ty, pos, aft, g⟩ := o
  unfold eff at h
  simp only at h
  split at h
  · split at h
    · next av hx =>
      split at h
      · next hb =>
        simp only [Bool.and_eq_true, Bool.not_eq_true'] at hb
        exact O.box hb.2 hx hb.1.1.1 hb.1.1.2 hb.1.2 h
      · exact h
    · exact h
  · split at h
    · next z hz =>
      split at h
      · next hb =>
        simp only [Bool.and_eq_true, Bool.not_eq_true'] at hb
        exact O.alloc hb.1.2 (zeroOf_run hz) hb.1.1.1.1 hb.1.1.1.2 hb.1.1.2 h
      · exact h
    · exact h
  · split at h
    · next n i off v hs hx hy =>
      split at h
      · next cs hi =>
        split at h
        · next hb =>
          simp only [Bool.and_eq_true, Nat.ble_eq, Nat.beq_eq] at hb
          rw [frcN_eq, setF_eq] at h
          exact O.store hx rfl hy hi hb.1.1.1 hb.1.1.2 (szOf_run hs) hb.1.2 hb.2 rfl h
        · exact h
      · exact h
    · next n i off v hs hx hy =>
      split at h
      · next cs hi =>
        split at h
        · next hb =>
          simp only [Bool.and_eq_true, Nat.beq_eq] at hb
          exact O.store hx rfl hy hi hb.1.1 hb.1.2 (szOf_run hs) hb.2 h.1 rfl h.2
        · exact h
      · next kk xs hi =>
        split at h
        · next ds h1 hd =>
          obtain ⟨j, l, cs, h2, h3, h4, h5, h⟩ := h
          exact O.storeA hx rfl hy hi h1 hd h2 h3 (szOf_run hs) h5 h4 h
        · exact h
      · exact h
    · exact h
  · exact eApp_sound h
  · exact eMapPut_run (fun _ => rfl) (by simp) h
  · exact eMapPut_run (fun _ => rfl) (by simp) h
  · exact eMakeMap_sound h
  · rcases qw_sound h with ⟨V, hq, hk⟩ | h
    · split at hk
      · next hN => exact OpJ.quiet hq hN hk
      · exact hk.elim
    · exact h

/-! ### Regions -/
/-- A guard's two ways; what it came to is written down. -/
def grd (b0 : Bool) (b : Bool) (d : Nat) (t : T) (yes no : T → Prop) : Prop := match b0 with
  | true => Spl b (yes ((d, .d (.v (.bool true))) :: t)) (no ((d, .d (.v (.bool false))) :: t))
  | false => Spl b (no ((d, .d (.v (.bool true))) :: t)) (yes ((d, .d (.v (.bool false))) :: t))

def dstOf (all : Array Oper) (j : Nat) : Option Nat := match all[j]? with
  | some o => o.dst
  | none => none
theorem dstOf_eq (all : Array Oper) (j : Nat) : ((all[j]?).bind (·.dst)) = dstOf all j := by
  unfold dstOf; cases all[j]? <;> rfl

def vL (X : Cx) (all : Array Oper) : List Oper → T → Sg → (T → Sg → Prop) → Prop
  | [], t, σ, Q => Q t σ
  | o :: rest, t, σ, Q => match o.guard with
    | none => eff X o t σ fun t σ => vL X all rest t σ Q
    | some (j, b0) => match dstOf all j, dOk o.dst X.N with
      | some d, true => (match look d t with
        | some (.d (.v (.bool b))) => grd b0 b d t (fun t => eff X o t σ fun t σ => vL X all rest t σ Q) (fun t => vL X all rest (putT o.dst (.tup []) t) σ Q)
        | some (.tup []) => vL X all rest (putT o.dst (.tup []) t) σ Q
        | _ => False)
      | _, _ => False

theorem LJ.wk {X : Cx} {all : Array Oper} {k : Nat} {rest : List Oper} {t t' : T} {σ : Sg} {Q : T → Sg → Prop} (hw : Wk t' t) (h : LJ X all k rest t' σ Q) : LJ X all k rest t σ Q := LJ.shift (SJ.wk hw (Wk.refl _)) h

theorem vL_sound {X : Cx} {all : Array Oper} {Q : T → Sg → Prop} : ∀ (rest : List Oper) (k : Nat) (t : T) (σ : Sg), vL X all rest t σ Q → LJ X all k rest t σ Q
  | [], k, t, σ, h => LJ.done h
  | o :: rest, k, t, σ, h => by
    unfold vL at h
    split at h
    · next hg => exact LJ.op hg ((eff_sound h).mono fun t σ h => vL_sound rest (k + 1) t σ h)
    · next j b0 hg =>
      split at h
      · next d hd hN =>
        have hd' : ((all[j]?).bind (·.dst)) = some d := by rw [dstOf_eq]; exact hd
        split at h
        · next b hb =>
          have yes : ∀ c, b = c → eff X o ((d, .d (.v (.bool c))) :: t) σ (fun t σ => vL X all rest t σ Q) → c = b0 → LJ X all k (o :: rest) t σ Q := fun c hc he hcb => by
            subst hc; subst hcb
            refine LJ.wk (Wk.cons hb (Wk.refl t)) (LJ.guard hg hd' hN ?_)
            rw [look_cons, if_pos rfl]
            exact ⟨fun _ => (eff_sound he).mono fun t σ h => vL_sound rest (k + 1) t σ h, fun hne => absurd rfl hne⟩
          have no : ∀ c, b = c → vL X all rest (putT o.dst (.tup []) ((d, .d (.v (.bool c))) :: t)) σ Q → c ≠ b0 → LJ X all k (o :: rest) t σ Q := fun c hc he hcb => by
            subst hc
            refine LJ.wk (Wk.cons hb (Wk.refl t)) (LJ.guard hg hd' hN ?_)
            rw [look_cons, if_pos rfl]
            exact ⟨fun e => absurd e hcb, fun _ => vL_sound rest (k + 1) _ σ he⟩
          cases b0 with
          | true => cases b with
            | true => exact yes true rfl (h.1 rfl) rfl
            | false => exact no false rfl (h.2 rfl) (by simp)
          | false => cases b with
            | true => exact no true rfl (h.1 rfl) (by simp)
            | false => exact yes false rfl (h.2 rfl) rfl
        · next hb =>
          refine LJ.guard hg hd' hN ?_
          rw [hb]
          exact vL_sound rest (k + 1) _ σ h
        · exact h.elim
      · exact h.elim

/-! ### Regions that draw -/
/-- The birth of a variable. -/
def bornV (X : Cx) (o : Oper) (t : T) : Option (List AV) := match o.op with
  | .alloc e => (match zeroOf X.P e with
    | some z => (match oneAV (ofConst z) with | true => some (avCells (ofConst z)) | false => none)
    | none => none)
  | .box _ x => (match ge t x with
    | some av => (match oneAV av with | true => some (avCells av) | false => none)
    | none => none)
  | _ => none
theorem bornV_sound {X : Cx} {o : Oper} {t : T} {cs : List AV} (h : bornV X o t = some cs) : NewJ X o t cs := by
  obtain ⟨d, op, ty, pos, aft, g⟩ := o
  unfold bornV at h
  simp only at h
  split at h
  · next e =>
    split at h
    · next z hz =>
      split at h
      · next h1 =>
        cases h
        intro γ H a w so
        obtain ⟨us, hu, hl, hr⟩ := rep_cells (rep_const γ H z) h1
        refine ⟨us, e, ?_, hl, hr⟩
        rw [semAt_of (by simp)]
        simp [execOp, Instr.alloc, newVar, newRow, hu, zeroOf_run hz]
      · cases h
    · cases h
  · next e x =>
    split at h
    · next av hx =>
      split at h
      · next h1 =>
        cases h
        intro γ H a w so
        obtain ⟨us, hu, hl, hr⟩ := rep_cells (so x (by simp [Op.operands]) _ hx) h1
        refine ⟨us, e, ?_, hl, hr⟩
        rw [semAt_of (by simp)]
        simp [execOp, Instr.box, newVar, newRow, hu]
      · cases h
    · cases h
  · cases h

/-- An operation that the reckoning does not know: a quiet one, or the birth of a private thing. -/
inductive QuietP (X : Cx) (o : Oper) (t : T) (σ : Sg) (K : AV → Prop) (K2 : Nat → AV → Ent → Prop) : Prop where
  | of {V : AV} (h : QJ X o t σ V) (k : K V) : QuietP X o t σ K K2
  | born {id : Nat} {V : AV} {e : Ent} (h : BirthJ X o t σ id V e) (k : K2 id V e) : QuietP X o t σ K K2

def stepB (X : Cx) (o : Oper) (t : T) (σ bs : Sg) (K : T → Sg → Prop) : Prop := match bornV X o t, o.dst, o.guard with
  | some cs, some id, none => (match isFresh id t (bs ++ σ) X.pin && !cs.any (has2 id) && dOk (some id) X.N && bs.all (fun p => !entHas p.1 (.cells cs)) with
    | true => K ((id, .box id 0) :: t) ((id, .cells cs) :: bs)
    | false => False)
  | _, d, gd => qw X o t σ (fun V => match dOk d X.N && bs.all (fun p => !has2 p.1 V) with | true => K (putT d V t) bs | false => False)
      (QuietP X o t σ (fun V => match dOk d X.N && bs.all (fun p => !has2 p.1 V) with | true => K (putT d V t) bs | false => False)
        fun id V e => match d, gd with
          | some id', none => (match Nat.beq id id' && isFresh id t (bs ++ σ) X.pin && dOk (some id) X.N && bs.all (fun p => !entHas p.1 e) && bs.all (fun p => !has2 p.1 V) with
            | true => K ((id, V) :: t) ((id, e) :: bs)
            | false => False)
          | _, _ => False)

def vB (X : Cx) (all : Array Oper) (σ : Sg) (Q : T → Sg → Prop) : List Oper → T → Sg → Prop
  | [], t, bs => Q t (bs ++ σ)
  | o :: rest, t, bs => match o.guard with
    | none => stepB X o t σ bs fun t bs => vB X all σ Q rest t bs
    | some (j, b0) => match dstOf all j, dOk o.dst X.N with
      | some d, true => (match look d t with
        | some (.d (.v (.bool b))) => grd b0 b d t (fun t => stepB X o t σ bs fun t bs => vB X all σ Q rest t bs) (fun t => vB X all σ Q rest (putT o.dst (.tup []) t) bs)
        | some (.tup []) => vB X all σ Q rest (putT o.dst (.tup []) t) bs
        | _ => False)
      | _, _ => False

theorem CB.wk {X : Cx} {all : Array Oper} {σ : Sg} {Q : T → Sg → Prop} : ∀ (rest : List Oper) (t t' : T) (bs : Sg), Wk t' t → (∀ p, p ∈ t → p ∈ t') → CB X all σ Q rest t' bs → CB X all σ Q rest t bs
  | [], t, t', bs, hw, _, ⟨t'', h1, h2⟩ => ⟨t'', h1.trans hw, h2⟩
  | o :: rest, t, t', bs, hw, hm, h => by
    rcases h with ⟨V, h1, h2, h3, h4⟩ | ⟨id, V, e, hd, hg, hn, hN, hf, hb, hv, h4⟩
    · refine .inl ⟨V, h1.wk hw, h2, h3, CB.wk rest _ _ bs hw.put (fun p hp => ?_) h4⟩
      cases ho : o.dst with
      | none => rw [ho] at hp; exact hm p hp
      | some d =>
        rw [ho] at hp
        rcases List.mem_cons.1 hp with h | h
        · exact List.mem_cons.2 (.inl h)
        · exact List.mem_cons.2 (.inr (hm p h))
    · refine .inr ⟨id, V, e, hd, hg, hn.wk hw, hN, isFresh_wkT hf hm, hb, hv, CB.wk rest _ _ _ (fun i a hi => ?_) (fun p hp => ?_) h4⟩
      · rw [look_cons] at hi ⊢
        split
        · next e => rw [if_pos e] at hi; exact hi
        · next e => rw [if_neg e] at hi; exact hw i a hi
      · rcases List.mem_cons.1 hp with h | h
        · exact List.mem_cons.2 (.inl h)
        · exact List.mem_cons.2 (.inr (hm p h))

theorem stepB_sound {X : Cx} {all : Array Oper} {o : Oper} {t : T} {σ bs : Sg} {rest : List Oper} {Q : T → Sg → Prop} {K : T → Sg → Prop} (hK : ∀ t bs, K t bs → CB X all σ Q rest t bs)
    (hg : o.guard = none ∨ ∃ j b d, o.guard = some (j, b) ∧ ((all[j]?).bind (·.dst)) = some d ∧ look d t = some (.d (.v (.bool b)))) (h : stepB X o t σ bs K) : CB X all σ Q (o :: rest) t bs := by
  have fin : ∀ V, QJ X o t σ V → (match dOk o.dst X.N && bs.all (fun p => !has2 p.1 V) with | true => K (putT o.dst V t) bs | false => False) → CB X all σ Q (o :: rest) t bs := fun V hq hk => by
    split at hk
    · next hb =>
      simp only [Bool.and_eq_true] at hb
      rcases hg with hg | ⟨j, b, d, h1, h2, h3⟩
      · exact CB.q hg hq hb.1 hb.2 (hK _ _ hk)
      · exact CB.qy h1 h2 h3 hq hb.1 hb.2 (hK _ _ hk)
    · exact hk.elim
  unfold stepB at h
  split at h
  · next cs id hb hd hg0 =>
    split at h
    · next hx =>
      simp only [Bool.and_eq_true, Bool.not_eq_true'] at hx
      exact CB.born hd hg0 (bornV_sound hb) hx.1.1.2 hx.1.2 hx.1.1.1 hx.2 (hK _ _ h)
    · exact h.elim
  · rcases qw_sound h with ⟨V, hq, hk⟩ | h
    · exact fin V hq hk
    · cases h with
      | of hq hk => exact fin _ hq hk
      | born hb hk =>
        split at hk
        · next id' hd hg0 =>
          split at hk
          · next hx =>
            simp only [Bool.and_eq_true] at hx
            obtain rfl := Nat.eq_of_beq_eq_true hx.1.1.1.1
            exact CB.birth hd hg0 hb hx.1.1.2 hx.1.1.1.2 hx.1.2 hx.2 (hK _ _ hk)
          · exact hk.elim
        · exact hk.elim

theorem vB_sound {X : Cx} {all : Array Oper} {σ : Sg} {Q : T → Sg → Prop} : ∀ (rest : List Oper) (t : T) (bs : Sg), vB X all σ Q rest t bs → CB X all σ Q rest t bs
  | [], t, bs, h => CB.done h
  | o :: rest, t, bs, h => by
    unfold vB at h
    split at h
    · next hg => exact stepB_sound (fun t bs h => vB_sound rest t bs h) (.inl hg) h
    · next j b0 hg =>
      split at h
      · next d hd hN =>
        have hd' : ((all[j]?).bind (·.dst)) = some d := by rw [dstOf_eq]; exact hd
        split at h
        · next b hb =>
          have yes : ∀ c, b = c → stepB X o ((d, .d (.v (.bool c))) :: t) σ bs (fun t bs => vB X all σ Q rest t bs) → c = b0 → CB X all σ Q (o :: rest) t bs := fun c hc he hcb => by
            subst hc; subst hcb
            exact CB.wk _ _ _ _ (Wk.cons hb (Wk.refl t)) (fun p hp => List.mem_cons.2 (.inr hp)) (stepB_sound (fun t bs h => vB_sound rest t bs h) (.inr ⟨j, b, d, hg, hd', by rw [look_cons, if_pos rfl]⟩) he)
          have no : ∀ c, b = c → vB X all σ Q rest (putT o.dst (.tup []) ((d, .d (.v (.bool c))) :: t)) bs → c ≠ b0 → CB X all σ Q (o :: rest) t bs := fun c hc he hcb => by
            subst hc
            exact CB.wk _ _ _ _ (Wk.cons hb (Wk.refl t)) (fun p hp => List.mem_cons.2 (.inr hp)) (CB.no hg hd' (by rw [look_cons, if_pos rfl]) (by cases b <;> cases b0 <;> simp_all) hN (vB_sound rest _ bs he))
          cases b0 with
          | true => cases b with
            | true => exact yes true rfl (h.1 rfl) rfl
            | false => exact no false rfl (h.2 rfl) (by simp)
          | false => cases b with
            | true => exact no true rfl (h.1 rfl) (by simp)
            | false => exact yes false rfl (h.2 rfl) rfl
        · next hb => exact CB.noU hg hd' hb hN (vB_sound rest _ bs h)
        · exact h.elim
      · exact h.elim

def loud : Op → Bool
  | .store _ _ _ | .mapUpdate _ _ _ _ | .mapEntry _ _ _ | .entryStore _ _ _ _ | .insert _ _ _ _ | .next _ _ | .makeMap _ _ => true
  | .call ⟨.builtin .append, _, _⟩ | .call ⟨.builtin .copy, _, _⟩ | .call ⟨.builtin .delete, _, _⟩ => true
  | .call ⟨.value (.tmp _), _, _⟩ => true
  | _ => false
/-- How many operations stand ahead of the first loud one. -/
def quietN : List Oper → Nat
  | [] => 0
  | o :: r => match loud o.op with
    | true => 0
    | false => quietN r + 1
def drawOk (ops : Array Oper) : Bool := calmOk ops (quietN ops.toList) && Nat.ble (quietN ops.toList) ops.size
def takeQ : List Oper → List Oper
  | [] => []
  | o :: r => match loud o.op with
    | true => []
    | false => o :: takeQ r
def dropQ : List Oper → List Oper
  | [] => []
  | o :: r => match loud o.op with
    | true => o :: r
    | false => dropQ r
theorem takeQ_eq : ∀ l : List Oper, takeQ l = l.take (quietN l)
  | [] => rfl
  | o :: r => by
    unfold takeQ quietN
    split
    · rfl
    · rw [takeQ_eq r]; rfl
theorem dropQ_eq : ∀ l : List Oper, dropQ l = l.drop (quietN l)
  | [] => rfl
  | o :: r => by
    unfold dropQ quietN
    split
    · rfl
    · rw [dropQ_eq r]; rfl

/-- A region that draws its order. -/
def RegP (X : Cx) (id : Nat) (ops : Array Oper) (t : T) (σ : Sg) (Q : T → Sg → Prop) : Prop := ∀ Q' : Qt, (∀ t σ, Q t σ → Q' .normal t σ) → WJ X (.region id ops true) t σ Q'
theorem RegP.of {X : Cx} {id : Nat} {ops : Array Oper} {t : T} {σ : Sg} {Q : T → Sg → Prop} (hm : X.P.follows .mixedOrders = true) (hc : drawOk ops = true)
    (h : vB X ops σ (fun t σ => vL X ops (dropQ ops.toList) t σ Q) (takeQ ops.toList) t []) : RegP X id ops t σ Q := by
  intro Q' hQ
  simp only [drawOk, Bool.and_eq_true, Nat.ble_eq] at hc
  refine WJ.calmB (quietN ops.toList) hm hc.1 hc.2 ?_
  rw [← takeQ_eq]
  have h' := vB_sound _ _ _ h
  have mono : ∀ (rest : List Oper) (t : T) (bs : Sg), CB X ops σ (fun t σ => vL X ops (dropQ ops.toList) t σ Q) rest t bs → CB X ops σ (fun t σ => LJ X ops (quietN ops.toList) (ops.toList.drop (quietN ops.toList)) t σ (Q' .normal)) rest t bs := by
    intro rest
    induction rest with
    | nil =>
      rintro t bs ⟨t', h1, h2⟩
      refine ⟨t', h1, ?_⟩
      rw [← dropQ_eq]
      exact (vL_sound _ _ _ _ h2).mono hQ
    | cons o r ih =>
      intro t bs h
      rcases h with ⟨V, h1, h2, h3, h4⟩ | ⟨id, V, e, hd, hg, hn, hN, hf, hb, hv, h4⟩
      · exact .inl ⟨V, h1, h2, h3, ih _ _ h4⟩
      · exact .inr ⟨id, V, e, hd, hg, hn, hN, hf, hb, hv, ih _ _ h4⟩
  exact mono _ _ _ h'

/-! ### Code -/
def vc (X : Cx) : Code → T → Sg → Qt → Prop
  | .skip, t, σ, Q => Q .normal t σ
  | .label _, t, σ, Q => Q .normal t σ
  | .seq a b, t, σ, Q => vc X a t σ fun e t σ => match e with
    | .normal => vc X b t σ Q
    | e => Q e t σ
  | .cond c a b, t, σ, Q => (match ge t c with
    | some (.d (.v (.bool x))) => Spl x (vc X a t σ Q) (vc X b t σ Q)
    | _ => False)
  | .block id c, t, σ, Q => vc X c t σ fun e t σ => match e with
    | .exit id' => (match Nat.beq id' id with
      | true => Q .normal t σ
      | false => Q (.exit id') t σ)
    | e => Q e t σ
  | .region _ ops false, t, σ, Q => vL X ops ops.toList t σ (Q .normal)
  | .region id ops true, t, σ, Q => RegP X id ops t σ (Q .normal)
  | .exit id, t, σ, Q => Q (.exit id) t σ
  | .goto l, t, σ, Q => Q (.goto l) t σ
  | .ret, t, σ, Q => Q .ret t σ
  | c, t, σ, Q => WJ X c t σ Q

theorem vc_sound {X : Cx} : ∀ (c : Code) (t : T) (σ : Sg) (Q : Qt), vc X c t σ Q → WJ X c t σ Q
  | .skip, t, σ, Q, h => WJ.skip h
  | .label l, t, σ, Q, h => fun γ H _ _ s => wpIn_label ⟨γ, H, t, σ, s, h⟩
  | .seq a b, t, σ, Q, h => WJ.seq ((vc_sound a t σ _ h).mono fun e t σ q => by
      cases e <;> first | exact vc_sound b t σ Q q | exact q)
  | .cond c a b, t, σ, Q, h => by
    unfold vc at h
    split at h
    · next x hx =>
      intro γ H ac w s
      exact wpIn_cond_split (t := x) (rep_v (ge_sound s.tmp hx)) (fun e => vc_sound a t σ Q (h.1 e) γ H ac w s) (fun e => vc_sound b t σ Q (h.2 e) γ H ac w s)
    · exact h.elim
  | .block id c, t, σ, Q, h => WJ.block ((vc_sound c t σ _ h).mono fun e t σ q => by
      cases e <;> exact q)
  | .region id ops false, t, σ, Q, h => WJ.region (vL_sound _ 0 t σ h)
  | .region id ops true, t, σ, Q, h => h Q fun _ _ h => h
  | .exit id, t, σ, Q, h => WJ.exit h
  | .goto l, t, σ, Q, h => WJ.goto h
  | .ret, t, σ, Q, h => WJ.ret h
  | .loop c, t, σ, Q, h => h
  | .rangeFunc .., t, σ, Q, h => h
  | .scope c, t, σ, Q, h => h
  | .refuse w, t, σ, Q, h => h

/-! ### Results -/
def resV (X : Cx) (t : T) (σ : Sg) : ResultVar → Option AV
  | .tmp i => look i t
  | .cell i ty => match look i t with
    | some (.box j off) => (match look j σ with
      | some (.cells cs) => (match aggOf X.P ty, szOf X.P ty with
        | some true, some n => (match Nat.ble (off + n) cs.length with
          | true => some (.agg ((cs.drop off).take n))
          | false => none)
        | some false, _ => cs[off]?
        | _, _ => none)
      | _ => none)
    | _ => none
def resAll (X : Cx) (t : T) (σ : Sg) : List ResultVar → Option (List AV)
  | [] => some []
  | r :: l => match resV X t σ r with
    | some a => match resAll X t σ l with
      | some asz => some (a :: asz)
      | none => none
    | none => none

/-- The end of a function: what is handed back. -/
def FinP (X : Cx) (σ : Sg) (r : AV) (Q : AV → Sg → Prop) : Prop := ∃ σ' r', PubR σ r σ' r' ∧ closedB X.pin r' σ' ∧ Q r' σ'
theorem FinP.open {X : Cx} {σ : Sg} {r : AV} {Q : AV → Sg → Prop} (h : r.open = true) (k : Q r []) : FinP X σ r Q :=
  ⟨[], r, .wk (Wk.nil _), ⟨(fun j hj => by rw [has2_open h] at hj; cases hj), (fun i e hi => by simp [look] at hi)⟩, k⟩
theorem FinP.of {X : Cx} {σ : Sg} {r : AV} {Q : AV → Sg → Prop} (σ' : Sg) (hw : Wk σ' σ) (hc : closedB X.pin r σ') (k : Q r σ') : FinP X σ r Q := ⟨σ', r, .wk hw, hc, k⟩
theorem FinP.view {X : Cx} {σ : Sg} {r r1 : AV} {Q : AV → Sg → Prop} (hv : ∀ γ H u, Rep γ H r u → Rep γ H r1 u) (k : FinP X σ r1 Q) : FinP X σ r Q :=
  let ⟨σ', r', hp, hc, hq⟩ := k; ⟨σ', r', .view hv hp, hc, hq⟩
/-- A variable, or a map, is given to all. -/
theorem FinP.pub {X : Cx} {σ : Sg} {r : AV} {Q : AV → Sg → Prop} (i : Nat) {e : Ent} {p : Pub} (hi : look i σ = some e) (hp : pubOf e = some p) (k : FinP X ((i, .gone) :: subS i p σ) (sub2 i p r) Q) : FinP X σ r Q :=
  let ⟨σ', r', h1, hc, hq⟩ := k; ⟨σ', r', .pub i hi hp (fun _ _ _ ok rr => sub2_sound ok rr) h1, hc, hq⟩
/-- A row is given to all. -/
theorem FinP.pubA {X : Cx} {σ : Sg} {Q : AV → Sg → Prop} (i : Nat) {k n : Nat} {xs : List (List D)} (hi : look i σ = some (.arr k xs)) (hn : n ≤ xs.length) (hm : n ≤ 9223372036854775807)
    (kk : FinP X ((i, .gone) :: subS i (.a k xs) σ) (.d (.sl k (xs.take n))) Q) : FinP X σ (.arr i k n) Q :=
  let ⟨σ', r', h1, hc, hq⟩ := kk; ⟨σ', r', .pub i hi rfl (fun γ H u ok rr => by
    cases rr with
    | arr _ _ _ A h1 hA => exact .d _ _ (ok n A hn h1 hA hm)) h1, hc, hq⟩

def one : List AV → AV
  | [r] => r
  | rs => .tup rs
def vRet (X : Cx) (fn : Func) (Q : AV → Sg → Prop) : Qt
  | .normal, t, σ => (match resAll X t σ fn.results.toList with
    | some rs => FinP X σ (one rs) Q
    | none => False)
  | .ret, t, σ => (match resAll X t σ fn.results.toList with
    | some rs => FinP X σ (one rs) Q
    | none => False)
  | _, _, _ => False
end Go.Gv
end
section
namespace Go.Gv
open Go.RowKit
universe u

theorem resV_sound {X : Cx} {γ : Ids} {H : HF} {t : T} {σ : Sg} {a : Act} {w : World} (s : St X γ H t σ a w) {rv : ResultVar} {r : AV} (h : resV X t σ rv = some r) :
    ∃ v, (match rv with
      | .tmp t => pure (a.tmps.getD t undef)
      | .cell c t => do loadVar t (← asAddr (a.tmps.getD c undef)) : Sem Value).run X.P w = .ok v w ∧ Rep γ H r v := by
  cases rv with
  | tmp i =>
    obtain ⟨u, hu, hr⟩ := s.tmp i r h
    exact ⟨u, by simp [Array.getD_eq_getD_getElem?, hu], hr⟩
  | cell i ty =>
    simp only [resV] at h
    split at h
    · next j off hi =>
      obtain ⟨u, hu, hr⟩ := s.tmp i _ hi
      have hq := rep_box rfl hr
      split at h
      · next cs hj =>
        obtain ⟨tt, us, h2, h3, h4⟩ := s.mem.ent j _ hj
        split at h
        · next n ha hs =>
          split at h
          · next hb =>
            cases h
            have hle := Nat.le_of_ble_eq_true hb
            have := loadVar_agg (P := X.P) (w := w) (b := (γ j).b) (off := off) (us := (us.drop off).take n) (aggOf_run ha) (szOf_run hs) (by simp; omega) (fun l hl => by
              rw [cell_of_block h2, List.getElem?_take, if_pos hl, List.getElem?_drop])
            exact ⟨_, by simp [Array.getD_eq_getD_getElem?, hu, hq, asAddr, this], rep_cut h3 h4⟩
          · cases h
        · next _ ha =>
          have hlt : off < us.length := by rw [h3]; exact (List.getElem?_eq_some_iff.1 h).1
          have hc : w.cell? ⟨(γ j).b, off, none⟩ = some us[off] := by rw [cell_of_block h2]; simp [hlt]
          exact ⟨us[off], by simp [Array.getD_eq_getD_getElem?, hu, hq, asAddr, loadVar_one (aggOf_run ha) hc], h4 _ r _ h (by simp [hlt])⟩
        · cases h
      · cases h
    · cases h

theorem resAll_sound {X : Cx} {γ : Ids} {H : HF} {t : T} {σ : Sg} {a : Act} {w : World} (s : St X γ H t σ a w) : ∀ {l : List ResultVar} {rs : List AV}, resAll X t σ l = some rs →
    ∃ vs : List Value, (l.mapM (fun
      | .tmp t => pure (a.tmps.getD t undef)
      | .cell c t => do loadVar t (← asAddr (a.tmps.getD c undef)) : ResultVar → Sem Value)).run X.P w = .ok vs w ∧ vs.length = rs.length ∧ ∀ (j : Nat) (x : AV) (u : Value), rs[j]? = some x → vs[j]? = some u → Rep γ H x u
  | [], rs, h => by
    simp only [resAll, Option.some.injEq] at h; subst h
    exact ⟨[], by simp, rfl, fun j x u h => by simp at h⟩
  | r :: l, rs, h => by
    simp only [resAll] at h
    split at h
    · next av hr =>
      split at h
      · next asz hl =>
        simp only [Option.some.injEq] at h; subst h
        obtain ⟨v, hv, rep⟩ := resV_sound s hr
        obtain ⟨vs, hvs, hlen, reps⟩ := resAll_sound s hl
        refine ⟨v :: vs, ?_, by simp [hlen], fun j x u hx hu => ?_⟩
        · simp only [List.mapM_cons, Sem.run_bind, hv, Result.andThen_ok, hvs, Sem.run_pure]
        · cases j with
          | zero => simp at hx hu; subst hx; subst hu; exact rep
          | succ j => exact reps j x u (by simpa using hx) (by simpa using hu)
      · cases h
    · cases h

theorem vRet_sound {X : Cx} {fn : Func} {Q : AV → Sg → Prop} {e : Exit} {t : T} {σ : Sg} (h : vRet X fn Q e t σ) : Ret X fn Q e t σ := by
  have key : (match resAll X t σ fn.results.toList with
    | some rs => FinP X σ (one rs) Q
    | none => False) → ∃ r σ', RetIs X fn t σ r σ' ∧ closedB X.pin r σ' ∧ Q r σ' := fun h => by
    split at h
    · next rs hrs =>
      obtain ⟨σ', r', hw, hc, hq⟩ := h
      refine ⟨r', σ', fun γ H a w s => ?_, hc, hq⟩
      obtain ⟨vs, hvs, hlen, reps⟩ := resAll_sound s hrs
      have hm : (fn.results.mapM (fun
        | .tmp t => pure (a.tmps.getD t undef)
        | .cell c t => do loadVar t (← asAddr (a.tmps.getD c undef)) : ResultVar → Sem Value)).run X.P w = .ok vs.toArray w := by
        rw [Array.mapM_eq_mapM_toList]
        simp only [Sem.run_map, hvs, Result.andThen_ok]
      have hres : (results fn a.tmps).run X.P w = .ok (if h : vs.toArray.size = 1 then vs.toArray[0] else .tuple vs.toArray) w := by
        unfold results
        simp only [Sem.run_bind]
        refine (congrArg (fun r => Result.andThen r _) hm).trans ?_
        simp only [Result.andThen_ok, Sem.run_pure]
      suffices hr : Rep γ H (one rs) (if h : vs.toArray.size = 1 then vs.toArray[0] else .tuple vs.toArray) by
        obtain ⟨H', s', r⟩ := hw.sound s hr
        exact ⟨_, γ, H', hres, s', r⟩
      clear hrs hvs hm hres hw hc hq
      match rs, vs, hlen, reps with
      | [], [], _, _ => exact .tup [] [] rfl fun j x u h => by simp at h
      | [r], [v], _, reps => exact reps 0 r v rfl rfl
      | r :: r' :: rs, v :: v' :: vs, hlen, reps =>
        have : ¬ ((v :: v' :: vs).toArray.size = 1) := by simp
        rw [dif_neg this]
        exact .tup _ _ hlen reps
    · exact h.elim
  cases e <;> first | exact key h | exact h

/-- **A contract, out of what is reckoned.** -/
theorem Ct.of_vc {Λ : Amb} {P : Program} {f : FuncId} (fn : Func) {c : Code} {avs : List AV} {σ : Sg} {Q : AV → Sg → Prop} (hf : P.funcs[f]? = some fn) (hb : fn.body = some c)
    (hl : Nat.ble avs.length fn.ntmps = true)
    (h : ∀ w H B g0, vc ⟨P, Λ, none, w, H, B, fn.ntmps, pinsOf σ, g0⟩ c (numbered 0 avs) σ (vRet ⟨P, Λ, none, w, H, B, fn.ntmps, pinsOf σ, g0⟩ fn Q)) : Ct Λ P f avs σ Q :=
  Ct.of_wj fn.ntmps hf hb rfl (Nat.le_of_ble_eq_true hl) fun w H B g0 => (vc_sound _ _ _ _ (h w H B g0)).mono fun _ _ _ q => vRet_sound q

/-! ### Loops -/
def opsW : List Oper → List Nat → List Nat
  | [], acc => acc
  | o :: r, acc => match o.dst with
    | some d => opsW r (d :: acc)
    | none => opsW r acc
/-- The temporaries that code writes. -/
def writes : Code → List Nat → List Nat
  | .region _ ops _, acc => opsW ops.toList acc
  | .seq a b, acc => writes a (writes b acc)
  | .cond _ a b, acc => writes a (writes b acc)
  | .block _ a, acc => writes a acc
  | .loop a, acc => writes a acc
  | .scope a, acc => writes a acc
  | .rangeFunc _ ps a b, acc => ps.toList ++ writes a (writes b acc)
  | _, acc => acc
def memN (i : Nat) : List Nat → Bool
  | [] => false
  | j :: r => match Nat.beq i j with
    | true => true
    | false => memN i r
/-- What a loop leaves alone. -/
def keepT (ws : List Nat) : T → T
  | [] => []
  | (i, a) :: t => match memN i ws with
    | true => keepT ws t
    | false => (i, a) :: keepT (i :: ws) t
theorem memN_cons {i j : Nat} {ws : List Nat} : memN i (j :: ws) = if i = j then true else memN i ws := by
  simp only [memN]
  by_cases h : i = j
  · subst h; simp
  · have : Nat.beq i j = false := by rw [← Bool.not_eq_true, Nat.beq_eq]; exact h
    simp [this, h]
theorem keepT_not : ∀ {ws : List Nat} {t : T} {i : Nat}, memN i ws = true → look i (keepT ws t) = none
  | ws, [], i, _ => rfl
  | ws, (j, a) :: t, i, h => by
    simp only [keepT]
    split
    · exact keepT_not h
    · next hj =>
      rw [look_cons]
      have : i ≠ j := fun e => by subst e; rw [h] at hj; cases hj
      rw [if_neg this]
      exact keepT_not (by rw [memN_cons]; simp [h])
theorem keepT_wk : ∀ (ws : List Nat) (t : T), Wk (keepT ws t) t
  | ws, [], i, b, h => by simp [keepT, look] at h
  | ws, (j, a) :: t, i, b, h => by
    simp only [keepT] at h
    rw [look_cons]
    split at h
    · next hj =>
      have : i ≠ j := fun e => by
        subst e
        rw [keepT_not hj] at h; cases h
      rw [if_neg this]
      exact keepT_wk ws t i b h
    · rw [look_cons] at h
      split at h
      · next e => rw [if_pos e]; exact h
      · next e => rw [if_neg e]; exact keepT_wk (j :: ws) t i b h

/-- Each entry is there. -/
def Has {α : Type u} : List (Nat × α) → List (Nat × α) → Prop
  | [], _ => True
  | (i, a) :: r, l => look i l = some a ∧ Has r l
theorem Has.wk {α : Type u} : ∀ {l' l : List (Nat × α)}, Has l' l → Wk l' l
  | [], _, _ => Wk.nil _
  | (_, _) :: _, _, h => Wk.cons h.1 h.2.wk

end Go.Gv
end
section
namespace Go.Gv
open Go.RowKit

section
variable {X : Cx} {d : Option Nat} {ty : TypeId} {pos : String} {aft : Array Edge} {g : Option (Nat × Bool)} {t : T} {σ : Sg}
/-- A call whose result names nothing private, in its place. -/
theorem OpJ.callV {K : T → Sg → Prop} {f : FuncId} {args : Array Operand} {tys : Array TypeId} {avs : List AV} {r : AV} (hc : Ct X.Λ X.P f avs [] (fun q _ => q = r)) (hok : callOk X.P f)
    (ha : geAll t args.toList = some avs) (ho : r.open = true) (hN : dOk d X.N = true) (k : K (putT d r t) σ) : OpJ X ⟨d, .call { callee := .value (.func f), args := args, argTypes := tys }, ty, pos, aft, g⟩ t σ K :=
  OpJ.quiet (QJ.call hc hok ha ho) hN k
theorem OpJ.qu {K : T → Sg → Prop} {o : Oper} {V : AV} (h : QJ X o t σ V) (hN : dOk o.dst X.N = true) (k : K (putT o.dst V t) σ) : OpJ X o t σ K := OpJ.quiet h hN k
end

section
variable {X : Cx} {d : Option Nat} {ty : TypeId} {pos : String} {aft : Array Edge} {g : Option (Nat × Bool)} {t : T} {σ : Sg}
/-! ### Comparison of structs of scalars -/
end
/-- The cells and maps of a world. -/
def cellH (w : World) : HF := ⟨fun b o => w.cell? ⟨b, o, none⟩, fun b => match w.heap[b]? with | some (.map es c) => some (es, c) | _ => none⟩
theorem HOk.le {H : HF} {w : World} (h : HOk H w) : HLe H (cellH w) := ⟨h.c, fun b x hx => by
  have := h.m b x.1 x.2 hx
  show (match w.heap[b]? with | some (.map es c) => some (es, c) | _ => none) = some x
  rw [this]⟩
theorem cellH_ok (w : World) : HOk (cellH w) w := ⟨fun _ _ _ h => h, fun b es c h => by
  have h' : (match w.heap[b]? with | some (.map es c) => some (es, c) | _ => none) = some (es, c) := h
  split at h'
  · next es' c' hb => simp only [Option.some.injEq, Prod.mk.injEq] at h'; obtain ⟨rfl, rfl⟩ := h'; exact hb
  · cases h'⟩
/-- What a private thing looks like to who only reads. -/
inductive View (σ : Sg) : AV → AV → Prop where
  | same (a : AV) (h : a.open = true) : View σ a a
  | arr (i k n : Nat) (xs : List (List D)) (h : look i σ = some (.arr k xs)) (hn : xs.length = n) (hm : n ≤ 9223372036854775807) : View σ (.arr i k n) (.d (.sl k xs))
  | box (i : Nat) (cs : List AV) (ds : List D) (h : look i σ = some (.cells cs)) (hd : dAll cs = some ds) : View σ (.box i 0) (.d (.ptr ds))

theorem View.sound {σ : Sg} {w0 w : World} {H0 H : HF} {B : Nat → Prop} {γ γ' : Ids} (m : Mem w0 H0 B γ H σ w) {a b : AV} {u : Value} (v : View σ a b) (r : Rep γ H a u) : Rep γ' (cellH w) b u := by
  have hle : HLe H (cellH w) := m.hok.le
  cases v with
  | same a h => exact (r.mono hle).free h
  | arr i k n xs hi hn hm =>
    obtain ⟨e1, e2, e3⟩ := m.ent i _ hi
    cases r with
    | arr _ _ _ A hn' hA =>
      refine .d _ _ ?_
      by_cases h0 : 0 < (γ i).n
      · obtain ⟨tt, us, q1, q2, q3⟩ := e3 h0
        have key := RepD.sl (H := cellH w) k xs A (γ i).n (γ i).b 0 (fun j l => us.getD (j * k + l) undef) e2 e1 (by omega) (fun _ => hA h0) (fun j l hj hl => by
          have hlt : j * k + l < us.length := by
            rw [q2]
            calc j * k + l < j * k + k := by omega
              _ = (j + 1) * k := by rw [Nat.succ_mul]
              _ ≤ (γ i).n * k := Nat.mul_le_mul_right _ (by omega)
          show w.cell? _ = _
          rw [cell_of_block q1, Nat.zero_add, List.getD_eq_getElem?_getD, List.getElem?_eq_getElem hlt]; rfl) (fun j l cs d hj hd => by
          have hjl : j < xs.length := (List.getElem?_eq_some_iff.1 hj).1
          have hlk : l < k := by rw [← e2 cs (mem_of_get hj)]; exact (List.getElem?_eq_some_iff.1 hd).1
          have hlt : j * k + l < us.length := by
            rw [q2]
            calc j * k + l < j * k + k := by omega
              _ = (j + 1) * k := by rw [Nat.succ_mul]
              _ ≤ (γ i).n * k := Nat.mul_le_mul_right _ (by omega)
          exact (q3 j l cs d _ hj hd (by rw [List.getD_eq_getElem?_getD, List.getElem?_eq_getElem hlt]; rfl)).mono hle)
        rw [hn] at key; exact key
      · have hxl : xs = [] := by
          cases xs with
          | nil => rfl
          | cons x r => simp only [List.length_cons] at e1; omega
        subst hxl
        have hn0 : n = 0 := by simpa using hn.symm
        subst hn0
        exact .sl k [] A _ 0 0 (fun _ _ => undef) (fun _ h => by simp at h) (by simp) (by simp) (fun h => by simp at h) (fun j i h => by simp at h) (fun j i cs a h => by simp at h)
  | box i cs ds hi hd =>
    obtain ⟨tt, us, q1, q2, q3⟩ := m.ent i _ hi
    obtain ⟨d1, d2⟩ := dAll_get hd
    cases r
    refine .d _ _ (.ptr ds (γ i).b 0 (fun j => us.getD j undef) (fun j hj => ?_) fun j a ha => ?_)
    · have hlt : j < us.length := by omega
      show w.cell? _ = _
      rw [cell_of_block q1, Nat.zero_add, List.getD_eq_getElem?_getD, List.getElem?_eq_getElem hlt]; rfl
    · obtain ⟨x, h1, h2⟩ := d2 j a ha
      have hlt : j < us.length := by rw [q2]; exact (List.getElem?_eq_some_iff.1 h1).1
      exact (dOf_sound h2 (q3 j x _ h1 (by rw [List.getD_eq_getElem?_getD, List.getElem?_eq_getElem hlt]; rfl))).mono hle

theorem blks_nil (γ : Ids) : blks γ [] = fun _ => False := by
  funext b; simp [blks, look]
theorem Mem.quiet {w0 w w' : World} {H0 H : HF} {B : Nat → Prop} {γ : Ids} {σ : Sg} (h : Mem w0 H0 B γ H σ w) (k : Keeps w (fun _ => False) w') : Mem w H (fun _ => False) γ H [] w' :=
  ⟨k, HLe.refl _, HNew.refl _ _ _, ⟨fun b o v hv => by
    have h1 := h.hok.c b o v hv
    have hlt := lt_of_cell h1
    simp only [World.cell?] at h1 ⊢
    rw [k.block b hlt (fun x => x)]; exact h1, fun b es c hv => by
    have h1 := h.hok.m b es c hv
    exact (k.block b (lt_of_heap h1) (fun x => x)).trans h1⟩, fun i e h => by simp [look] at h, fun i e h => by simp [look] at h, fun i e h => by simp [look] at h, fun i e j e' b h => by simp [look] at h⟩
/-- Scalars as arguments. -/
def scalars (xs : List Value) : List AV := xs.map fun x => .d (.v x)
/-- A contract, as the kit's call. -/
theorem Ct.calls {Λ : Amb} {P : Program} {f : FuncId} {avs : List AV} {V : Value} (h : Ct Λ P f avs [] (fun r _ => r = .d (.v V))) (w : World) (hΛ : Λ.p w) (hg : Λ.g ≤ w.heap.size) (vs : List Value) (hl : vs.length = avs.length)
    (hr : ∀ (j : Nat) (a : AV) (u : Value), avs[j]? = some a → vs[j]? = some u → Rep (fun _ => ⟨0, 0, fun _ => False⟩) (cellH w) a u) :
    Calls P f vs.toArray w fun e w' => e = .returned V ∧ Below w.heap.size w w' := by
  have := h none (fun _ => ⟨0, 0, fun _ => False⟩) (cellH w) w vs ⟨hΛ, hg, by rw [blks_nil]; exact fun b h => h.elim⟩ (by
    rw [blks_nil]
    exact ⟨Keeps.refl _ _, HLe.refl _, HNew.refl _ _ _, cellH_ok w, fun i e h => by simp [look] at h, fun i e h => by simp [look] at h, fun i e h => by simp [look] at h, fun i e j e' b h => by simp [look] at h⟩) hl hr
  refine (callsIn_wide.1 this).mono fun e w' ⟨v, r, σ, γ', H', he, hq, hrep, _, _, hm⟩ => ?_
  subst hq
  rw [blks_nil] at hm
  cases hrep with
  | d _ _ hd => cases hd with
    | v _ _ => exact ⟨he, hm.keep.below fun _ => id⟩

/-! ### Tables of the library -/
end Go.Gv
end
section
namespace Go.Gv
open Go.RowKit Go.ChangeShapes Go.WideShapes

section
variable {H : Type} {enc : TypeId × Value → H} {P : Program} {W : World}

/-- Whatever reads at that type stands for data of the shape G. -/
def OpenEl (enc : TypeId × Value → H) (P : Program) (W : World) (e : TypeId) (G : List D → Prop) : Prop :=
  ∀ (n : Nat) (cs : List Value) (x : DataW H × List MemPlace), DataW.trod enc P W 0 (fun _ => true) true n e cs = some x →
    ∃ ds : List D, cs.length = ds.length ∧ (∀ (j : Nat) (a : D) (u : Value), ds[j]? = some a → cs[j]? = some u → RepD (cellH W) a u) ∧ G ds

theorem openEl_one {e : TypeId} {G : List D → Prop} (h : ∀ n cs x, DataW.trod enc P W 0 (fun _ => true) true n e cs = some x → ∃ v a, cs = [v] ∧ RepD (cellH W) a v ∧ G [a]) : OpenEl enc P W e G := by
  intro n cs x hx
  obtain ⟨v, a, rfl, hr, hg⟩ := h n cs x hx
  refine ⟨[a], rfl, fun j b u h1 h2 => ?_, hg⟩
  cases j with
  | zero => simp at h1 h2; subst h1; subst h2; exact hr
  | succ j => simp at h1

theorem openEl_int {e : TypeId} {k : IntKind} (he : P.underlying e = some (.int k)) : OpenEl enc P W e (fun ds => ∃ n, ds = [.v (.int k n)] ∧ (Lit.int k n).wf = true) :=
  openEl_one fun _ _ _ hx => let ⟨m, h1, _, h2⟩ := DataW.trod_int he hx; ⟨_, .v (.int k m), h1, .v _ rfl, m, rfl, h2⟩

theorem openEl_bool {e : TypeId} (he : P.underlying e = some .bool) : OpenEl enc P W e (fun ds => ∃ b, ds = [.v (.bool b)]) :=
  openEl_one fun _ _ _ hx => let ⟨b, h1, _⟩ := DataW.trod_bool he hx; ⟨_, .v (.bool b), h1, .v _ rfl, b, rfl⟩

theorem openEl_str {e : TypeId} (he : P.underlying e = some .string) : OpenEl enc P W e (fun ds => ∃ s, ds = [.v (.string s)] ∧ s.size ≤ maxLen) :=
  openEl_one fun _ _ _ hx => let ⟨s, h1, _, h2⟩ := DataW.trod_string he hx; ⟨_, .v (.string s), h1, .v _ rfl, s, rfl, h2⟩

theorem choose_list {α : Type} {n : Nat} {p : Nat → α → Prop} (h : ∀ i, i < n → ∃ x, p i x) : ∃ l : List α, l.length = n ∧ ∀ i a, l[i]? = some a → p i a := by
  induction n with
  | zero => exact ⟨[], rfl, fun i a h => by simp at h⟩
  | succ n ih =>
    obtain ⟨l, hl, hp⟩ := ih fun i hi => h i (by omega)
    obtain ⟨x, hx⟩ := h n (by omega)
    refine ⟨l ++ [x], by simp [hl], fun i a hi => ?_⟩
    by_cases hin : i < l.length
    · rw [List.getElem?_append_left hin] at hi; exact hp i a hi
    · rw [List.getElem?_append_right (by omega)] at hi
      have : i - l.length = 0 := by
        rcases Nat.eq_zero_or_pos (i - l.length) with h0 | h0
        · exact h0
        · rw [List.getElem?_eq_none (by simp; omega)] at hi; cases hi
      rw [this] at hi
      simp at hi; subst hi
      rwa [show i = n by omega]

theorem add_zero_addr (a : Addr) : a.add 0 = a := by simp [Addr.add]

theorem cells_get {b0 : Nat} {a : Addr} {k : Nat} {cs : List Value} (h : W.cells? b0 a k = some cs) : cs.length = k ∧ ∀ j v, cs[j]? = some v → W.cell? (a.add j) = some v := by
  obtain ⟨_, hl, hc⟩ := World.cells?_some h
  refine ⟨hl, fun j v hj => ?_⟩
  have hjk : j < k := by rw [← hl]; exact (List.getElem?_eq_some_iff.1 hj).1
  rw [hc j hjk, hj]

theorem cell_spot {a : Addr} {v : Value} (h : W.cell? a = some v) : a.spot = none := by
  unfold World.cell? at h
  split at h
  · split at h
    · cases h
    · rename_i hs; simpa using hs
  · cases h

theorem openEl_slice {t e : TypeId} {G : List D → Prop} {k : Nat} (ht : P.underlying t = some (.slice e)) (hc : P.cellsOf e = k) (hk : 0 < k) (el : OpenEl enc P W e G) :
    OpenEl enc P W t (fun ds => ∃ xs, ds = [.sl k xs] ∧ ∀ cs, cs ∈ xs → G cs) := by
  refine openEl_one fun n cs x hx => ?_
  rcases Go.Deep.open_slice ht hx with ⟨rfl, _⟩ | ⟨a, len, cap, m, n', Df, Pl, rfl, _, hl, hm, hmm, _, hel⟩
  · exact ⟨_, .sl k [], rfl, .sl k [] none 0 0 0 (fun _ _ => .nilIface) (fun _ h => by simp at h) (Nat.le_refl _) (by simp) (by simp) (fun j i h => by simp at h) (fun j i cs a h => by simp at h), [], rfl, fun _ h => by simp at h⟩
  · simp only [if_true] at hmm
    subst hmm
    rw [hc] at hel
    have spot : 0 < len → a = ⟨a.block, a.off, none⟩ := by
      intro h0
      obtain ⟨cs', h1, h2⟩ := hel 0 (by omega)
      obtain ⟨hlen, hcell⟩ := cells_get h1
      have : ∃ v, cs'[0]? = some v := by
        have : 0 < cs'.length := by omega
        exact ⟨cs'[0], by simp [this]⟩
      obtain ⟨v, hv⟩ := this
      have := cell_spot (hcell 0 v hv)
      simp [add_zero_addr] at this
      cases a; simp_all
    obtain ⟨xs, hxl, hxp⟩ := choose_list (α := List D × List Value) (n := len) (p := fun i y => y.1.length = k ∧ y.2.length = k ∧ (∀ j v, y.2[j]? = some v → W.cell? ((a.add (i * k)).add j) = some v) ∧
        (∀ (j : Nat) (a : D) (u : Value), y.1[j]? = some a → y.2[j]? = some u → RepD (cellH W) a u) ∧ G y.1) fun i hi => by
      obtain ⟨cs', h1, h2⟩ := hel i (by omega)
      obtain ⟨hlen, hcell⟩ := cells_get h1
      obtain ⟨ds, hd, hr, hg⟩ := el n' cs' _ h2
      exact ⟨(ds, cs'), by simp; omega, hlen, hcell, hr, hg⟩
    have get : ∀ (j : Nat) (ds : List D), (xs.map (·.1))[j]? = some ds → ∃ y, xs[j]? = some y ∧ y.1 = ds := by
      intro j ds h
      simp only [List.getElem?_map, Option.map_eq_some_iff] at h
      exact h
    have hxl' : (xs.map (·.1)).length = len := by simp [hxl]
    refine ⟨_, .sl k (xs.map (·.1)), rfl, ?_, _, rfl, fun ds hds => ?_⟩
    · have key := RepD.sl (H := cellH W) k (xs.map (·.1)) (some a) m a.block a.off (fun j i => ((xs.getD j ([], [])).2.getD i .nilIface)) (fun cs hcs => by
          obtain ⟨j, hj⟩ := List.getElem?_of_mem hcs
          obtain ⟨y, hy, rfl⟩ := get j cs hj
          exact (hxp j y hy).1) (by rw [hxl']; exact hl) (by rw [hxl']; have : maxLen = 9223372036854775807 := rfl; omega) (fun h => by rw [hxl'] at h; rw [← spot h]) (fun j i hj hi => by
          rw [hxl'] at hj
          have hjx : j < xs.length := by omega
          obtain ⟨_, q2, q3, _⟩ := hxp j xs[j] (by simp [hjx])
          have hi' : i < (xs[j]).2.length := by omega
          have := q3 i (xs[j]).2[i] (by simp [hi'])
          simp only [cellH, List.getD, hjx, List.getElem?_eq_getElem, Option.getD_some, hi']
          rw [← this]
          congr 1
          have hs := spot (by omega)
          rw [Go.Deep.add_add]
          unfold Addr.add
          split
          · rename_i h0
            have e1 : j * k = 0 := by omega
            have e2 : i = 0 := by omega
            rw [e1, e2]; exact hs.symm
          · rw [Nat.add_assoc]) (fun j i ds d hj hd => by
          obtain ⟨y, hy, rfl⟩ := get j ds hj
          obtain ⟨q1, q2, _, q4, _⟩ := hxp j y hy
          have hi' : i < y.2.length := by have := (List.getElem?_eq_some_iff.1 hd).1; omega
          have : (xs.getD j ([], [])) = y := by simp [List.getD, hy]
          rw [this]
          exact q4 i d _ hd (by simp [List.getD, hi']))
      rw [hxl'] at key
      exact key
    · obtain ⟨j, hj⟩ := List.getElem?_of_mem hds
      obtain ⟨y, hy, rfl⟩ := get j ds hj
      exact (hxp j y hy).2.2.2.2


/-! ### Types by their shape -/
inductive Ty where
  | int (k : IntKind)
  | bool
  | str
  | st (fs : List Ty)
  | sl (e : Ty)
def cells : Ty → Nat
  | .st fs => go fs
  | _ => 1
where go : List Ty → Nat
  | [] => 0
  | f :: r => cells f + go r
def Ty.ok : Ty → List D → Prop
  | .int k, ds => ∃ n, ds = [.v (.int k n)] ∧ (Lit.int k n).wf = true
  | .bool, ds => ∃ b, ds = [.v (.bool b)]
  | .str, ds => ∃ l : List UInt8, ds = [.v (.string ⟨⟨l⟩⟩)] ∧ l.length ≤ maxLen
  | .st fs, ds => okFs fs ds
  | .sl e, ds => ∃ xs, ds = [.sl (cells e) xs] ∧ ∀ cs, cs ∈ xs → e.ok cs
where okFs : List Ty → List D → Prop
  | [], ds => ds = []
  | f :: r, ds => ∃ d1 d2, ds = d1 ++ d2 ∧ f.ok d1 ∧ okFs r d2
/-- Is a type of this shape? -/
def Ty.isT (P : Program) : Ty → TypeId → Bool
  | .int k, t => (match P.underlying t with | some (.int k') => kEq k k' | _ => false) && Nat.beq (P.cellsOf t) 1
  | .bool, t => (match P.underlying t with | some .bool => true | _ => false) && Nat.beq (P.cellsOf t) 1
  | .str, t => (match P.underlying t with | some .string => true | _ => false) && Nat.beq (P.cellsOf t) 1
  | .st fs, t => (match P.underlying t with | some (.struct gs) => isFs P fs gs.toList 0 && Nat.beq (P.cellsOf t) (cells (.st fs)) | _ => false)
  | .sl e, t => (match P.underlying t with | some (.slice u) => e.isT P u && Nat.blt 0 (cells e) | _ => false) && Nat.beq (P.cellsOf t) 1
where isFs (P : Program) : List Ty → List Field → Nat → Bool
  | [], [], _ => true
  | f :: r, g :: s, off => Nat.beq g.offset off && f.isT P g.type && isFs P r s (off + cells f)
  | _, _, _ => false

theorem isT_cells {ty : Ty} {t : TypeId} (h : ty.isT P t = true) : P.cellsOf t = cells ty := by
  cases ty with
  | int k => simp only [Ty.isT, Bool.and_eq_true, Nat.beq_eq] at h; exact h.2
  | bool => simp only [Ty.isT, Bool.and_eq_true, Nat.beq_eq] at h; exact h.2
  | str => simp only [Ty.isT, Bool.and_eq_true, Nat.beq_eq] at h; exact h.2
  | sl e => simp only [Ty.isT, Bool.and_eq_true, Nat.beq_eq] at h; exact h.2
  | st fs =>
    simp only [Ty.isT] at h
    split at h
    · simp only [Bool.and_eq_true, Nat.beq_eq] at h; exact h.2
    · cases h

theorem byteSize (s : ByteArray) : s.data.toList.length = s.size := rfl
mutual
theorem openTy : ∀ (ty : Ty) (t : TypeId), ty.isT P t = true → OpenEl enc P W t ty.ok
  | .int k, t, hty => by
    simp only [Ty.isT, Bool.and_eq_true] at hty
    obtain ⟨h1, _⟩ := hty
    split at h1
    · next k' hu =>
      obtain rfl := kEq_eq h1
      exact openEl_int hu
    · cases h1
  | .bool, t, hty => by
    simp only [Ty.isT, Bool.and_eq_true] at hty
    obtain ⟨h1, _⟩ := hty
    split at h1
    · next hu => exact openEl_bool hu
    · cases h1
  | .str, t, hty => by
    simp only [Ty.isT, Bool.and_eq_true] at hty
    obtain ⟨h1, _⟩ := hty
    split at h1
    · next hu =>
      intro n cs x hx
      obtain ⟨ds, e1, e2, s, rfl, hs⟩ := openEl_str hu n cs x hx
      exact ⟨_, e1, e2, s.data.toList, rfl, by rw [byteSize]; exact hs⟩
    · cases h1
  | .sl e, t, hty => by
    simp only [Ty.isT, Bool.and_eq_true] at hty
    obtain ⟨h1, _⟩ := hty
    split at h1
    · next u hu =>
      simp only [Bool.and_eq_true, Nat.blt_eq] at h1
      exact openEl_slice hu (isT_cells h1.1) h1.2 (openTy e u h1.1)
    · cases h1
  | .st fs, t, hty => by
    simp only [Ty.isT] at hty
    split at hty
    · next gs hu =>
      simp only [Bool.and_eq_true, Nat.beq_eq] at hty
      intro n cs x hx
      obtain ⟨xs, m, _, _, hl, hsz, hfld⟩ := DataW.trod_struct hu hx
      have hlen : cs.length = cells (.st fs) := by rw [hl]; exact hty.2
      obtain ⟨ds, e1, e2, e3⟩ := openFs fs gs.toList 0 hty.1 m cs (by rw [hlen]; simp [cells]) (fun k g hg => by
        have hg' : gs[k]? = some g := by simpa using hg
        have hk : k < xs.length := by
          have := (Array.getElem?_eq_some_iff.1 hg').1
          omega
        have := hfld k g hg'
        exact ⟨xs[k], this.trans (by simp [hk])⟩)
      refine ⟨ds, by rw [hlen, e1]; rfl, fun j a u ha hu => e2 j a u ha (by simpa using hu), e3⟩
    · cases hty
theorem openFs : ∀ (fs : List Ty) (gs : List Field) (off : Nat), Ty.isT.isFs P fs gs off = true → ∀ (n : Nat) (cs : List Value), off + cells.go fs ≤ cs.length →
    (∀ (k : Nat) (g : Field), gs[k]? = some g → ∃ y, DataW.trod enc P W 0 (fun _ => true) true n g.type ((cs.drop g.offset).take (P.cellsOf g.type)) = some y) →
    ∃ ds : List D, ds.length = cells.go fs ∧ (∀ (j : Nat) (a : D) (u : Value), ds[j]? = some a → cs[off + j]? = some u → RepD (cellH W) a u) ∧ Ty.ok.okFs fs ds
  | [], [], off, _, n, cs, _, _ => ⟨[], rfl, fun j a u h => by simp at h, rfl⟩
  | f :: r, g :: s, off, hty, n, cs, hle, hf => by
    simp only [Ty.isT.isFs, Bool.and_eq_true, Nat.beq_eq] at hty
    obtain ⟨⟨h1, h2⟩, h3⟩ := hty
    simp only [cells.go] at hle
    obtain ⟨y, hy⟩ := hf 0 g rfl
    obtain ⟨d1, e1, e2, e3⟩ := openTy f g.type h2 n _ _ hy
    obtain ⟨d2, e4, e5, e6⟩ := openFs r s (off + cells f) h3 n cs (by omega) (fun k g' hg => hf (k + 1) g' (by simpa using hg))
    rw [h1, isT_cells h2] at e1 e2
    have hl1 : d1.length = cells f := by
      rw [← e1, List.length_take, List.length_drop]; omega
    refine ⟨d1 ++ d2, by simp [cells.go, hl1, e4], fun j a u ha hu => ?_, d1, d2, rfl, e3, e6⟩
    by_cases hj : j < d1.length
    · rw [List.getElem?_append_left hj] at ha
      refine e2 j a u ha ?_
      rw [List.getElem?_take, if_pos (by omega), List.getElem?_drop]; exact hu
    · rw [List.getElem?_append_right (by omega)] at ha
      refine e5 (j - d1.length) a u ha ?_
      rw [hl1, show off + cells f + (j - cells f) = off + j by omega]; exact hu
  | [], _ :: _, off, hty, _, _, _, _ => by simp [Ty.isT.isFs] at hty
  | _ :: _, [], off, hty, _, _, _, _ => by simp [Ty.isT.isFs] at hty
end

/-- What stands for an argument. -/
def firstAV : List D → AV
  | d :: _ => .d d
  | [] => .junk
def Ty.av : Ty → List D → AV
  | .st _, ds => .agg (ds.map .d)
  | _, ds => firstAV ds
/-- An argument, opened. -/
theorem openArg {b0 : Nat} {t : TypeId} (ty : Ty) {v : Value} {d : DataW H} {ps : List MemPlace} (hty : ty.isT P t = true) (hok : Value.okWide P W .any b0 t v) (h : DataW.Trod enc P W 0 (fun _ => true) true t v d ps) :
    ∃ ds, ty.ok ds ∧ ∀ γ, Rep γ (cellH W) (ty.av ds) v := by
  obtain ⟨n, hn⟩ := h
  obtain ⟨ds, hl, hr, hG⟩ := openTy ty t hty n _ _ hn
  refine ⟨ds, hG, fun γ => ?_⟩
  have single : v.cells.toList = [v] → Ty.av ty ds = firstAV ds → Rep γ (cellH W) (ty.av ds) v := fun hc he => by
    rw [he]
    rw [hc] at hl hr
    match ds, hl with
    | [a], _ => exact .d _ _ (hr 0 a v rfl rfl)
  cases ty with
  | st fs =>
    simp only [Ty.isT] at hty
    split at hty
    · next gs hu =>
      obtain ⟨cs, rfl, _⟩ := okWide_struct hu hok
      have := rep_map_d (γ := γ) (H := cellH W) (cs := ds) (us := cs.toList) (by simpa [Value.cells] using hl) (fun j a u ha hu => hr j a u ha (by simpa [Value.cells] using hu))
      simpa [Ty.av] using this
    · cases hty
  | int k =>
    simp only [Ty.isT, Bool.and_eq_true] at hty
    obtain ⟨h1, _⟩ := hty
    split at h1
    · next hu => obtain ⟨n, rfl⟩ := okWide_int hu hok; exact single rfl rfl
    · cases h1
  | bool =>
    simp only [Ty.isT, Bool.and_eq_true] at hty
    obtain ⟨h1, _⟩ := hty
    split at h1
    · next hu => obtain ⟨n, rfl⟩ := okWide_bool hu hok; exact single rfl rfl
    · cases h1
  | str =>
    simp only [Ty.isT, Bool.and_eq_true] at hty
    obtain ⟨h1, _⟩ := hty
    split at h1
    · next hu => obtain ⟨n, rfl⟩ := okWide_string hu hok; exact single rfl rfl
    · cases h1
  | sl e =>
    simp only [Ty.isT, Bool.and_eq_true] at hty
    obtain ⟨h1, _⟩ := hty
    split at h1
    · next hu => obtain ⟨a, l, c, rfl⟩ := okWide_slice hu hok; exact single rfl rfl
    · cases h1
/-- Rows whose elements are told by a shape. -/
theorem rowsOf {α : Type} {p : List D → Prop} {enc' : α → List D} {q : α → Prop} (h : ∀ cs, p cs → ∃ a, cs = enc' a ∧ q a) : ∀ {xs : List (List D)}, (∀ cs, cs ∈ xs → p cs) → ∃ l : List α, xs = l.map enc' ∧ ∀ a, a ∈ l → q a
  | [], _ => ⟨[], rfl, fun _ h => by simp at h⟩
  | c :: r, hx => by
    obtain ⟨a, rfl, ha⟩ := h c (hx c (by simp))
    obtain ⟨l, rfl, hl⟩ := rowsOf h (xs := r) fun cs hcs => hx cs (by simp [hcs])
    exact ⟨a :: l, rfl, fun b hb => by rcases List.mem_cons.1 hb with rfl | hb; exact ha; exact hl b hb⟩
end
theorem args_nil {γ : Ids} {H : HF} : ∀ (j : Nat) (a : AV) (u : Value), ([] : List AV)[j]? = some a → ([] : List Value)[j]? = some u → Rep γ H a u := fun j a u h => by simp at h
theorem args_cons {γ : Ids} {H : HF} {avs : List AV} {vs : List Value} {a0 : AV} {u0 : Value} (h0 : Rep γ H a0 u0) (h : ∀ (j : Nat) (a : AV) (u : Value), avs[j]? = some a → vs[j]? = some u → Rep γ H a u) :
    ∀ (j : Nat) (a : AV) (u : Value), (a0 :: avs)[j]? = some a → (u0 :: vs)[j]? = some u → Rep γ H a u := by
  intro j a u h1 h2
  cases j with
  | zero => simp at h1 h2; subst h1; subst h2; exact h0
  | succ j => exact h j a u (by simpa using h1) (by simpa using h2)
end Go.Gv
end
section
namespace Go.Gv
open Go.RowKit

section
variable {X : Cx} {d : Option Nat} {ty : TypeId} {pos : String} {aft : Array Edge} {g : Option (Nat × Bool)} {t : T} {σ : Sg}

end
/-! ### Comparison of structs, however deep -/
section
variable {X : Cx} {d : Option Nat} {ty : TypeId} {pos : String} {aft : Array Edge} {g : Option (Nat × Bool)} {t : T} {σ : Sg}
end
end Go.Gv
end
section
namespace Go.Gv
open Go.RowKit
universe u
def keepG {α : Type u} (ws : List Nat) : List (Nat × α) → List (Nat × α)
  | [] => []
  | (i, a) :: t => match memN i ws with
    | true => keepG ws t
    | false => (i, a) :: keepG (i :: ws) t
theorem keepG_not {α : Type u} : ∀ {ws : List Nat} {t : List (Nat × α)} {i : Nat}, memN i ws = true → look i (keepG ws t) = none
  | ws, [], i, _ => rfl
  | ws, (j, a) :: t, i, h => by
    simp only [keepG]
    split
    · exact keepG_not h
    · next hj =>
      rw [look_cons]
      have : i ≠ j := fun e => by subst e; rw [h] at hj; cases hj
      rw [if_neg this]
      exact keepG_not (by rw [memN_cons]; simp [h])
theorem keepG_wk {α : Type u} : ∀ (ws : List Nat) (t : List (Nat × α)), Wk (keepG ws t) t
  | ws, [], i, b, h => by simp [keepG, look] at h
  | ws, (j, a) :: t, i, b, h => by
    simp only [keepG] at h
    rw [look_cons]
    split at h
    · next hj =>
      have : i ≠ j := fun e => by
        subst e
        rw [keepG_not hj] at h; cases h
      rw [if_neg this]
      exact keepG_wk ws t i b h
    · rw [look_cons] at h
      split at h
      · next e => rw [if_pos e]; exact h
      · next e => rw [if_neg e]; exact keepG_wk (j :: ws) t i b h
theorem Wk.app {α : Type u} {a b l : List (Nat × α)} (h : Wk a l) (k : Wk b l) : Wk (a ++ b) l := fun i x hi => by
  rw [look_append] at hi
  cases hx : look i a with
  | some y => rw [hx, Option.some_or] at hi; rw [← hi]; exact h i y hx
  | none => rw [hx] at hi; simp only [Option.none_or] at hi; exact k i x hi
theorem WJ.loopK {X : Cx} {c : Code} {t : T} {σ : Sg} {Q : Qt} {V : Type} (T0 : V → T) (S0 : V → Sg) (ks : List Nat) (μ : V → Nat) (I : V → Prop) (v0 : V) (h0 : I v0) (ht : Has (T0 v0) t) (hs : Has (S0 v0) σ)
    (round : ∀ v, I v → vc X c (T0 v ++ keepT (writes c []) t) (S0 v ++ keepG ks σ) fun e t' σ' => match e with
      | .normal => ∃ v', I v' ∧ μ v' < μ v ∧ Has (T0 v') t' ∧ Has (keepT (writes c []) t) t' ∧ Has (S0 v') σ' ∧ Has (keepG ks σ) σ'
      | e => Q e t' σ') : WJ X (.loop c) t σ Q := by
  refine WJ.loop (fun n t' σ' => ∃ v, I v ∧ n = μ v ∧ Wk (T0 v ++ keepT (writes c []) t) t' ∧ Wk (S0 v ++ keepG ks σ) σ') (μ v0) ⟨v0, h0, rfl, ht.wk.app (keepT_wk _ _), hs.wk.app (keepG_wk _ _)⟩ ?_
  rintro n t' σ' ⟨v, hv, rfl, ht', hs'⟩
  refine WJ.wk ht' hs' ((vc_sound _ _ _ _ (round v hv)).mono fun e t'' σ'' q => ?_)
  cases e with
  | normal =>
    obtain ⟨v', h1, h2, h3, h4, h5, h6⟩ := q
    exact ⟨μ v', h2, v', h1, rfl, h3.wk.app h4.wk, h5.wk.app h6.wk⟩
  | exit id => exact q
  | goto l => exact q
  | ret => exact q
  | panic ch => exact q
  | outgrown => exact q
end Go.Gv
end
section
open Go Go.Gv
attribute [local irreducible] Go.Gv.WJ Go.Gv.OpJ Go.Gv.QJ Go.Gv.Spl Go.Gv.Req Go.Gv.IdxP Go.Gv.RegP Go.Gv.FinP Go.Gv.CellP Go.Gv.CellsP Go.Gv.ArrP Go.Gv.ArrsP Go.Gv.DropP Go.Gv.ByteP Go.Gv.StoreP
set_option maxRecDepth 100000
namespace Go.Proofs.E
abbrev iv (n : Int) : AV := .d (.v (.int .i64 n))
abbrev bv (b : Bool) : AV := .d (.v (.bool b))
/-- Nothing of the world is asked. -/
def tab : Amb := ⟨fun _ => True, 0, fun _ _ => trivial⟩
abbrev Cv (f : FuncId) (avs : List AV) (r : AV) : Prop := Ct tab Try.prog f avs [] (fun q _ => q = r)
theorem some_iv {a b : Int} (h : a = b) : some (iv a) = some (iv b) := by rw [h]
theorem wrap_id (x : Int) (h : -9223372036854775808 ≤ x) (h' : x ≤ 9223372036854775807) : IntKind.i64.wrap x = x := by
  simp only [IntKind.wrap, IntKind.signed, IntKind.bits]; simp; omega
end Go.Proofs.E
end
section
open Go Go.Gv
namespace Go.Proofs.E
structure AC where
  t : Int
  k : Int
  loc : Int
  deriving DecidableEq
def dirA (a b : AC) : Prop := a.t = b.t ∨ (a.k = 3 ∧ b.k = 2 ∧ a.loc = b.loc)
inductive HB (l : List AC) : Nat → Nat → Prop
  | dir {i k : Nat} {a b : AC} : i < k → l[i]? = some a → l[k]? = some b → dirA a b → HB l i k
  | trans {i d k : Nat} {a b : AC} : HB l i d → d < k → l[d]? = some a → l[k]? = some b → dirA a b → HB l i k
theorem HB.lt {l : List AC} {i k : Nat} (h : HB l i k) : i < k ∧ k < l.length := by
  induction h with
  | dir h1 _ h3 _ => exact ⟨h1, (List.getElem?_eq_some_iff.1 h3).1⟩
  | trans _ h1 _ h3 _ ih => exact ⟨by omega, (List.getElem?_eq_some_iff.1 h3).1⟩
theorem HB.app {l : List AC} {i k : Nat} (h : HB l i k) (r : List AC) : HB (l ++ r) i k := by
  induction h with
  | dir h1 h2 h3 h4 => exact .dir h1 (by rw [List.getElem?_append_left (List.getElem?_eq_some_iff.1 h2).1]; exact h2) (by rw [List.getElem?_append_left (List.getElem?_eq_some_iff.1 h3).1]; exact h3) h4
  | trans _ h1 h2 h3 h4 ih => exact .trans ih h1 (by rw [List.getElem?_append_left (List.getElem?_eq_some_iff.1 h2).1]; exact h2) (by rw [List.getElem?_append_left (List.getElem?_eq_some_iff.1 h3).1]; exact h3) h4
theorem HB.pre {l r : List AC} {i k : Nat} (h : HB (l ++ r) i k) : k < l.length → HB l i k := by
  induction h with
  | dir h1 h2 h3 h4 => intro hk; exact .dir h1 (by rw [List.getElem?_append_left (by omega)] at h2; exact h2) (by rw [List.getElem?_append_left hk] at h3; exact h3) h4
  | trans _ h1 h2 h3 h4 ih => intro hk; exact .trans (ih (by omega)) h1 (by rw [List.getElem?_append_left (by omega)] at h2; exact h2) (by rw [List.getElem?_append_left hk] at h3; exact h3) h4
theorem snoc_get {α : Type} (l : List α) (a : α) : (l ++ [a])[l.length]? = some a := by simp
theorem snoc_old {α : Type} {l : List α} {a : α} {i : Nat} {b : α} (h : l[i]? = some b) : (l ++ [a])[i]? = some b := by
  rw [List.getElem?_append_left (List.getElem?_eq_some_iff.1 h).1]; exact h
theorem snoc_cases {α : Type} {l : List α} {a : α} {i : Nat} {b : α} (h : (l ++ [a])[i]? = some b) : (i < l.length ∧ l[i]? = some b) ∨ (i = l.length ∧ b = a) := by
  have hi := (List.getElem?_eq_some_iff.1 h).1
  rw [List.length_append] at hi
  simp only [List.length_cons, List.length_nil] at hi
  by_cases e : i < l.length
  · rw [List.getElem?_append_left e] at h; exact .inl ⟨e, h⟩
  · have e2 : i = l.length := by omega
    subst e2
    rw [snoc_get] at h; exact .inr ⟨rfl, (Option.some.inj h).symm⟩
theorem get_lt {α : Type} {l : List α} {i : Nat} {b : α} (h : l[i]? = some b) : i < l.length := (List.getElem?_eq_some_iff.1 h).1
theorem HB.old {l : List AC} {a : AC} {i k : Nat} (hk : k < l.length) : HB (l ++ [a]) i k ↔ HB l i k := ⟨fun h => h.pre hk, fun h => h.app _⟩
theorem HB.last {l : List AC} {a : AC} {i : Nat} : HB (l ++ [a]) i l.length ↔ ∃ (d : Nat) (b : AC), l[d]? = some b ∧ dirA b a ∧ (i = d ∨ HB l i d) := by
  constructor
  · intro h
    generalize hn : l.length = n at h
    cases h with
    | dir h1 h2 h3 h4 =>
      subst hn
      rw [snoc_get] at h3; cases h3
      rw [List.getElem?_append_left h1] at h2
      exact ⟨i, _, h2, h4, .inl rfl⟩
    | trans h0 h1 h2 h3 h4 =>
      subst hn
      rw [snoc_get] at h3; cases h3
      rw [List.getElem?_append_left h1] at h2
      exact ⟨_, _, h2, h4, .inr (h0.pre h1)⟩
  · rintro ⟨d, b, h1, h2, rfl | h3⟩
    · exact .dir (get_lt h1) (snoc_old h1) (snoc_get l a) h2
    · exact .trans (h3.app _) (get_lt h1) (snoc_old h1) (snoc_get l a) h2
/-! ### Counts -/
def cntL (l : List AC) (t : Int) : Int := ((l.filter fun a => decide (a.t = t)).length : Nat)
theorem cnt_snoc (l : List AC) (a : AC) (t : Int) : cntL (l ++ [a]) t = cntL l t + (if a.t = t then 1 else 0) := by
  unfold cntL
  rw [List.filter_append, List.length_append]
  by_cases h : a.t = t <;> simp [h]
def num (l : List AC) (i : Nat) : Int := match l[i]? with
  | some a => cntL (l.take (i + 1)) a.t
  | none => 0
theorem num_old {l : List AC} {a b : AC} {i : Nat} (h : l[i]? = some b) : num (l ++ [a]) i = num l i := by
  unfold num
  rw [snoc_old h, h]
  simp only
  rw [List.take_append_of_le_length (by have := get_lt h; omega)]
theorem num_last (l : List AC) (a : AC) : num (l ++ [a]) l.length = cntL l a.t + 1 := by
  unfold num
  rw [snoc_get]
  simp only
  rw [List.take_of_length_le (by simp), cnt_snoc, if_pos rfl]
theorem cnt_take (l : List AC) (t : Int) (i : Nat) : cntL (l.take i) t ≤ cntL l t := by
  unfold cntL
  have := List.Sublist.length_le ((List.take_sublist i l).filter fun a => decide (a.t = t))
  omega
theorem num_le {l : List AC} {i : Nat} {a : AC} (h : l[i]? = some a) : num l i ≤ cntL l a.t := by
  unfold num; rw [h]; exact cnt_take l _ _
def mx (a b : Int) : Int := if b > a then b else a
theorem mx_le (a b c : Int) : c ≤ mx a b ↔ c ≤ a ∨ c ≤ b := by unfold mx; split <;> omega
theorem le_mx (a b c : Int) : mx a b ≤ c ↔ a ≤ c ∧ b ≤ c := by unfold mx; split <;> omega
def knowC (th sg : Int → Int → Int) (a : AC) : Int → Int := fun x => (if a.k = 2 then mx (th a.t x) (sg a.loc x) else th a.t x) + (if x = a.t then 1 else 0)
def thS (th sg : Int → Int → Int) (a : AC) : Int → Int → Int := fun t => if t = a.t then knowC th sg a else th t
def sgS (th sg : Int → Int → Int) (a : AC) : Int → Int → Int := fun loc => if a.k = 3 ∧ loc = a.loc then fun x => mx (sg loc x) (knowC th sg a x) else sg loc
structure InvC (l : List AC) (th sg : Int → Int → Int) (cs : List (Int → Int)) : Prop where
  len : cs.length = l.length
  kn : ∀ (t : Int) (i : Nat) (a : AC), l[i]? = some a → ((∃ (p : Nat) (b : AC), l[p]? = some b ∧ b.t = t ∧ (i = p ∨ HB l i p)) ↔ num l i ≤ th t a.t)
  ks : ∀ (loc : Int) (i : Nat) (a : AC), l[i]? = some a → ((∃ (p : Nat) (b : AC), l[p]? = some b ∧ (b.k = 3 ∧ b.loc = loc) ∧ (i = p ∨ HB l i p)) ↔ num l i ≤ sg loc a.t)
  bt : ∀ t x, th t x ≤ cntL l x
  bs : ∀ loc x, sg loc x ≤ cntL l x
  own : ∀ t, th t t = cntL l t
  cl : ∀ (i : Nat) (c : Int → Int), cs[i]? = some c → ∀ (j : Nat) (b : AC), l[j]? = some b → j ≤ i → ((j = i ∨ HB l j i) ↔ num l j ≤ c b.t)
  clo : ∀ (i : Nat) (a : AC) (c : Int → Int), l[i]? = some a → cs[i]? = some c → c a.t = num l i
theorem InvC.nil : InvC [] (fun _ _ => 0) (fun _ _ => 0) [] :=
  ⟨rfl, fun _ _ _ h => by simp at h, fun _ _ _ h => by simp at h, fun _ _ => Int.le_refl _, fun _ _ => Int.le_refl _, fun _ => rfl, fun _ _ h => by simp at h, fun _ _ _ h => by simp at h⟩
theorem knowC_own {l : List AC} {th sg : Int → Int → Int} {cs : List (Int → Int)} (h : InvC l th sg cs) (a : AC) : knowC th sg a a.t = cntL l a.t + 1 := by
  unfold knowC
  rw [if_pos rfl]
  have h1 := h.own a.t
  have h2 := h.bs a.loc a.t
  split
  · unfold mx; split <;> omega
  · omega
theorem knowC_le {l : List AC} {th sg : Int → Int → Int} {cs : List (Int → Int)} (h : InvC l th sg cs) (a : AC) (x : Int) : knowC th sg a x ≤ cntL (l ++ [a]) x := by
  rw [cnt_snoc]
  unfold knowC
  have h1 := h.bt a.t x
  have h2 := h.bs a.loc x
  have e : (if x = a.t then (1 : Int) else 0) = if a.t = x then 1 else 0 := by
    by_cases q : x = a.t
    · rw [if_pos q, if_pos q.symm]
    · rw [if_neg q, if_neg fun e => q e.symm]
  rw [e]
  split
  · unfold mx; split <;> omega
  · omega
/-- What the last act knows. -/
theorem knowC_is {l : List AC} {th sg : Int → Int → Int} {cs : List (Int → Int)} (h : InvC l th sg cs) (a : AC) {j : Nat} {b : AC} (hj : l[j]? = some b) : HB (l ++ [a]) j l.length ↔ num l j ≤ knowC th sg a b.t := by
  rw [HB.last]
  by_cases ht : b.t = a.t
  · have h1 := knowC_own h a
    rw [ht, h1]
    have h2 := num_le hj
    rw [ht] at h2
    exact ⟨fun _ => by omega, fun _ => ⟨j, b, hj, .inl ht, .inl rfl⟩⟩
  · have e : knowC th sg a b.t = if a.k = 2 then mx (th a.t b.t) (sg a.loc b.t) else th a.t b.t := by
      unfold knowC; rw [if_neg ht, Int.add_zero]
    rw [e]
    have k1 := h.kn a.t j b hj
    have k2 := h.ks a.loc j b hj
    constructor
    · rintro ⟨d, c, h1, h2, h3⟩
      rcases h2 with h2 | ⟨h2, h4, h5⟩
      · have := k1.1 ⟨d, c, h1, h2, h3⟩
        split
        · exact (mx_le _ _ _).2 (.inl this)
        · exact this
      · rw [if_pos h4]
        exact (mx_le _ _ _).2 (.inr (k2.1 ⟨d, c, h1, ⟨h2, h5⟩, h3⟩))
    · intro h0
      have h0 : num l j ≤ th a.t b.t ∨ (a.k = 2 ∧ num l j ≤ sg a.loc b.t) := by
        split at h0
        · next q => exact ((mx_le _ _ _).1 h0).elim .inl fun x => .inr ⟨q, x⟩
        · exact .inl h0
      rcases h0 with h0 | ⟨q, h0⟩
      · obtain ⟨p, c, h1, h2, h3⟩ := k1.2 h0
        exact ⟨p, c, h1, .inl h2, h3⟩
      · obtain ⟨p, c, h1, ⟨h2, h4⟩, h3⟩ := k2.2 h0
        exact ⟨p, c, h1, .inr ⟨h2, q, h4⟩, h3⟩
theorem InvC.snoc {l : List AC} {th sg : Int → Int → Int} {cs : List (Int → Int)} (h : InvC l th sg cs) (a : AC) : InvC (l ++ [a]) (thS th sg a) (sgS th sg a) (cs ++ [knowC th sg a]) := by
  have hown := knowC_own h a
  have hle := knowC_le h a
  have hnum := num_last l a
  have old : ∀ {i : Nat} {b : AC}, l[i]? = some b → ∀ p : Nat, p < l.length → ((i = p ∨ HB (l ++ [a]) i p) ↔ (i = p ∨ HB l i p)) := fun hi p hp => or_congr_right (HB.old hp)
  -- of the last act's thread or sign: who knows
  have new : ∀ (i : Nat) (b : AC), (l ++ [a])[i]? = some b → ((i = l.length ∨ HB (l ++ [a]) i l.length) ↔ num (l ++ [a]) i ≤ knowC th sg a b.t) := fun i b hi => by
    rcases snoc_cases hi with ⟨hlt, hi⟩ | ⟨rfl, rfl⟩
    · rw [num_old hi, ← knowC_is h a hi]
      exact ⟨fun x => x.resolve_left (by omega), .inr⟩
    · rw [hnum, hown]
      exact ⟨fun _ => Int.le_refl _, fun _ => .inl rfl⟩
  have cmono : ∀ x, cntL l x ≤ cntL (l ++ [a]) x := fun x => by rw [cnt_snoc]; split <;> omega
  refine ⟨by simp [h.len], fun t i b hi => ?_, fun loc i b hi => ?_, fun t x => ?_, fun loc x => ?_, fun t => ?_, fun i c hc j b hj hji => ?_, fun i b c hi hc => ?_⟩
  · by_cases ht : t = a.t
    · have e : thS th sg a t = knowC th sg a := if_pos ht
      rw [e, ← new i b hi]
      constructor
      · rintro ⟨p, c, h1, h2, h3⟩
        rcases snoc_cases h1 with ⟨hp, h1⟩ | ⟨rfl, rfl⟩
        · right
          have hd : dirA c a := .inl (h2.trans ht)
          rcases h3 with rfl | h3
          · exact HB.last.2 ⟨_, c, h1, hd, .inl rfl⟩
          · exact HB.last.2 ⟨p, c, h1, hd, .inr (h3.pre hp)⟩
        · exact h3
      · intro h3
        exact ⟨l.length, a, snoc_get l a, ht.symm, h3⟩
    · have e : thS th sg a t = th t := if_neg ht
      rw [e]
      rcases snoc_cases hi with ⟨hlt, hi'⟩ | ⟨rfl, rfl⟩
      · rw [num_old hi', ← h.kn t i b hi']
        constructor
        · rintro ⟨p, c, h1, h2, h3⟩
          rcases snoc_cases h1 with ⟨hp, h1⟩ | ⟨rfl, rfl⟩
          · exact ⟨p, c, h1, h2, (old hi' p hp).1 h3⟩
          · exact absurd h2.symm ht
        · rintro ⟨p, c, h1, h2, h3⟩
          exact ⟨p, c, snoc_old h1, h2, (old hi' p (get_lt h1)).2 h3⟩
      · rw [hnum]
        have := h.bt t b.t
        constructor
        · rintro ⟨p, c, h1, h2, h3⟩
          rcases snoc_cases h1 with ⟨hp, h1⟩ | ⟨rfl, rfl⟩
          · rcases h3 with h3 | h3
            · omega
            · have := h3.lt; omega
          · exact absurd h2.symm ht
        · intro; omega
  · by_cases hl : a.k = 3 ∧ loc = a.loc
    · have e : sgS th sg a loc = fun x => mx (sg loc x) (knowC th sg a x) := if_pos hl
      rw [e]
      simp only
      rw [mx_le]
      constructor
      · rintro ⟨p, c, h1, h2, h3⟩
        rcases snoc_cases h1 with ⟨hp, h1⟩ | ⟨rfl, rfl⟩
        · left
          rcases snoc_cases hi with ⟨hlt, hi'⟩ | ⟨rfl, rfl⟩
          · rw [num_old hi']
            exact (h.ks loc i b hi').1 ⟨p, c, h1, h2, (old hi' p hp).1 h3⟩
          · rcases h3 with h3 | h3
            · omega
            · have := h3.lt; omega
        · exact .inr ((new i b hi).1 h3)
      · rintro (h3 | h3)
        · rcases snoc_cases hi with ⟨hlt, hi'⟩ | ⟨rfl, rfl⟩
          · rw [num_old hi'] at h3
            obtain ⟨p, c, h1, h2, h4⟩ := (h.ks loc i b hi').2 h3
            exact ⟨p, c, snoc_old h1, h2, (old hi' p (get_lt h1)).2 h4⟩
          · rw [hnum] at h3
            have := h.bs loc b.t
            omega
        · exact ⟨l.length, a, snoc_get l a, ⟨hl.1, hl.2.symm⟩, (new i b hi).2 h3⟩
    · have e : sgS th sg a loc = sg loc := if_neg hl
      rw [e]
      rcases snoc_cases hi with ⟨hlt, hi'⟩ | ⟨rfl, rfl⟩
      · rw [num_old hi', ← h.ks loc i b hi']
        constructor
        · rintro ⟨p, c, h1, h2, h3⟩
          rcases snoc_cases h1 with ⟨hp, h1⟩ | ⟨rfl, rfl⟩
          · exact ⟨p, c, h1, h2, (old hi' p hp).1 h3⟩
          · exact absurd ⟨h2.1, h2.2.symm⟩ hl
        · rintro ⟨p, c, h1, h2, h3⟩
          exact ⟨p, c, snoc_old h1, h2, (old hi' p (get_lt h1)).2 h3⟩
      · rw [hnum]
        have := h.bs loc b.t
        constructor
        · rintro ⟨p, c, h1, h2, h3⟩
          rcases snoc_cases h1 with ⟨hp, h1⟩ | ⟨rfl, rfl⟩
          · rcases h3 with h3 | h3
            · omega
            · have := h3.lt; omega
          · exact absurd ⟨h2.1, h2.2.symm⟩ hl
        · intro; omega
  · unfold thS
    split
    · exact hle x
    · have := h.bt t x; have := cmono x; omega
  · unfold sgS
    split
    · have := h.bs loc x; have := cmono x
      exact (le_mx _ _ _).2 ⟨by omega, hle x⟩
    · have := h.bs loc x; have := cmono x; omega
  · unfold thS
    by_cases ht : t = a.t
    · rw [if_pos ht, ht, hown, cnt_snoc, if_pos rfl]
    · rw [if_neg ht, h.own, cnt_snoc, if_neg fun e => ht e.symm, Int.add_zero]
  · rcases snoc_cases hc with ⟨hlt, hc'⟩ | ⟨rfl, rfl⟩
    · rw [h.len] at hlt
      rcases snoc_cases hj with ⟨_, hj'⟩ | ⟨rfl, rfl⟩
      · rw [num_old hj', ← h.cl i c hc' j b hj' hji, HB.old hlt]
      · omega
    · rw [h.len]
      exact new j b hj
  · rcases snoc_cases hc with ⟨hlt, hc'⟩ | ⟨rfl, rfl⟩
    · rw [h.len] at hlt
      rcases snoc_cases hi with ⟨_, hi'⟩ | ⟨rfl, rfl⟩
      · rw [num_old hi']; exact h.clo i b c hi' hc'
      · omega
    · rw [h.len] at hi ⊢
      rw [snoc_get] at hi; cases hi
      rw [hown, hnum]
/-- Of two acts of a trace, the earlier one is ahead just if the later one's clock tells so. -/
theorem InvC.ahead {l : List AC} {th sg : Int → Int → Int} {cs : List (Int → Int)} (h : InvC l th sg cs) {i k : Nat} {a : AC} {ci ck : Int → Int} (hi : l[i]? = some a) (hci : cs[i]? = some ci) (hck : cs[k]? = some ck) : HB l i k ↔ i < k ∧ ci a.t ≤ ck a.t := by
  rw [h.clo i a ci hi hci]
  constructor
  · intro h1
    have hlt := h1.lt.1
    exact ⟨hlt, (h.cl k ck hck i a hi (by omega)).1 (.inr h1)⟩
  · rintro ⟨h1, h2⟩
    exact ((h.cl k ck hck i a hi (by omega)).2 h2).resolve_left (by omega)
end Go.Proofs.E
end
section
namespace Go.Gv
open Go.RowKit
/-- What a function's value stands for. -/
inductive FnIs : AV → FuncId → List AV → Prop where
  | fnp (f : FuncId) (cs : List AV) : FnIs (.fnp f cs) f cs
  | fn (f : FuncId) (ds : List D) : FnIs (.d (.fn f ds)) f (ds.map .d)
theorem FnIs.rep {a : AV} {f : FuncId} {caps : List AV} (h : FnIs a f caps) {γ : Ids} {H : HF} {u : Value} (r : Rep γ H a u) :
    ∃ us : List Value, u = .func (.func f) #[] us.toArray ∧ us.length = caps.length ∧ ∀ (j : Nat) (a : AV) (u : Value), caps[j]? = some a → us[j]? = some u → Rep γ H a u := by
  cases h with
  | fnp f cs => cases r with
    | fnp _ _ us hl hr => exact ⟨us, rfl, hl, hr⟩
  | fn f ds => cases rep_d r with
    | fn _ _ us hl hr => exact ⟨us, rfl, by simp [hl], fun j a u h1 h2 => by
        simp only [List.getElem?_map, Option.map_eq_some_iff] at h1
        obtain ⟨x, hx, rfl⟩ := h1
        exact .d _ _ (hr j x u hx h2)⟩
section call
variable {X : Cx} {d : Option Nat} {ty : TypeId} {pos : String} {aft : Array Edge} {g : Option (Nat × Bool)} {t : T} {σ : Sg} {K : T → Sg → Prop}
end call
end Go.Gv
end
section
namespace Go.Gv
open Go.RowKit

/-! ### What an iterator hands over -/
def Can (ρ : Res) : ρ.S → List (List AV) → Prop
  | _, [] => True
  | s, x :: L => ρ.pre s x ∧ ∀ s', ρ.step s x true s' → Can ρ s' L
inductive Feeds (ρ : Res) : ρ.S → List (List AV) → Bool → ρ.S → Prop where
  | nil (s : ρ.S) : Feeds ρ s [] true s
  | go {s s1 s2 : ρ.S} {x : List AV} {L : List (List AV)} {b : Bool} (h : ρ.step s x true s1) (k : Feeds ρ s1 L b s2) : Feeds ρ s (x :: L) b s2
  | stop {s s1 : ρ.S} {x : List AV} {L : List (List AV)} (h : ρ.step s x false s1) : Feeds ρ s (x :: L) false s1
theorem Can.app {ρ : Res} : ∀ {L M : List (List AV)} {s : ρ.S}, Can ρ s (L ++ M) → Can ρ s L ∧ ∀ s', Feeds ρ s L true s' → Can ρ s' M
  | [], M, s, h => ⟨trivial, fun s' k => by cases k; exact h⟩
  | x :: L, M, s, h => ⟨⟨h.1, fun s' k => (Can.app (h.2 s' k)).1⟩, fun s' k => by
      cases k with
      | go h1 k1 => exact (Can.app (h.2 _ h1)).2 s' k1⟩
theorem Feeds.app {ρ : Res} {L M : List (List AV)} {s s1 s2 : ρ.S} {b : Bool} (h : Feeds ρ s L true s1) (k : Feeds ρ s1 M b s2) : Feeds ρ s (L ++ M) b s2 := by
  generalize hb : true = c at h
  induction h with
  | nil s => exact k
  | go h1 _ ih => exact .go h1 (ih k hb)
  | stop h1 => cases hb
theorem Feeds.cut {ρ : Res} {L : List (List AV)} (M : List (List AV)) {s s1 : ρ.S} (h : Feeds ρ s L false s1) : Feeds ρ s (L ++ M) false s1 := by
  generalize hb : false = c at h
  induction h with
  | nil s => cases hb
  | go h1 _ ih => exact .go h1 (ih hb)
  | stop h1 => exact .stop h1
end Go.Gv
end
section
namespace Go.Gv
open Go.RowKit

section
variable {α V : Type} (enc : α → List AV) (L : List α) (SS : V → Sg) (I : List α → V → Prop) (Ix : Code → List α → V → Prop)
structure ROk (l D : Nat) (outer : Bool) (rc : LoopState → Option Code → Loop) (pins : List Nat) (γe : Ids) (t : T) (tmps : Array Value) (s : List α × Option Code) (O : Nat → Prop) (H : HF) (w : World) (v : V) (γ : Ids) : Prop where
  inv : match s.2 with | none => I s.1 v | some c => Ix c s.1 v
  pin : ∀ i, i ∈ pins → γ i = γe i
  tmp : TmpOk γ H t tmps
  rcd : w.heap[l]? = some (.loop (rc (match s.2 with | none => .ready | some _ => .done) s.2))
  dfr : outer = true → w.heap[D]? = some (.deferred (some []))
  lt : ∀ b, O b → b < w.heap.size
  ol : O l
  od : outer = true → O D
  ent : ∀ i e, look i (SS v) = some e → EntOk γ H w i e
  blk : ∀ i e b, look i (SS v) = some e → Gv.blk γ i e b → O b ∧ b ≠ l ∧ (outer = true → b ≠ D)
  apart : ∀ i e j e' b, look i (SS v) = some e → look j (SS v) = some e' → Gv.blk γ i e b → Gv.blk γ j e' b → i = j
theorem ROk.later {l D : Nat} {outer : Bool} {rc : LoopState → Option Code → Loop} {pins : List Nat} {γe : Ids} {t : T} {tmps : Array Value} {s : List α × Option Code} {O : Nat → Prop} {H H' : HF} {w w' : World} {v : V} {γ : Ids}
    (h : ROk SS I Ix l D outer rc pins γe t tmps s O H w v γ) (hle : HLe H H') (hs : w.heap.size ≤ w'.heap.size) (hb : ∀ b, O b → w'.heap[b]? = w.heap[b]?) : ROk SS I Ix l D outer rc pins γe t tmps s O H' w' v γ :=
  ⟨h.inv, h.pin, h.tmp.mono hle, (hb l h.ol).trans h.rcd, fun o => (hb D (h.od o)).trans (h.dfr o), fun b hbb => Nat.lt_of_lt_of_le (h.lt b hbb) hs, h.ol, h.od, fun i e hi => (h.ent i e hi).later hle hs fun b hbb => hb b (h.blk i e b hi hbb).1, h.blk, h.apart⟩
end
end Go.Gv
end
section
namespace Go.Gv
open Go.RowKit
theorem Feeds.inv {ρ : Res} {s s' : ρ.S} {M : List (List AV)} {b : Bool} (h : Feeds ρ s M b s') : (M = [] ∧ b = true ∧ s' = s) ∨ (∃ x L s1, M = x :: L ∧ ρ.step s x true s1 ∧ Feeds ρ s1 L b s') ∨ (∃ x L, M = x :: L ∧ b = false ∧ ρ.step s x false s') := by
  cases h with
  | nil => exact .inl ⟨rfl, rfl, rfl⟩
  | go h k => exact .inr (.inl ⟨_, _, _, rfl, h, k⟩)
  | stop h => exact .inr (.inr ⟨_, _, rfl, rfl, h⟩)
section
variable {α V : Type} (enc : α → List AV) (L : List α) (SS : V → Sg) (I : List α → V → Prop) (Ix : Code → List α → V → Prop)
end
end Go.Gv
end
section
namespace Go.Gv
open Go.RowKit
section
variable {α V : Type} (enc : α → List AV) (L : List α) (SS : V → Sg) (I : List α → V → Prop) (Ix : Code → List α → V → Prop)
end
end Go.Gv
end
section
namespace Go.Gv
open Go.RowKit
/-- A nil slice, as data. -/
theorem SJ.nilD {X : Cx} {t : T} {σ : Sg} (j k : Nat) (hj : look j t = some (.d (.v (.slice none 0 0)))) : SJ X t σ ((j, .d (.sl k [])) :: t) σ :=
  SJ.view j hj fun γ H u r => by
    obtain rfl := rep_v r
    exact .d _ _ (.sl k [] none 0 0 0 (fun _ _ => undef) (fun _ h => by simp at h) (Nat.le_refl _) (by simp) (fun h => by simp at h) (fun _ _ h => by simp at h) (fun _ _ _ _ h => by simp at h))
theorem SJ.fullD {X : Cx} {t : T} {σ : Sg} (j : Nat) {k : Nat} {xs : List (List D)} (hj : look j t = some (.full k xs)) : SJ X t σ ((j, .d (.sl k xs)) :: t) σ :=
  SJ.view j hj fun γ H u r => by
    cases r with
    | full _ _ A h => exact .d _ _ h
theorem rep_tup_set {γ : Ids} {H : HF} {vs : List AV} {u : Value} {j : Nat} {a a' : AV} (r : Rep γ H (.tup vs) u) (hj : vs[j]? = some a) (h : ∀ u, Rep γ H a u → Rep γ H a' u) : Rep γ H (.tup (vs.set j a')) u := by
  cases r with
  | tup _ us hl hr =>
    refine .tup _ us (by simp [hl]) fun l b v hb hv => ?_
    rw [List.getElem?_set] at hb
    by_cases e : j = l
    · subst e
      rw [if_pos rfl] at hb
      split at hb
      · cases hb; exact h v (hr j a v hj hv)
      · cases hb
    · rw [if_neg e] at hb; exact hr l b v hb hv
theorem arr_pub {γ : Ids} {H : HF} {i k n : Nat} {xs : List (List D)} (hp : PubOk γ H i (.a k xs)) (hn : n ≤ xs.length) (hm : n ≤ 9223372036854775807) {u : Value} (r : Rep γ H (.arr i k n) u) : Rep γ H (.d (.sl k (xs.take n))) u := by
  cases r with
  | arr _ _ _ A h1 hA => exact .d _ _ (hp n A hn h1 hA hm)
/-- A row among results is given to all. -/
theorem FinP.pubTup {X : Cx} {σ : Sg} {vs : List AV} {Q : AV → Sg → Prop} (i j : Nat) {k n : Nat} {xs : List (List D)} (hi : look i σ = some (.arr k xs)) (hj : vs[j]? = some (.arr i k n)) (hn : n ≤ xs.length) (hm : n ≤ 9223372036854775807)
    (kk : FinP X ((i, .gone) :: σ) (.tup (vs.set j (.d (.sl k (xs.take n))))) Q) : FinP X σ (.tup vs) Q :=
  let ⟨σ', r', h1, hc, hq⟩ := kk
  ⟨σ', r', .pub i hi rfl (fun _ _ _ ok rr => rep_tup_set rr hj fun _ => arr_pub ok hn hm) (by rw [subS_a]; exact h1), hc, hq⟩
theorem nil_sl {γ : Ids} {H : HF} (k : Nat) {u : Value} (r : Rep γ H (.d (.v (.slice none 0 0))) u) : Rep γ H (.d (.sl k [])) u := by
  obtain rfl := rep_v r
  exact .d _ _ (.sl k [] none 0 0 0 (fun _ _ => undef) (fun _ h => by simp at h) (Nat.le_refl _) (by simp) (fun h => by simp at h) (fun _ _ h => by simp at h) (fun _ _ _ _ h => by simp at h))
end Go.Gv
end
section
namespace Go.Gv
open Go.RowKit
/-- What is known of a variable's cell is put in another way. -/
theorem SJ.viewCell {X : Cx} {t : T} {σ : Sg} (j off : Nat) {cs : List AV} {a a' : AV} (hj : look j σ = some (.cells cs)) (ha : cs[off]? = some a) (h : ∀ γ H u, Rep γ H a u → Rep γ H a' u) : SJ X t σ t ((j, .cells (cs.set off a')) :: σ) := fun γ H ac w s => by
  have he := s.mem.ent j _ hj
  obtain ⟨tt, us, h1, h2, h3⟩ := he
  have hm : Mem X.w0 X.H0 X.B γ H ((j, .cells (cs.set off a')) :: σ) w := by
    refine ⟨s.mem.keep, s.mem.hle, s.mem.hnew, s.mem.hok, fun i e hi => ?_, fun i e hi b hb => ?_, fun i e hi b hb => ?_, fun i e k e' b hi hk hb hb' => ?_⟩
    · rw [look_cons] at hi
      split at hi
      · next e1 =>
        subst e1; cases hi
        refine ⟨tt, us, h1, by simp [h2], fun l x u hx hu => ?_⟩
        rw [List.getElem?_set] at hx
        split at hx
        · next e2 =>
          subst e2
          split at hx
          · cases hx; exact h γ H u (h3 off a u ha hu)
          · cases hx
        · exact h3 l x u hx hu
      · exact s.mem.ent i e hi
    · rw [look_cons] at hi
      split at hi
      · next e1 => subst e1; cases hi; exact s.mem.free _ _ hj b hb
      · exact s.mem.free i e hi b hb
    · rw [look_cons] at hi
      split at hi
      · next e1 => subst e1; cases hi; exact s.mem.fresh _ _ hj b hb
      · exact s.mem.fresh i e hi b hb
    · have g : ∀ i e, look i ((j, Ent.cells (cs.set off a')) :: σ) = some e → ∀ b, blk γ i e b → ∃ f, look i σ = some f ∧ blk γ i f b := fun i e hi9 b hb9 => by
        rw [look_cons] at hi9
        split at hi9
        · next e1 => subst e1; cases hi9; exact ⟨_, hj, hb9⟩
        · exact ⟨e, hi9, hb9⟩
      obtain ⟨f, hf, hfb⟩ := g i e hi b hb
      obtain ⟨f', hf', hfb'⟩ := g k e' hk b hb'
      exact s.mem.apart i f k f' b hf hf' hfb hfb'
  have hbl : ∀ b, blks γ ((j, .cells (cs.set off a')) :: σ) b → blks γ σ b := fun b ⟨i, e, hi, hb⟩ => by
    rw [look_cons] at hi
    split at hi
    · next e1 => subst e1; cases hi; exact ⟨_, _, hj, hb⟩
    · exact ⟨i, e, hi, hb⟩
  exact ⟨γ, H, s.lam, s.round, let ⟨ms, h1, h2⟩ := s.defers; ⟨ms, h1, h2.1, fun b hb => ⟨(h2.2 b hb).1, (h2.2 b hb).2.1, fun x => (h2.2 b hb).2.2 (hbl b x)⟩⟩, s.size, s.pinned, s.tmp, hm⟩
end Go.Gv
end
section
namespace Go.Gv
open Go.RowKit
section call
variable {X : Cx} {d : Option Nat} {ty : TypeId} {pos : String} {aft : Array Edge} {g : Option (Nat × Bool)} {t : T} {σ : Sg} {K : T → Sg → Prop}
end call
end Go.Gv
end
section
namespace Go.Gv
open Go.RowKit
section append
variable {X : Cx} {d : Option Nat} {ty : TypeId} {pos : String} {aft : Array Edge} {g : Option (Nat × Bool)} {t : T} {σ : Sg} {K : T → Sg → Prop}
end append
end Go.Gv
end
section
namespace Go.Gv
open Go.RowKit
section str
variable {X : Cx} {d : Option Nat} {ty : TypeId} {pos : String} {aft : Array Edge} {g : Option (Nat × Bool)} {t : T} {σ : Sg} {K : T → Sg → Prop}
end str
end Go.Gv
end
section
namespace Go.Gv
open Go.RowKit
section typed
variable {X : Cx} {d : Option Nat} {ty : TypeId} {pos : String} {aft : Array Edge} {g : Option (Nat × Bool)} {t : T} {σ : Sg} {K : T → Sg → Prop}
end typed
end Go.Gv
end
section
namespace Go.Gv
open Go.RowKit
section us
variable {X : Cx} {d : Option Nat} {ty : TypeId} {pos : String} {aft : Array Edge} {g : Option (Nat × Bool)} {t : T} {σ : Sg} {K : T → Sg → Prop}
end us
end Go.Gv
end
section
namespace Go.Gv
open Go.RowKit
def qnL (f : AV → Option (List Nat)) : List AV → Option (List Nat)
  | [] => some []
  | a :: r => match f a, qnL f r with
    | some x, some y => some (x ++ y)
    | _, _ => none
def qn0 : AV → Option (List Nat)
  | .d _ => some []
  | .full _ _ => some []
  | .junk => some []
  | .box j _ => some [j]
  | .boxX j _ => some [j]
  | .arr j _ _ => some [j]
  | .suf j _ _ _ => some [j]
  | .mp j => some [j]
  | _ => none
def qn1 : AV → Option (List Nat)
  | .agg cs => qnL qn0 cs
  | .tup cs => qnL qn0 cs
  | .fnp _ cs => qnL qn0 cs
  | a => qn0 a
def qn2 : AV → Option (List Nat)
  | .agg cs => qnL qn1 cs
  | .tup cs => qnL qn1 cs
  | .fnp _ cs => qnL qn1 cs
  | a => qn0 a
theorem qnL_sound {f : AV → Option (List Nat)} {h : Nat → AV → Bool} (hf : ∀ {a l i}, f a = some l → h i a = true → i ∈ l) : ∀ {cs : List AV} {l : List Nat} {i : Nat}, qnL f cs = some l → cs.any (h i) = true → i ∈ l
  | [], _, _, _, ha => by simp at ha
  | a :: r, l, i, hn, ha => by
    simp only [qnL] at hn
    split at hn
    · next x y hx hy =>
      cases hn
      simp only [List.any_cons, Bool.or_eq_true] at ha
      rcases ha with ha | ha
      · exact List.mem_append.2 (.inl (hf hx ha))
      · exact List.mem_append.2 (.inr (qnL_sound hf hy ha))
    · cases hn
theorem qn0_sound {a : AV} {l : List Nat} {i : Nat} (h : qn0 a = some l) (hi : has0 i a = true) : i ∈ l := by
  cases a <;> simp [qn0, has0] at h hi <;> first | (subst h; simp_all) | simp_all
theorem qn1_sound {a : AV} {l : List Nat} {i : Nat} (h : qn1 a = some l) (hi : has1 i a = true) : i ∈ l := by
  cases a with
  | agg cs => exact qnL_sound (h := has0) (fun h k => qn0_sound h k) h hi
  | tup cs => exact qnL_sound (h := has0) (fun h k => qn0_sound h k) h hi
  | fnp f cs => exact qnL_sound (h := has0) (fun h k => qn0_sound h k) h hi
  | _ => simp only [qn1, has1] at h hi; exact qn0_sound h hi
theorem qn2_sound {a : AV} {l : List Nat} {i : Nat} (h : qn2 a = some l) (hi : has2 i a = true) : i ∈ l := by
  cases a with
  | agg cs => exact qnL_sound (h := has1) (fun h k => qn1_sound h k) h hi
  | tup cs => exact qnL_sound (h := has1) (fun h k => qn1_sound h k) h hi
  | fnp f cs => exact qnL_sound (h := has1) (fun h k => qn1_sound h k) h hi
  | _ => simp only [qn2, has2] at h hi; exact qn0_sound h hi
def entNm : Ent → Option (List Nat)
  | .cells cs => qnL qn2 cs
  | .cellsT _ cs => qnL qn2 cs
  | _ => some []
theorem entNm_sound {e : Ent} {l : List Nat} {i : Nat} (h : entNm e = some l) (hi : entHas i e = true) : i ∈ l := by
  cases e with
  | cells cs => exact qnL_sound (h := has2) (fun h k => qn2_sound h k) h hi
  | cellsT t cs => exact qnL_sound (h := has2) (fun h k => qn2_sound h k) h hi
  | _ => cases hi
def sgNm : Sg → Option (List Nat)
  | [] => some []
  | (_, e) :: r => match entNm e, sgNm r with
    | some x, some y => some (x ++ y)
    | _, _ => none
theorem sgNm_sound : ∀ {σ : Sg} {l : List Nat} {i j : Nat} {e : Ent}, sgNm σ = some l → look i σ = some e → entHas j e = true → j ∈ l
  | [], _, _, _, _, _, h, _ => by simp [look] at h
  | (k, f) :: r, l, i, j, e, hn, h, hj => by
    simp only [sgNm] at hn
    split at hn
    · next x y hx hy =>
      cases hn
      rw [look_cons] at h
      split at h
      · cases h; exact List.mem_append.2 (.inl (entNm_sound hx hj))
      · exact List.mem_append.2 (.inr (sgNm_sound hy h hj))
    · cases hn
def inSg (j : Nat) : Sg → Bool
  | [] => false
  | (k, _) :: r => Nat.beq j k || inSg j r
theorem inSg_look : ∀ {σ : Sg} {j : Nat}, inSg j σ = true → (look j σ).isSome = true
  | [], _, h => by cases h
  | (k, e) :: r, j, h => by
    rw [look_cons]
    split
    · rfl
    · next hne =>
      simp only [inSg, Bool.or_eq_true] at h
      rcases h with h | h
      · exact absurd (Nat.eq_of_beq_eq_true h) hne
      · exact inSg_look h
def closedOk (pin : List Nat) (r : AV) (σ : Sg) : Bool := match qn2 r, sgNm σ with
  | some a, some b => (a ++ b).all fun j => inSg j σ || pin.any (Nat.beq j)
  | _, _ => false
theorem closed_of {pin : List Nat} {r : AV} {σ : Sg} (h : closedOk pin r σ = true) : closedB pin r σ := by
  unfold closedOk at h
  split at h
  · next a b ha hb =>
    have key : ∀ j, j ∈ a ++ b → (look j σ).isSome = true ∨ j ∈ pin := fun j hj => by
      have := List.all_eq_true.1 h j hj
      rcases Bool.or_eq_true_iff.1 this with h | h
      · exact .inl (inSg_look h)
      · obtain ⟨k, hk, e⟩ := List.any_eq_true.1 h
        rw [Nat.eq_of_beq_eq_true e]; exact .inr hk
    exact ⟨fun j hj => key j (List.mem_append.2 (.inl (qn2_sound ha hj))), fun i e hi j hj => key j (List.mem_append.2 (.inr (sgNm_sound hb hi hj)))⟩
  · cases h
/-- Private things are handed back. -/
theorem FinP.priv {X : Cx} {σ : Sg} {r : AV} {Q : AV → Sg → Prop} (σ' : Sg) (hw : Wk σ' σ) (hc : closedOk X.pin r σ' = true) (k : Q r σ') : FinP X σ r Q := FinP.of σ' hw (closed_of hc) k
end Go.Gv
namespace Go.Gv
open Go.RowKit
section samebox
variable {X : Cx} {d : Option Nat} {ty : TypeId} {pos : String} {aft : Array Edge} {g : Option (Nat × Bool)} {t : T} {σ : Sg}
end samebox
end Go.Gv
namespace Go.Gv
open Go.RowKit
end Go.Gv
namespace Go.Gv
/-- What comes behind, told by name: where the kernel shall not look ahead. -/
inductive Sq (X : Cx) (b : Code) (Q : Qt) : Exit → T → Sg → Prop where
  | go {t : T} {σ : Sg} (h : WJ X b t σ Q) : Sq X b Q .normal t σ
  | out {e : Exit} {t : T} {σ : Sg} (he : e ≠ .normal) (h : Q e t σ) : Sq X b Q e t σ
theorem WJ.cut {X : Cx} {a b : Code} {t : T} {σ : Sg} {Q : Qt} (h : vc X a t σ (Sq X b Q)) : WJ X (.seq a b) t σ Q :=
  WJ.seq ((vc_sound a t σ _ h).mono fun e t σ q => by
    cases q with
    | go h => exact h
    | out he h => cases e <;> first | exact absurd rfl he | exact h)
theorem vL_nil {X : Cx} {all : Array Oper} {t : T} {σ : Sg} {Q : T → Sg → Prop} (h : Q t σ) : vL X all [] t σ Q := h
/-- A contract, region by region. -/
theorem Ct.of_wv {Λ : Amb} {P : Program} {f : FuncId} (fn : Func) {c : Code} {avs : List AV} {σ : Sg} {Q : AV → Sg → Prop} (hf : P.funcs[f]? = some fn) (hb : fn.body = some c)
    (hl : Nat.ble avs.length fn.ntmps = true)
    (h : ∀ w H B g0, WJ ⟨P, Λ, none, w, H, B, fn.ntmps, pinsOf σ, g0⟩ c (numbered 0 avs) σ (vRet ⟨P, Λ, none, w, H, B, fn.ntmps, pinsOf σ, g0⟩ fn Q)) : Ct Λ P f avs σ Q :=
  Ct.of_wj fn.ntmps hf hb rfl (Nat.le_of_ble_eq_true hl) fun w H B g0 => (h w H B g0).mono fun _ _ _ q => vRet_sound q
end Go.Gv
end
section
namespace Go.Gv
open Go.RowKit
section cut
variable {X : Cx} {d : Option Nat} {ty : TypeId} {pos : String} {aft : Array Edge} {g : Option (Nat × Bool)} {t : T} {σ : Sg} {K : T → Sg → Prop}
/-- The rows that an operand holds, as they can be copied. -/
structure Flat (X : Cx) (H : HF) (w : World) (u : Value) (k : Nat) (ys : List (List D)) (vs : List Value) : Prop where
  fc : ∀ w' : World, w'.heap = w.heap → (Builtin.firstCells k ys.length u).run X.P w' = .ok vs.toArray w'
  ln : ∀ w' : World, (Builtin.lenOf u).run X.P w' = .ok ys.length w'
  vl : vs.length = ys.length * k
  yk : ∀ cs, cs ∈ ys → cs.length = k
  rp : ∀ (j l : Nat) (cs : List D) (a : D) (u : Value), ys[j]? = some cs → cs[l]? = some a → vs[j * k + l]? = some u → RepD H a u
def FlatQ (X : Cx) (t : T) (σ : Sg) (y : Operand) (k : Nat) (ys : List (List D)) : Prop := ∀ γ H (a : Act) w, (∀ v, ge t y = some v → Rep γ H v (a.eval y)) → Mem X.w0 X.H0 X.B γ H σ w → ∃ vs, Flat X H w (a.eval y) k ys vs
theorem FlatQ.suf {y : Operand} {i k l n : Nat} {xs : List (List D)} (hy : ge t y = some (.suf i k l n)) (hi : look i σ = some (.arr k xs)) (hl : l + n ≤ xs.length) : FlatQ X t σ y k ((xs.drop l).take n) := by
  intro γ H a w so sm
  have hr := so _ hy
  generalize hq : a.eval y = q at hr
  cases hr with
  | suf _ _ _ _ A hn hA =>
  obtain ⟨hle, hxk, hreal⟩ := sm.ent i _ hi
  have hlen : ((xs.drop l).take n).length = n := by simp; omega
  have hget : ∀ j cs, ((xs.drop l).take n)[j]? = some cs → xs[l + j]? = some cs ∧ j < n := fun j cs hj => by
    rw [List.getElem?_take] at hj
    split at hj
    · rw [List.getElem?_drop] at hj; exact ⟨hj, by assumption⟩
    · cases hj
  by_cases h0 : n = 0
  · subst h0
    refine ⟨[], fun w' _ => ?_, fun w' => ?_, by simp, fun cs hcs => by simp at hcs, fun j l' cs a' u h => by simp at h⟩
    · rw [hlen]; cases A <;> simp [Builtin.firstCells, loadCells, loadCellsFrom]
    · rw [hlen]; exact lenOf_sl
  · have hA' := hA (by omega)
    subst hA'
    obtain ⟨tt, us, h3, h4, h5⟩ := hreal (by omega)
    have hfit : l * k + n * k ≤ us.length := by rw [h4, ← Nat.add_mul]; exact Nat.mul_le_mul_right _ hn
    refine ⟨(us.drop (l * k)).take (n * k), fun w' hw' => ?_, fun w' => ?_, ?_, fun cs hcs => hxk cs (List.mem_of_mem_drop (List.mem_of_mem_take hcs)), fun j l' cs a' u hj hl' hu => ?_⟩
    · rw [hlen]
      have := load_cells (P := X.P) (w := w') (b := (γ i).b) (vs := fun p => us.getD (l * k + p) undef) (n * k) (l * k) 0 #[] (fun p hp => by
        have h6 : w'.heap[(γ i).b]? = some (.cells us.toArray tt (0, 0)) := by rw [hw']; exact h3
        rw [cell_of_block h6]
        simp [List.getElem?_eq_getElem (show l * k + p < us.length by omega)])
      simp only [Builtin.firstCells, loadCells]
      rw [this]
      congr 1
      apply Array.toList_inj.1
      simp only [List.nil_append, List.append_toArray, List.toList_toArray, Array.toList_append]
      apply List.ext_getElem?
      intro p
      simp only [List.getElem?_map, List.getElem?_take, List.getElem?_drop]
      by_cases hp : p < n * k
      · rw [if_pos hp, List.getElem?_range' (by omega)]
        simp [List.getElem?_eq_getElem (show l * k + p < us.length by omega)]
      · rw [if_neg hp, List.getElem?_eq_none (by simp; omega)]; rfl
    · rw [hlen]; exact lenOf_sl
    · rw [List.length_take, List.length_drop, hlen]; omega
    · obtain ⟨h6, h7⟩ := hget j cs hj
      rw [List.getElem?_take] at hu
      split at hu
      · rw [List.getElem?_drop] at hu
        refine h5 (l + j) l' cs a' u h6 hl' ?_
        rw [Nat.add_mul, Nat.add_assoc]; exact hu
      · cases hu
/-- What is data can be copied. -/
theorem FlatQ.data {y : Operand} {k : Nat} {ys : List (List D)} {av : AV} (hy : ge t y = some av) (hel : elems av = some (k, ys)) : FlatQ X t σ y k ys := by
  intro γ H a w so sm
  have hry := rep_elems (so _ hy) hel
  obtain ⟨hyk, hylen⟩ := repd_sl_len hry
  obtain ⟨B, cy, vs, hqy, hfc, hvl, hvone, hvrep⟩ := repd_flat (P := X.P) hry
  refine ⟨vs, fun w' hw' => hfc w' fun b o v h => ?_, fun w' => by rw [hqy]; exact lenOf_sl, hvl, hyk, hvrep⟩
  have := sm.hok.c b o v h
  simp only [World.cell?, hw'] at this ⊢; exact this
end cut
end Go.Gv
namespace Go.Gv
open Go.RowKit
/-! ### A call that reads a private row, and hands back rows of another kind -/
def HF.cut (H : HF) (b : Nat) : HF := ⟨fun c o => if c = b then none else H.c c o, fun c => if c = b then none else H.m c⟩
/-- An argument, as a reader of the row i takes it. -/
inductive Rd (i k n : Nat) (xs : List (List D)) : List AV → List AV → Prop where
  | nil : Rd i k n xs [] []
  | same (a : AV) {l m : List AV} (h : a.open = true) (r : Rd i k n xs l m) : Rd i k n xs (a :: l) (a :: m)
  | row {l m : List AV} (r : Rd i k n xs l m) : Rd i k n xs (.arr i k n :: l) (.d (.sl k xs) :: m)
theorem Rd.get {i k n : Nat} {xs : List (List D)} {l m : List AV} (h : Rd i k n xs l m) : l.length = m.length ∧ ∀ (j : Nat) (b : AV), m[j]? = some b → ∃ a, l[j]? = some a ∧ ((a = b ∧ a.open = true) ∨ (a = .arr i k n ∧ b = .d (.sl k xs))) := by
  induction h with
  | nil => exact ⟨rfl, fun j b h => by simp at h⟩
  | same a ho _ ih =>
    refine ⟨by simp [ih.1], fun j b hb => ?_⟩
    cases j with
    | zero => simp at hb; exact ⟨a, rfl, .inl ⟨hb, ho⟩⟩
    | succ j => exact ih.2 j b (by simpa using hb)
  | row _ ih =>
    refine ⟨by simp [ih.1], fun j b hb => ?_⟩
    cases j with
    | zero => simp at hb; exact ⟨_, rfl, .inr ⟨rfl, hb.symm⟩⟩
    | succ j => exact ih.2 j b (by simpa using hb)
end Go.Gv
namespace Go.Gv
open Go.RowKit
section nilsl
variable {X : Cx} {d : Option Nat} {ty : TypeId} {pos : String} {aft : Array Edge} {g : Option (Nat × Bool)} {t : T} {σ : Sg} {K : T → Sg → Prop}
theorem eqn_slice' {P : Program} {tt e : TypeId} {w : World} (n : Nat) {A : Option Addr} {a b : Nat} (hu : P.underlying tt = some (.slice e)) : (Op.equalIn (n + 1) tt (.slice A a b) (.slice none 0 0)).run P w = .ok A.isNone w := by cases A <;> simp [Op.equalIn, underlying, hu]
/-- Is a slice nil? One that is not empty isn't. -/
theorem O.eqNil {x y : Operand} {ot yt e : TypeId} {k : Nat} {xs : List (List D)} (hx : ge t x = some (.d (.sl k xs))) (hy : ge t y = some (.d (.v (.slice none 0 0)))) (hu : X.P.underlying ot = some (.slice e)) (hN : dOk d X.N = true)
    (kk : ∀ b : Bool, (b = true → xs = []) → K (putT d (.d (.v (.bool b))) t) σ) : OpJ X ⟨d, .binOp .eql ot x y yt, ty, pos, aft, g⟩ t σ K := by
  intro γ H a w s next Q' hk
  have hr := rep_d (ge_sound s.tmp hx)
  have e2 := rep_v (ge_sound s.tmp hy)
  generalize hq : a.eval x = q at hr
  cases hr with
  | sl _ _ A c b o us hkk hn hc hA hH hrr =>
  have hexec : (execOp a.eval ⟨d, .binOp .eql ot x y yt, ty, pos, aft, g⟩).run X.P w = .ok (.value (.bool A.isNone)) w := by
    have h9 : (Op.equal ot (.slice A xs.length c) (.slice none 0 0)).run X.P w = .ok A.isNone w := equal_at.trans (eqn_slice' 9999 hu)
    simp [execOp, hq, e2, eqGuard, binOp, h9]
  rw [semAt_of (by simp), hexec, Oper.uponIn_value]
  refine hk γ H _ _ _ w (s.calm (d := d) (V := .d (.v (.bool A.isNone))) (s.mem.refl γ) hN (.d _ _ (.v _ rfl))) (kk _ fun hb => ?_)
  rcases Nat.eq_zero_or_pos xs.length with h | h
  · exact List.length_eq_zero_iff.1 h
  · rw [hA h] at hb; cases hb
end nilsl
/-- A contract, its arguments told otherwise. -/
theorem Ct.view {Λ : Amb} {P : Program} {f : FuncId} {avs bvs : List AV} {σ : Sg} {Q : AV → Sg → Prop} (h : Ct Λ P f avs σ Q) (hl : bvs.length = avs.length)
    (hv : ∀ (j : Nat) (a b : AV), avs[j]? = some a → bvs[j]? = some b → ∀ γ H u, Rep γ H b u → Rep γ H a u) : Ct Λ P f bvs σ Q :=
  fun ro γ H w vs h1 h2 h3 h4 => h ro γ H w vs h1 h2 (h3.trans hl) fun j a u ha hu => by
    have hj : j < bvs.length := by rw [hl]; exact (List.getElem?_eq_some_iff.1 ha).1
    exact hv j a bvs[j] ha (by simp [hj]) γ H u (h4 j bvs[j] u (by simp [hj]) hu)
end Go.Gv
namespace Go.Gv
open Go.RowKit
section birth
variable {X : Cx} {d : Option Nat} {ty : TypeId} {pos : String} {aft : Array Edge} {g : Option (Nat × Bool)} {t : T} {σ : Sg}
/-- append onto data that has no room: the birth of a private row. -/
theorem B.appendF {i : Nat} {x y : Operand} {st xt el : TypeId} {k bytes : Nat} {z : Value} {xs ys : List (List D)} {av0 : AV} (hx : ge t x = some av0) (hfu : FullIs av0 k xs) (hy : FlatQ X t σ y k ys)
    (hu : X.P.underlying st = some (.slice el)) (hxu : X.P.underlying xt = some (.slice el)) (hz : ∀ w, (sizeOf el).run X.P w = .ok k w) (hzv : ∀ w, (zeroValue el).run X.P w = .ok z w) (hzl : z.cells.size = k)
    (hb : ∀ w, ((fun i : TypeInfo => i.bytes) <$> typeInfo el).run X.P w = .ok bytes w) (hb0 : bytes ≠ 0) (hbytes : (3 * (xs.length + ys.length) + 4096) * bytes ≤ 281474976710656) (hne : ys ≠ [] ∨ xs = []) :
    BirthJ X ⟨d, .call { callee := .builtin .append, args := #[x, y], argTypes := #[st, xt] }, ty, pos, aft, g⟩ t σ i (.arr i k (xs.length + ys.length)) (.arr k (xs ++ ys)) := by
  intro γ H a w so sm
  obtain ⟨A, hq, hrx⟩ := hfu.rep (so x (by simp [Op.operands, Call.operands]) _ hx)
  obtain ⟨hxk, _⟩ := repd_sl_len hrx
  obtain ⟨vs, hfv⟩ := hy γ H a w (fun v hv => so y (by simp [Op.operands, Call.operands]) v hv) sm
  obtain ⟨Bx, cx, us, hqx, hfx, hul, huone, hurep⟩ := repd_flat (P := X.P) hrx
  have hexec : ∀ (v : Value) (w' : World), (Builtin.append_ #[st, xt] ty #[.slice A xs.length xs.length, a.eval y]).run X.P w = .ok v w' → ((⟨d, .call { callee := .builtin .append, args := #[x, y], argTypes := #[st, xt] }, ty, pos, aft, g⟩ : Oper).semAt X.ro a.eval).run X.P w = .ok (.value v) w' := fun v w' h => by
    rw [semAt_of (by simp)]
    simp only [execOp, resolve, invoke, builtin, List.map_toArray, List.map_cons, List.map_nil, Sem.run_bind, Sem.run_pure, Result.andThen_ok, hq, h]
  by_cases hroom : xs.length + ys.length ≤ xs.length
  · have hy0 : ys = [] := List.length_eq_zero_iff.1 (by omega)
    have hx0 : xs = [] := by rcases hne with h | h; exact absurd hy0 h; exact h
    subst hx0; subst hy0
    have hrun := append_room (P := X.P) (w := w) (ty := ty) (A := A) (n := 0) (c := 0) hu hxu hz hfv.ln (hfv.fc w rfl) (Nat.le_refl _)
    have hv0 : vs = [] := List.length_eq_zero_iff.1 (by rw [hfv.vl]; simp)
    subst hv0
    have hrun' : (Builtin.append_ #[st, xt] ty #[.slice A ([] : List (List D)).length ([] : List (List D)).length, a.eval y]).run X.P w = .ok (.slice A 0 0) w := by
      simp only [List.length_nil] at hrun ⊢
      rw [hrun]; cases A <;> simp [storeCells]
    refine ⟨_, 0, w, hexec _ _ hrun', mem_arr0 sm.hok γ i k, ?_⟩
    have := Rep.arr (γ := upd γ i ⟨w.heap.size, 0, fun _ => False⟩) (H := H) i k 0 A
    rw [upd_same] at this
    exact this (Nat.zero_le _) (fun h => by simp at h)
  · have hus : ∀ w' : World, w'.heap = w.heap → (Builtin.firstCells k xs.length (.slice A xs.length xs.length)).run X.P w' = .ok us.toArray w' := fun w' hw' => by
      rw [← hq]
      exact hfx w' fun b o v h => by
        have := sm.hok.c b o v h
        simp only [World.cell?, hw'] at this ⊢; exact this
    obtain ⟨cap, hcap, hrun⟩ := append_grow (P := X.P) (w := w) (ty := ty) (A := A) (n := xs.length) (c := xs.length) (us := us) (vs := vs) hu hxu hz hzv hb hfv.ln hfv.fc hus (by omega) hbytes hb0
    have hzc : (Builtin.zeroCells z.cells (cap - (xs.length + ys.length))).toList.length = (cap - (xs.length + ys.length)) * k := by
      simp [Builtin.zeroCells, hzl]
    have hm0 := sm.drew.new i (.arr k (xs ++ ys)) (.cells (us ++ vs ++ (Builtin.zeroCells z.cells (cap - (xs.length + ys.length))).toList).toArray el) cap
      ⟨by rw [upd_same, List.length_append]; exact hcap, fun cs hcs => by rcases List.mem_append.1 hcs with h | h; exact hxk cs h; exact hfv.yk cs h, fun _ => by
        rw [upd_same]
        refine ⟨el, _, World.alloc_heap_new _ _, ?_, ?_⟩
        · rw [List.length_append, List.length_append, hzc, hul, hfv.vl, ← Nat.add_mul, ← Nat.add_mul]
          congr 1
          show xs.length + ys.length + (cap - (xs.length + ys.length)) = cap
          omega
        · have hvl := hfv.vl
          refine arr_snoc hxk hfv.yk hurep hfv.rp (fun p hp => ?_) (fun p hp => ?_)
          · rw [List.append_assoc, List.getElem?_append_left (by omega)]
          · rw [List.append_assoc, List.getElem?_append_right (by omega), hul, show xs.length * k + p - xs.length * k = p from by omega, List.getElem?_append_left (by omega)]⟩ (fun _ _ h => by cases h)
    have hm' : Mem w H (fun _ => False) (upd γ i ⟨w.heap.size, cap, fun _ => False⟩) H [(i, .arr k (xs ++ ys))] (w.drew.alloc (.cells (us ++ vs ++ (Builtin.zeroCells z.cells (cap - (xs.length + ys.length))).toList).toArray el)) :=
      ⟨⟨hm0.keep.os, hm0.keep.tape, hm0.keep.output, hm0.keep.size, hm0.keep.block⟩, hm0.hle, ⟨hm0.hnew.c, hm0.hnew.m⟩, hm0.hok, hm0.ent, hm0.free, hm0.fresh, hm0.apart⟩
    refine ⟨_, cap, _, hexec _ _ hrun, hm', ?_⟩
    have := Rep.arr (γ := upd γ i ⟨w.heap.size, cap, fun _ => False⟩) (H := H) i k (xs.length + ys.length) (some ⟨w.heap.size, 0, none⟩)
    rw [upd_same] at this
    exact this hcap (fun _ => rfl)
theorem B.appF {i : Nat} {x y : Operand} {st xt : TypeId} {k : Nat} {xs ys : List (List D)} {av0 : AV} (hx : ge t x = some av0) (hfu : FullIs av0 k xs) (hy : FlatQ X t σ y k ys) (hI : elInfo X.P st xt = some k) (hb : xs.length + ys.length ≤ 1000000000) (hne : ys ≠ [] ∨ xs = []) :
    BirthJ X ⟨d, .call { callee := .builtin .append, args := #[x, y], argTypes := #[st, xt] }, ty, pos, aft, g⟩ t σ i (.arr i k (xs.length + ys.length)) (.arr k (xs ++ ys)) := by
  obtain ⟨el, z, bytes, h1, h2, h3, h4, h5, h6, h7, h8⟩ := elInfo_out hI
  exact B.appendF hx hfu hy h1 h2 h3 h4 h5 h6 h7 (bytes_fit hb h8) hne
end birth
end Go.Gv
end
section
open Go Go.Gv
attribute [local irreducible] Go.Gv.WJ Go.Gv.OpJ Go.Gv.QJ Go.Gv.Spl Go.Gv.Req Go.Gv.IdxP Go.Gv.RegP Go.Gv.FinP Go.Gv.CellP Go.Gv.CellsP Go.Gv.ArrP Go.Gv.ArrsP Go.Gv.DropP Go.Gv.ByteP Go.Gv.StoreP
set_option maxRecDepth 100000
namespace Go.Proofs.E
def di (x : Int) : List D := [.v (.int .i64 x)]
abbrev clv (c : List Int) : AV := .d (.sl 1 (c.map di))
def clAt (c : List Int) (i : Int) : Int := if 0 ≤ i then c.getD i.toNat 0 else 0
theorem get_di {c : List Int} {i : Nat} (h : i < c.length) : (c.map di)[i]? = some (di (c.getD i 0)) := by simp [List.getD_eq_getElem?_getD, h]
theorem clAt_nat (c : List Int) (i : Nat) : clAt c i = c.getD i 0 := by simp [clAt]
theorem At13_c (c : List Int) (i : Int) : Cv 23 [clv c, iv i] (iv (clAt c i)) := by
  refine Ct.of_vc Try.f23 Try.func23 rfl rfl fun w H B g0 => ?_
  refine Spl.of (fun h => ?_) (fun h => ?_)
  · have h := of_decide_eq_true h
    (repeat (first | refine Spl.t rfl ?_ | refine Spl.f rfl ?_))
    exact FinP.open rfl (congrArg iv (by simp [clAt, show ¬ 0 ≤ i from by omega]))
  · have h := of_decide_eq_false h
    (repeat (first | refine Spl.t rfl ?_ | refine Spl.f rfl ?_))
    refine Spl.of (fun h1 => ?_) (fun h1 => ?_)
    · have h1 := of_decide_eq_true h1
      simp at h1
      (repeat (first | refine Spl.t rfl ?_ | refine Spl.f rfl ?_))
      refine FinP.open rfl (congrArg iv ?_)
      rw [clAt, if_pos (by omega), List.getD_eq_getElem?_getD, List.getElem?_eq_none (by omega)]; rfl
    · have h1 := of_decide_eq_false h1
      simp at h1
      (repeat (first | refine Spl.t rfl ?_ | refine Spl.f rfl ?_))
      refine IdxP.of (di (c.getD i.toNat 0)) (by omega) (get_di (by omega)) ?_
      exact FinP.open rfl (congrArg iv (by rw [clAt, if_pos (by omega)]))
theorem Clone13_c (c : List Int) (hc : c.length ≤ 1000000) : Ct tab Try.prog 25 [clv c] [] (fun q σ' => (q = .arr 7 1 c.length ∧ σ' = [(7, .arr 1 (c.map di))]) ∨ (c = [] ∧ q = .d (.v (.slice none 0 0)) ∧ σ' = [])) := by
  refine Ct.of_vc Try.f25 Try.func25 rfl rfl fun w H B g0 => ?_
  refine O.eqNil rfl rfl rfl rfl fun b hb => ?_
  cases b with
  | true =>
    have h1 := hb rfl
    have h2 : c = [] := by simpa using h1
    (repeat (first | refine Spl.t rfl ?_ | refine Spl.f rfl ?_))
    exact FinP.open rfl (.inr ⟨h2, rfl, rfl⟩)
  | false =>
    (repeat (first | refine Spl.t rfl ?_ | refine Spl.f rfl ?_))
    refine O.appF rfl rfl (.full _ _) rfl rfl rfl rfl (by show 0 + _ ≤ _; rw [List.length_map]; omega) (.inr rfl) ?_
    (repeat (first | refine Spl.t rfl ?_ | refine Spl.f rfl ?_))
    refine FinP.priv [(7, .arr 1 (c.map di))] (Wk.cons rfl (Wk.nil _)) rfl (.inl ⟨?_, rfl⟩)
    show AV.arr 7 1 (0 + _) = _
    rw [List.length_map, Nat.zero_add]
def wideL (c : List Int) (n : Int) : List Int := c ++ List.replicate (n.toNat - c.length) 0
theorem wideL_len (c : List Int) (n : Int) : (wideL c n).length = max c.length n.toNat := by simp [wideL]; omega
theorem wideL_getD (c : List Int) (n : Int) (i : Nat) : (wideL c n).getD i 0 = c.getD i 0 := by
  simp only [wideL, List.getD_eq_getElem?_getD]
  by_cases h : i < c.length
  · rw [List.getElem?_append_left h]
  · rw [List.getElem?_append_right (by omega), List.getElem?_eq_none (l := c) (by omega), List.getElem?_replicate]
    split <;> rfl
theorem Wide13_c (c : List Int) (n : Int) (hc : c.length ≤ 1000000) (hn : n ≤ 1000000) : Ct tab Try.prog 24 [clv c, iv n] [] (fun q σ' => q = .arr 7 1 (wideL c n).length ∧ σ' = [(7, .arr 1 ((wideL c n).map di))]) := by
  refine Ct.of_vc Try.f24 Try.func24 rfl rfl fun w H B g0 => ?_
  refine OpJ.call (Clone13_c c hc) (fun _ _ => rfl) rfl rfl (Wk.nil _) ?_
  rintro q σ' (⟨rfl, rfl⟩ | ⟨h0, rfl, rfl⟩)
  · refine ⟨rfl, ?_⟩
    refine WJ.shift (SJ.wk (t' := [(1, iv n), (5, .arr 7 1 c.length)]) (σ' := [(7, .arr 1 (c.map di))]) (Wk.cons rfl (Wk.cons rfl (Wk.nil _))) (Wk.cons rfl (Wk.nil _))) ?_
    refine WJ.loopK (V := Nat) (fun k => [(5, .arr 7 1 (c.length + k))]) (fun k => [(7, .arr 1 ((c ++ List.replicate k 0).map di))]) [7] (fun k => n.toNat - c.length - k) (fun k => k ≤ n.toNat - c.length) 0 (Nat.zero_le _) (by repeat' (first | exact trivial | exact rfl | refine And.intro ?_ ?_)) ⟨by show some (Ent.arr 1 _) = _; simp, trivial⟩ ?_
    intro k hk
    refine Spl.of (fun h => ?_) (fun h => ?_)
    · have h := of_decide_eq_true h
      (repeat (first | refine Spl.t rfl ?_ | refine Spl.f rfl ?_))
      refine Req.of ⟨by simp, ?_⟩ ?_
      · show c.length + k + 1 ≤ 1000000000; omega
      refine ⟨k + 1, by omega, by omega, (by repeat' (first | exact trivial | exact rfl | refine And.intro ?_ ?_)), (by repeat' (first | exact trivial | exact rfl | refine And.intro ?_ ?_)), ⟨?_, trivial⟩, (by repeat' (first | exact trivial | exact rfl | refine And.intro ?_ ?_))⟩
      show some (Ent.arr 1 (_ ++ [di 0])) = _
      rw [List.replicate_succ', ← List.append_assoc, List.map_append (l₂ := [(0 : Int)])]; rfl
    · have h := of_decide_eq_false h
      obtain rfl : k = n.toNat - c.length := by omega
      (repeat (first | refine Spl.t rfl ?_ | refine Spl.f rfl ?_))
      refine FinP.priv [(7, .arr 1 ((wideL c n).map di))] (Wk.cons rfl (Wk.nil _)) rfl ⟨?_, rfl⟩
      show AV.arr 7 1 _ = _
      simp [wideL]
  · refine ⟨rfl, ?_⟩
    refine WJ.shift (SJ.nilArr 7 5 1 rfl rfl) ?_
    refine WJ.loopK (V := Nat) (fun k => [(5, .arr 7 1 (c.length + k))]) (fun k => [(7, .arr 1 ((c ++ List.replicate k 0).map di))]) [7] (fun k => n.toNat - c.length - k) (fun k => k ≤ n.toNat - c.length) 0 (Nat.zero_le _) ⟨by rw [h0]; rfl, trivial⟩ ⟨by rw [h0]; rfl, trivial⟩ ?_
    intro k hk
    refine Spl.of (fun h => ?_) (fun h => ?_)
    · have h := of_decide_eq_true h
      (repeat (first | refine Spl.t rfl ?_ | refine Spl.f rfl ?_))
      refine Req.of ⟨by simp, ?_⟩ ?_
      · show c.length + k + 1 ≤ 1000000000; omega
      refine ⟨k + 1, by omega, by omega, (by repeat' (first | exact trivial | exact rfl | refine And.intro ?_ ?_)), (by repeat' (first | exact trivial | exact rfl | refine And.intro ?_ ?_)), ⟨?_, trivial⟩, (by repeat' (first | exact trivial | exact rfl | refine And.intro ?_ ?_))⟩
      show some (Ent.arr 1 (_ ++ [di 0])) = _
      rw [List.replicate_succ', ← List.append_assoc, List.map_append (l₂ := [(0 : Int)])]; rfl
    · have h := of_decide_eq_false h
      obtain rfl : k = n.toNat - c.length := by omega
      (repeat (first | refine Spl.t rfl ?_ | refine Spl.f rfl ?_))
      refine FinP.priv [(7, .arr 1 ((wideL c n).map di))] (Wk.cons rfl (Wk.nil _)) rfl ⟨?_, rfl⟩
      show AV.arr 7 1 _ = _
      simp [wideL]
end Go.Proofs.E
end
section
namespace Go.Gv
open Go.RowKit
end Go.Gv
end
section
namespace Go.Gv
open Go.RowKit

section
variable {X : Cx} {all : Array Oper}
/-- The i-th operation, done next. -/
def OneJ (X : Cx) (all : Array Oper) (i : Nat) (t : T) (σ : Sg) (K : T → Sg → Prop) : Prop :=
  ∀ γ H a w, St X γ H t σ a w → ∀ (next : Act → World → Prop) (Q' : Exit → Act → World → Prop), (∀ γ H t σ a w, St X γ H t σ a w → K t σ → next a w) → wpOpIn (Fr X.ro) 0 X.P all Q' i next a w
theorem OneJ.wk {i : Nat} {t t' : T} {σ : Sg} {K : T → Sg → Prop} (hw : Wk t' t) (h : OneJ X all i t' σ K) : OneJ X all i t σ K := fun γ H a w s => h γ H a w (s.wk hw (Wk.refl _))
theorem OneJ.op {i : Nat} {o : Oper} {t : T} {σ : Sg} {K : T → Sg → Prop} (ho : all[i]? = some o) (hg : o.guard = none) (h : OpJ X o t σ K) : OneJ X all i t σ K := by
  intro γ H a w s next Q' hn
  unfold wpOpIn
  simp only [ho]
  have hw : Region.wanted o (yielded all a.tmps) = true := by simp [Region.wanted, hg]
  rw [if_pos hw]
  exact ⟨fun _ _ => trivial, h γ H a w s _ _ hn⟩
theorem OneJ.guard {i : Nat} {o : Oper} {t : T} {σ : Sg} {K : T → Sg → Prop} {j : Nat} {b : Bool} {d : Nat} (ho : all[i]? = some o) (hg : o.guard = some (j, b)) (hd : ((all[j]?).bind (·.dst)) = some d) (hN : dOk o.dst X.N = true)
    (h : match look d t with
      | some (.d (.v (.bool b'))) => (b' = b → OpJ X o t σ K) ∧ (b' ≠ b → K (putT o.dst (.tup []) t) σ)
      | some (.tup []) => K (putT o.dst (.tup []) t) σ
      | _ => False) : OneJ X all i t σ K := by
  intro γ H a w s next Q' hn
  unfold wpOpIn
  simp only [ho]
  have skip : K (putT o.dst (.tup []) t) σ → next (a.put o.dst undef) w := fun h => hn γ H _ _ _ _ (s.calm (s.mem.refl γ) hN rep_undef) h
  split at h
  · next b' hb =>
    obtain ⟨u, hu, r⟩ := s.tmp d _ hb
    obtain rfl := rep_v r
    by_cases e : b' = b
    · have hw : Region.wanted o (yielded all a.tmps) = true := by simp [Region.wanted, hg, yielded, hd, hu, e]
      rw [if_pos hw]
      exact ⟨fun _ _ => trivial, h.1 e γ H a w s _ _ hn⟩
    · have hw : Region.wanted o (yielded all a.tmps) = false := by simp [Region.wanted, hg, yielded, hd, hu]; exact e
      simp only [hw, Bool.false_eq_true, if_false]
      exact ⟨fun _ _ => trivial, skip (h.2 e)⟩
  · next hb =>
    obtain ⟨u, hu, r⟩ := s.tmp d _ hb
    obtain rfl := rep_undef_eq r
    have hw : Region.wanted o (yielded all a.tmps) = false := by simp [Region.wanted, hg, yielded, hd, hu, undef]
    simp only [hw, Bool.false_eq_true, if_false]
    exact ⟨fun _ _ => trivial, skip h⟩
  · exact h.elim

def getB (l : List Bool) (i : Nat) : Bool := match l[i]? with
  | some b => b
  | none => false
def rdyOp (ls : List Bool) (o : Oper) : Bool := o.after.toList.all fun e => match Region.binds .any e with
  | false => true
  | true => getB ls e.on
/-- What may be done next. -/
def rdy (all : Array Oper) (ls : List Bool) : List Nat := (List.range all.size).filter fun i => match ls[i]?, all[i]? with
  | some false, some o => rdyOp ls o
  | _, _ => false
def allP : List Nat → (Nat → Prop) → Prop
  | [], _ => True
  | [i], p => p i
  | i :: j :: r, p => p i ∧ allP (j :: r) p
theorem allP_mem {p : Nat → Prop} : ∀ {l : List Nat}, allP l p → ∀ i, i ∈ l → p i
  | [i], h, k, hk => by simp at hk; subst hk; exact h
  | i :: j :: r, h, k, hk => by
    rcases List.mem_cons.1 hk with rfl | hk
    · exact h.1
    · exact allP_mem (l := j :: r) h.2 k hk
  | [], _, k, hk => by simp at hk

def vO (X : Cx) (all : Array Oper) (Q : T → Sg → Prop) : Nat → List Bool → T → Sg → Prop
  | 0, ls, t, σ => match rdy all ls with
    | [] => Q t σ
    | _ :: _ => False
  | n + 1, ls, t, σ => match rdy all ls with
    | [] => Q t σ
    | l => allP l fun i => match all[i]? with
      | none => False
      | some o => match o.guard with
        | none => eff X o t σ fun t σ => vO X all Q n (ls.set i true) t σ
        | some (j, b0) => match dstOf all j, dOk o.dst X.N with
          | some d, true => (match look d t with
            | some (.d (.v (.bool b))) => grd b0 b d t (fun t => eff X o t σ fun t σ => vO X all Q n (ls.set i true) t σ) (fun t => vO X all Q n (ls.set i true) (putT o.dst (.tup []) t) σ)
            | some (.tup []) => vO X all Q n (ls.set i true) (putT o.dst (.tup []) t) σ
            | _ => False)
          | _, _ => False

theorem rdy_eq (ls : List Bool) : rdy all ls = Region.ready .any all ls.toArray := by
  unfold rdy Region.ready
  apply List.filter_congr
  intro i _
  have g1 : ls.toArray.getD i true = (match ls[i]? with | some b => b | none => true) := by
    rw [Array.getD_eq_getD_getElem?]; cases h : ls[i]? <;> simp [h]
  have g2 : ∀ k, ls.toArray.getD k false = getB ls k := fun k => by
    rw [Array.getD_eq_getD_getElem?, getB]; cases h : ls[k]? <;> simp [h]
  rw [g1]
  cases h : ls[i]? with
  | none => simp
  | some b =>
    cases b with
    | true => simp
    | false =>
      cases ho : all[i]? with
      | none => simp
      | some o =>
        simp only [Bool.not_false, Bool.true_and, Option.map_some, Option.getD_some]
        unfold rdyOp
        rw [← Array.all_toList]
        congr 1
        funext e
        rw [g2]
        cases Region.binds .any e <;> rfl

theorem vO_sound {Q : T → Sg → Prop} {Q' : Exit → Act → World → Prop} (hQ : ∀ γ H t σ a w, St X γ H t σ a w → Q t σ → Q' .normal a w) : ∀ (n : Nat) (ls : List Bool) (t : T) (σ : Sg), vO X all Q n ls t σ →
    ∀ γ H a w, St X γ H t σ a w → wpAnyIn (Fr X.ro) 0 X.P .any all Q' n ls.toArray a w
  | 0, ls, t, σ, h, γ, H, a, w, s => by
    unfold vO at h
    unfold wpAnyIn
    rw [← rdy_eq]
    split at h
    · next hr => exact ⟨hr, hQ γ H t σ a w s h⟩
    · exact h.elim
  | n + 1, ls, t, σ, h, γ, H, a, w, s => by
    unfold vO at h
    unfold wpAnyIn
    rw [← rdy_eq]
    split at h
    · next hr => exact ⟨fun _ => hQ γ H t σ a w s h, fun i hi => by rw [hr] at hi; simp at hi⟩
    · next hr =>
      refine ⟨fun e => absurd e hr, fun i hi => ?_⟩
      have hp := allP_mem h i hi
      have hset : ls.toArray.setIfInBounds i true = (ls.set i true).toArray := by simp
      rw [hset]
      have ih := fun t σ (h : vO X all Q n (ls.set i true) t σ) => vO_sound hQ n (ls.set i true) t σ h
      suffices hone : OneJ X all i t σ (fun t σ => vO X all Q n (ls.set i true) t σ) from hone γ H a w s _ _ fun γ H t σ a w s' k => ih t σ k γ H a w s'
      split at hp
      · exact hp.elim
      · next o ho =>
        split at hp
        · next hg => exact .op ho hg (eff_sound hp)
        · next j b0 hg =>
          split at hp
          · next d hd hN =>
            have hd' : ((all[j]?).bind (·.dst)) = some d := by rw [dstOf_eq]; exact hd
            split at hp
            · next b hb =>
              have yes : ∀ c, b = c → eff X o ((d, .d (.v (.bool c))) :: t) σ (fun t σ => vO X all Q n (ls.set i true) t σ) → c = b0 → OneJ X all i t σ (fun t σ => vO X all Q n (ls.set i true) t σ) := fun c hc he hcb => by
                subst hc; subst hcb
                refine OneJ.wk (Wk.cons hb (Wk.refl t)) (OneJ.guard ho hg hd' hN ?_)
                rw [look_cons, if_pos rfl]
                exact ⟨fun _ => eff_sound he, fun hne => absurd rfl hne⟩
              have no : ∀ c, b = c → vO X all Q n (ls.set i true) (putT o.dst (.tup []) ((d, .d (.v (.bool c))) :: t)) σ → c ≠ b0 → OneJ X all i t σ (fun t σ => vO X all Q n (ls.set i true) t σ) := fun c hc he hcb => by
                subst hc
                refine OneJ.wk (Wk.cons hb (Wk.refl t)) (OneJ.guard ho hg hd' hN ?_)
                rw [look_cons, if_pos rfl]
                exact ⟨fun e => absurd e hcb, fun _ => he⟩
              cases b0 with
              | true => cases b with
                | true => exact yes true rfl (hp.1 rfl) rfl
                | false => exact no false rfl (hp.2 rfl) (by simp)
              | false => cases b with
                | true => exact no true rfl (hp.1 rfl) (by simp)
                | false => exact yes false rfl (hp.2 rfl) rfl
            · next hb =>
              refine OneJ.guard ho hg hd' hN ?_
              rw [hb]
              exact hp
            · exact hp.elim
          · exact hp.elim

def falses : Nat → List Bool
  | 0 => []
  | n + 1 => false :: falses n
theorem falses_eq : ∀ n, falses n = List.replicate n false
  | 0 => rfl
  | n + 1 => by rw [falses, falses_eq n, List.replicate_succ]
/-- **A region that draws its order: every order is gone through.** -/
theorem RegP.orders {id : Nat} {ops : Array Oper} {t : T} {σ : Sg} {Q : T → Sg → Prop} (hm : X.P.follows .mixedOrders = true) (h : vO X ops Q ops.size (falses ops.size) t σ) : RegP X id ops t σ Q := by
  intro Q' hQ γ H a w s
  refine wpIn_region_any hm ?_
  have s' : St X γ H t σ a { w with drawn := w.drawn + 1 } := ⟨s.lam, s.round, s.defers, s.size, s.pinned, s.tmp, s.mem.drew⟩
  have := vO_sound (Q := Q) (Q' := Post X Q') (fun γ H t σ a w s q => ⟨γ, H, t, σ, s, hQ t σ q⟩) ops.size (falses ops.size) t σ h γ H a _ s'
  rw [falses_eq] at this
  simpa using this
def trues : Nat → List Bool → List Bool
  | 0, l => l
  | n + 1, l => true :: trues n l
theorem trues_eq : ∀ n l, trues n l = List.replicate n true ++ l
  | 0, l => rfl
  | n + 1, l => by rw [trues, trues_eq n, List.replicate_succ]; rfl
/-- **A region that draws its order: quiet operations ahead in any order, the rest by all orders.** -/
theorem RegP.mix {id : Nat} {ops : Array Oper} {t : T} {σ : Sg} {Q : T → Sg → Prop} (m : Nat) (hm : X.P.follows .mixedOrders = true) (hc : (calmB2 ops m && Nat.ble m ops.size) = true)
    (h : vB X ops σ (fun t σ => vO X ops Q (ops.size - m) (trues m (falses (ops.size - m))) t σ) (ops.toList.take m) t []) : RegP X id ops t σ Q := by
  intro Q' hQ
  simp only [Bool.and_eq_true, Nat.ble_eq] at hc
  refine WJ.calmG m hm (calmB2_R hc.1) hc.2 (fun t σ h3 γ H a w lst hst hls hlst => ?_) (vB_sound _ _ _ h)
  have e : lst = (trues m (falses (ops.size - m))).toArray := by
    rw [trues_eq, falses_eq]
    apply Array.ext
    · simp [hls]; omega
    · intro j h1 h2
      have hj := hlst j (by omega)
      rw [Array.getD_eq_getD_getElem?, Array.getElem?_eq_getElem h1, Option.getD_some] at hj
      rw [hj, List.getElem_toArray, List.getElem_append]
      split
      · next h3 => simp at h3; simp [h3]
      · next h3 => simp at h3; simp; omega
  rw [e]
  exact vO_sound (Q := Q) (Q' := Post X Q') (fun γ H t σ a w s q => ⟨γ, H, t, σ, s, hQ t σ q⟩) (ops.size - m) _ t σ h3 γ H a w hst
end
end Go.Gv
end
section
namespace Go.Gv
open Go.RowKit
end Go.Gv
end
