/- From the statement's reading of the arguments to the abstract values; from a contract to the kit's call. -/
import Derived.Test.YthfemmcodfajaaaDoorFwK
import Derived.OpenShut
import Derived.ChangeOld
import Derived.SizedLaws
import Derived.Deep.Slices
import Derived.WideShapes
set_option linter.unusedVariables false
set_option linter.unusedSimpArgs false
namespace Go.Sv
open Go.RowKit Go.ChangeShapes Go.WideShapes

/-- The cells of a world. -/
def cellH (w : World) : HF := fun b o => w.cell? ⟨b, o, none⟩

section
variable {H : Type} {enc : TypeId × Value → H} {P : Program} {W : World}

/-- Whatever reads at that type stands for data of the shape G. -/
def OpenEl (enc : TypeId × Value → H) (P : Program) (W : World) (e : TypeId) (G : List D → Prop) : Prop :=
  ∀ (n : Nat) (cs : List Value) (x : DataW H × List MemPlace), DataW.trod enc P W 0 (fun _ => true) true n e cs = some x →
    ∃ ds : List D, cs.length = ds.length ∧ (∀ (j : Nat) (a : D) (u : Value), ds[j]? = some a → cs[j]? = some u → RepD (cellH W) a u) ∧ G ds

theorem openEl_one {e : TypeId} {G : List D → Prop} (h : ∀ n cs x, DataW.trod enc P W 0 (fun _ => true) true n e cs = some x → ∃ v a, cs = [v] ∧ RepD (cellH W) a v ∧ G [a]) : OpenEl enc P W e G := by
  intro n cs x hx
  obtain ⟨v, a, rfl, hr, hg⟩ := h n cs x hx
  refine ⟨[a], rfl, fun j b u h1 h2 => ?_, hg⟩
  cases j with
  | zero => simp at h1 h2; subst h1; subst h2; exact hr
  | succ j => simp at h1

theorem openEl_int {e : TypeId} {k : IntKind} (he : P.underlying e = some (.int k)) : OpenEl enc P W e (fun ds => ∃ n, ds = [.v (.int k n)] ∧ (Lit.int k n).wf = true) :=
  openEl_one fun _ _ _ hx => let ⟨m, h1, _, h2⟩ := DataW.trod_int he hx; ⟨_, .v (.int k m), h1, .v _ rfl, m, rfl, h2⟩

theorem openEl_bool {e : TypeId} (he : P.underlying e = some .bool) : OpenEl enc P W e (fun ds => ∃ b, ds = [.v (.bool b)]) :=
  openEl_one fun _ _ _ hx => let ⟨b, h1, _⟩ := DataW.trod_bool he hx; ⟨_, .v (.bool b), h1, .v _ rfl, b, rfl⟩

theorem openEl_str {e : TypeId} (he : P.underlying e = some .string) : OpenEl enc P W e (fun ds => ∃ s, ds = [.v (.string s)] ∧ s.size ≤ maxLen) :=
  openEl_one fun _ _ _ hx => let ⟨s, h1, _, h2⟩ := DataW.trod_string he hx; ⟨_, .v (.string s), h1, .v _ rfl, s, rfl, h2⟩

theorem choose_list {α : Type} {n : Nat} {p : Nat → α → Prop} (h : ∀ i, i < n → ∃ x, p i x) : ∃ l : List α, l.length = n ∧ ∀ i a, l[i]? = some a → p i a := by
  induction n with
  | zero => exact ⟨[], rfl, fun i a h => by simp at h⟩
  | succ n ih =>
    obtain ⟨l, hl, hp⟩ := ih fun i hi => h i (by omega)
    obtain ⟨x, hx⟩ := h n (by omega)
    refine ⟨l ++ [x], by simp [hl], fun i a hi => ?_⟩
    by_cases hin : i < l.length
    · rw [List.getElem?_append_left hin] at hi; exact hp i a hi
    · rw [List.getElem?_append_right (by omega)] at hi
      have : i - l.length = 0 := by
        rcases Nat.eq_zero_or_pos (i - l.length) with h0 | h0
        · exact h0
        · rw [List.getElem?_eq_none (by simp; omega)] at hi; cases hi
      rw [this] at hi
      simp at hi; subst hi
      rwa [show i = n by omega]

theorem add_zero_addr (a : Addr) : a.add 0 = a := by simp [Addr.add]

theorem cells_get {b0 : Nat} {a : Addr} {k : Nat} {cs : List Value} (h : W.cells? b0 a k = some cs) : cs.length = k ∧ ∀ j v, cs[j]? = some v → W.cell? (a.add j) = some v := by
  obtain ⟨_, hl, hc⟩ := World.cells?_some h
  refine ⟨hl, fun j v hj => ?_⟩
  have hjk : j < k := by rw [← hl]; exact (List.getElem?_eq_some_iff.1 hj).1
  rw [hc j hjk, hj]

theorem cell_spot {a : Addr} {v : Value} (h : W.cell? a = some v) : a.spot = none := by
  unfold World.cell? at h
  split at h
  · split at h
    · cases h
    · rename_i hs; simpa using hs
  · cases h

theorem openEl_slice {t e : TypeId} {G : List D → Prop} {k : Nat} (ht : P.underlying t = some (.slice e)) (hc : P.cellsOf e = k) (hk : 0 < k) (el : OpenEl enc P W e G) :
    OpenEl enc P W t (fun ds => ∃ xs, ds = [.sl k xs] ∧ ∀ cs, cs ∈ xs → G cs) := by
  refine openEl_one fun n cs x hx => ?_
  rcases Go.Deep.open_slice ht hx with ⟨rfl, _⟩ | ⟨a, len, cap, m, n', Df, Pl, rfl, _, hl, hm, hmm, _, hel⟩
  · exact ⟨_, .sl k [], rfl, .sl k [] none 0 0 0 (fun _ _ => .nilIface) (fun _ h => by simp at h) (Nat.le_refl _) (by simp) (by simp) (fun j i h => by simp at h) (fun j i cs a h => by simp at h), [], rfl, fun _ h => by simp at h⟩
  · simp only [if_true] at hmm
    subst hmm
    rw [hc] at hel
    have spot : 0 < len → a = ⟨a.block, a.off, none⟩ := by
      intro h0
      obtain ⟨cs', h1, h2⟩ := hel 0 (by omega)
      obtain ⟨hlen, hcell⟩ := cells_get h1
      have : ∃ v, cs'[0]? = some v := by
        have : 0 < cs'.length := by omega
        exact ⟨cs'[0], by simp [this]⟩
      obtain ⟨v, hv⟩ := this
      have := cell_spot (hcell 0 v hv)
      simp [add_zero_addr] at this
      cases a; simp_all
    obtain ⟨xs, hxl, hxp⟩ := choose_list (α := List D × List Value) (n := len) (p := fun i y => y.1.length = k ∧ y.2.length = k ∧ (∀ j v, y.2[j]? = some v → W.cell? ((a.add (i * k)).add j) = some v) ∧
        (∀ (j : Nat) (a : D) (u : Value), y.1[j]? = some a → y.2[j]? = some u → RepD (cellH W) a u) ∧ G y.1) fun i hi => by
      obtain ⟨cs', h1, h2⟩ := hel i (by omega)
      obtain ⟨hlen, hcell⟩ := cells_get h1
      obtain ⟨ds, hd, hr, hg⟩ := el n' cs' _ h2
      exact ⟨(ds, cs'), by simp; omega, hlen, hcell, hr, hg⟩
    have get : ∀ (j : Nat) (ds : List D), (xs.map (·.1))[j]? = some ds → ∃ y, xs[j]? = some y ∧ y.1 = ds := by
      intro j ds h
      simp only [List.getElem?_map, Option.map_eq_some_iff] at h
      exact h
    have hxl' : (xs.map (·.1)).length = len := by simp [hxl]
    refine ⟨_, .sl k (xs.map (·.1)), rfl, ?_, _, rfl, fun ds hds => ?_⟩
    · have key := RepD.sl (H := cellH W) k (xs.map (·.1)) (some a) m a.block a.off (fun j i => ((xs.getD j ([], [])).2.getD i .nilIface)) (fun cs hcs => by
          obtain ⟨j, hj⟩ := List.getElem?_of_mem hcs
          obtain ⟨y, hy, rfl⟩ := get j cs hj
          exact (hxp j y hy).1) (by rw [hxl']; exact hl) (by rw [hxl']; have : maxLen = 9223372036854775807 := rfl; omega) (fun h => by rw [hxl'] at h; rw [← spot h]) (fun j i hj hi => by
          rw [hxl'] at hj
          have hjx : j < xs.length := by omega
          obtain ⟨_, q2, q3, _⟩ := hxp j xs[j] (by simp [hjx])
          have hi' : i < (xs[j]).2.length := by omega
          have := q3 i (xs[j]).2[i] (by simp [hi'])
          simp only [cellH, List.getD, hjx, List.getElem?_eq_getElem, Option.getD_some, hi']
          rw [← this]
          congr 1
          have hs := spot (by omega)
          rw [Go.Deep.add_add]
          unfold Addr.add
          split
          · rename_i h0
            have e1 : j * k = 0 := by omega
            have e2 : i = 0 := by omega
            rw [e1, e2]; exact hs.symm
          · rw [Nat.add_assoc]) (fun j i ds d hj hd => by
          obtain ⟨y, hy, rfl⟩ := get j ds hj
          obtain ⟨q1, q2, _, q4, _⟩ := hxp j y hy
          have hi' : i < y.2.length := by have := (List.getElem?_eq_some_iff.1 hd).1; omega
          have : (xs.getD j ([], [])) = y := by simp [List.getD, hy]
          rw [this]
          exact q4 i d _ hd (by simp [List.getD, hi']))
      rw [hxl'] at key
      exact key
    · obtain ⟨j, hj⟩ := List.getElem?_of_mem hds
      obtain ⟨y, hy, rfl⟩ := get j ds hj
      exact (hxp j y hy).2.2.2.2

/-- Fields, one behind the other. -/
def OpenFs (enc : TypeId × Value → H) (P : Program) (W : World) : List TypeId → (List D → Prop) → Prop
  | [], G => ∀ ds, ds = [] → G ds
  | t :: ts, G => ∃ G1 : List D → Prop, OpenEl enc P W t G1 ∧ ∀ d1, G1 d1 → OpenFs enc P W ts (fun d2 => G (d1 ++ d2))

/-- A slice of ints. -/
theorem rows_ints {k : IntKind} {xs : List (List D)} (h : ∀ cs, cs ∈ xs → ∃ n, cs = [.v (.int k n)] ∧ (Lit.int k n).wf = true) : ∃ zs : List Int, xs = zs.map (fun n => [.v (.int k n)]) ∧ ∀ n, n ∈ zs → (Lit.int k n).wf = true := by
  induction xs with
  | nil => exact ⟨[], rfl, fun _ h => by simp at h⟩
  | cons c r ih =>
    obtain ⟨n, rfl, hn⟩ := h c (by simp)
    obtain ⟨zs, rfl, hz⟩ := ih fun cs hcs => h cs (by simp [hcs])
    exact ⟨n :: zs, rfl, fun m hm => by rcases List.mem_cons.1 hm with rfl | hm; exact hn; exact hz m hm⟩

/-- A one-celled argument, opened. -/
theorem openArg {t : TypeId} {G : List D → Prop} {v : Value} {d : DataW H} {ps : List MemPlace} (el : OpenEl enc P W t G) (hc : v.cells.toList = [v]) (h : DataW.Trod enc P W 0 (fun _ => true) true t v d ps) :
    ∃ a, RepD (cellH W) a v ∧ G [a] := by
  obtain ⟨n, hn⟩ := h
  rw [hc] at hn
  obtain ⟨ds, hl, hr, hg⟩ := el n [v] _ hn
  match ds, hl with
  | [a], _ => exact ⟨a, hr 0 a v rfl rfl, hg⟩

theorem openInts {b0 : Nat} {t e : TypeId} {k : IntKind} {v : Value} {d : DataW H} {ps : List MemPlace} (ht : P.underlying t = some (.slice e)) (he : P.underlying e = some (.int k)) (hc : P.cellsOf e = 1)
    (hok : Value.okWide P W .any b0 t v) (h : DataW.Trod enc P W 0 (fun _ => true) true t v d ps) :
    ∃ zs : List Int, RepD (cellH W) (.sl 1 (zs.map fun n => [.v (.int k n)])) v ∧ ∀ n, n ∈ zs → (Lit.int k n).wf = true := by
  obtain ⟨a, l, c, rfl⟩ := okWide_slice ht hok
  obtain ⟨a, hr, xs, h1, hG⟩ := openArg (openEl_slice ht hc (by decide) (openEl_int he)) rfl h
  obtain ⟨zs, rfl, hz⟩ := rows_ints hG
  simp only [List.cons.injEq, and_true] at h1
  subst h1
  exact ⟨zs, hr, hz⟩

end

/-- A contract of scalars' result, as the kit's call. -/
theorem FnC.calls {P : Program} {f : FuncId} {avs : List AV} {V : Value} (h : FnC P f avs (fun r _ => r = .d (.v V))) (w : World) (vs : List Value) (hl : vs.length = avs.length)
    (hr : ∀ (j : Nat) (a : AV) (u : Value), avs[j]? = some a → vs[j]? = some u → Rep (fun _ => (0, 0)) (cellH w) a u) :
    Calls P f vs.toArray w fun e w' => e = .returned V ∧ Below w.heap.size w w' := by
  have := h none (fun _ => (0, 0)) (cellH w) w vs (fun b o v h => h) hl hr
  refine (callsIn_wide.1 this).mono fun e w' ⟨v, r, σ, γ', H', he, hq, hrep, hm⟩ => ?_
  subst hq
  cases hrep with
  | d _ _ hd => cases hd with
    | v _ _ => exact ⟨he, hm.keep.below fun _ => id⟩

theorem args_nil {γ : Ids} {H : HF} : ∀ (j : Nat) (a : AV) (u : Value), ([] : List AV)[j]? = some a → ([] : List Value)[j]? = some u → Rep γ H a u := fun j a u h => by simp at h
theorem args_cons {γ : Ids} {H : HF} {avs : List AV} {vs : List Value} {a0 : AV} {u0 : Value} (h0 : Rep γ H a0 u0) (h : ∀ (j : Nat) (a : AV) (u : Value), avs[j]? = some a → vs[j]? = some u → Rep γ H a u) :
    ∀ (j : Nat) (a : AV) (u : Value), (a0 :: avs)[j]? = some a → (u0 :: vs)[j]? = some u → Rep γ H a u := by
  intro j a u h1 h2
  cases j with
  | zero => simp at h1 h2; subst h1; subst h2; exact h0
  | succ j => exact h j a u (by simpa using h1) (by simpa using h2)
end Go.Sv
