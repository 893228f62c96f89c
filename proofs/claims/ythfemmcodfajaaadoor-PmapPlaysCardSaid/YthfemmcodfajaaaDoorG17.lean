/- From the statement's reading of the arguments to abstract values. -/
import Derived.Test.YthfemmcodfajaaaDoorG16
import Derived.OpenShut
import Derived.ChangeOld
import Derived.SizedLaws
import Derived.Deep.Slices
import Derived.WideShapes
set_option linter.unusedVariables false
set_option linter.unusedSimpArgs false
namespace Go.Gv
open Go.RowKit Go.ChangeShapes Go.WideShapes

section
variable {H : Type} {enc : TypeId × Value → H} {P : Program} {W : World}

/-- Whatever reads at that type stands for data of the shape G. -/
def OpenEl (enc : TypeId × Value → H) (P : Program) (W : World) (e : TypeId) (G : List D → Prop) : Prop :=
  ∀ (n : Nat) (cs : List Value) (x : DataW H × List MemPlace), DataW.trod enc P W 0 (fun _ => true) true n e cs = some x →
    ∃ ds : List D, cs.length = ds.length ∧ (∀ (j : Nat) (a : D) (u : Value), ds[j]? = some a → cs[j]? = some u → RepD (cellH W) a u) ∧ G ds

theorem openEl_one {e : TypeId} {G : List D → Prop} (h : ∀ n cs x, DataW.trod enc P W 0 (fun _ => true) true n e cs = some x → ∃ v a, cs = [v] ∧ RepD (cellH W) a v ∧ G [a]) : OpenEl enc P W e G := by
  intro n cs x hx
  obtain ⟨v, a, rfl, hr, hg⟩ := h n cs x hx
  refine ⟨[a], rfl, fun j b u h1 h2 => ?_, hg⟩
  cases j with
  | zero => simp at h1 h2; subst h1; subst h2; exact hr
  | succ j => simp at h1

theorem openEl_int {e : TypeId} {k : IntKind} (he : P.underlying e = some (.int k)) : OpenEl enc P W e (fun ds => ∃ n, ds = [.v (.int k n)] ∧ (Lit.int k n).wf = true) :=
  openEl_one fun _ _ _ hx => let ⟨m, h1, _, h2⟩ := DataW.trod_int he hx; ⟨_, .v (.int k m), h1, .v _ rfl, m, rfl, h2⟩

theorem openEl_bool {e : TypeId} (he : P.underlying e = some .bool) : OpenEl enc P W e (fun ds => ∃ b, ds = [.v (.bool b)]) :=
  openEl_one fun _ _ _ hx => let ⟨b, h1, _⟩ := DataW.trod_bool he hx; ⟨_, .v (.bool b), h1, .v _ rfl, b, rfl⟩

theorem openEl_str {e : TypeId} (he : P.underlying e = some .string) : OpenEl enc P W e (fun ds => ∃ s, ds = [.v (.string s)] ∧ s.size ≤ maxLen) :=
  openEl_one fun _ _ _ hx => let ⟨s, h1, _, h2⟩ := DataW.trod_string he hx; ⟨_, .v (.string s), h1, .v _ rfl, s, rfl, h2⟩

theorem choose_list {α : Type} {n : Nat} {p : Nat → α → Prop} (h : ∀ i, i < n → ∃ x, p i x) : ∃ l : List α, l.length = n ∧ ∀ i a, l[i]? = some a → p i a := by
  induction n with
  | zero => exact ⟨[], rfl, fun i a h => by simp at h⟩
  | succ n ih =>
    obtain ⟨l, hl, hp⟩ := ih fun i hi => h i (by omega)
    obtain ⟨x, hx⟩ := h n (by omega)
    refine ⟨l ++ [x], by simp [hl], fun i a hi => ?_⟩
    by_cases hin : i < l.length
    · rw [List.getElem?_append_left hin] at hi; exact hp i a hi
    · rw [List.getElem?_append_right (by omega)] at hi
      have : i - l.length = 0 := by
        rcases Nat.eq_zero_or_pos (i - l.length) with h0 | h0
        · exact h0
        · rw [List.getElem?_eq_none (by simp; omega)] at hi; cases hi
      rw [this] at hi
      simp at hi; subst hi
      rwa [show i = n by omega]

theorem add_zero_addr (a : Addr) : a.add 0 = a := by simp [Addr.add]

theorem cells_get {b0 : Nat} {a : Addr} {k : Nat} {cs : List Value} (h : W.cells? b0 a k = some cs) : cs.length = k ∧ ∀ j v, cs[j]? = some v → W.cell? (a.add j) = some v := by
  obtain ⟨_, hl, hc⟩ := World.cells?_some h
  refine ⟨hl, fun j v hj => ?_⟩
  have hjk : j < k := by rw [← hl]; exact (List.getElem?_eq_some_iff.1 hj).1
  rw [hc j hjk, hj]

theorem cell_spot {a : Addr} {v : Value} (h : W.cell? a = some v) : a.spot = none := by
  unfold World.cell? at h
  split at h
  · split at h
    · cases h
    · rename_i hs; simpa using hs
  · cases h

theorem openEl_slice {t e : TypeId} {G : List D → Prop} {k : Nat} (ht : P.underlying t = some (.slice e)) (hc : P.cellsOf e = k) (hk : 0 < k) (el : OpenEl enc P W e G) :
    OpenEl enc P W t (fun ds => ∃ xs, ds = [.sl k xs] ∧ ∀ cs, cs ∈ xs → G cs) := by
  refine openEl_one fun n cs x hx => ?_
  rcases Go.Deep.open_slice ht hx with ⟨rfl, _⟩ | ⟨a, len, cap, m, n', Df, Pl, rfl, _, hl, hm, hmm, _, hel⟩
  · exact ⟨_, .sl k [], rfl, .sl k [] none 0 0 0 (fun _ _ => .nilIface) (fun _ h => by simp at h) (Nat.le_refl _) (by simp) (by simp) (fun j i h => by simp at h) (fun j i cs a h => by simp at h), [], rfl, fun _ h => by simp at h⟩
  · simp only [if_true] at hmm
    subst hmm
    rw [hc] at hel
    have spot : 0 < len → a = ⟨a.block, a.off, none⟩ := by
      intro h0
      obtain ⟨cs', h1, h2⟩ := hel 0 (by omega)
      obtain ⟨hlen, hcell⟩ := cells_get h1
      have : ∃ v, cs'[0]? = some v := by
        have : 0 < cs'.length := by omega
        exact ⟨cs'[0], by simp [this]⟩
      obtain ⟨v, hv⟩ := this
      have := cell_spot (hcell 0 v hv)
      simp [add_zero_addr] at this
      cases a; simp_all
    obtain ⟨xs, hxl, hxp⟩ := choose_list (α := List D × List Value) (n := len) (p := fun i y => y.1.length = k ∧ y.2.length = k ∧ (∀ j v, y.2[j]? = some v → W.cell? ((a.add (i * k)).add j) = some v) ∧
        (∀ (j : Nat) (a : D) (u : Value), y.1[j]? = some a → y.2[j]? = some u → RepD (cellH W) a u) ∧ G y.1) fun i hi => by
      obtain ⟨cs', h1, h2⟩ := hel i (by omega)
      obtain ⟨hlen, hcell⟩ := cells_get h1
      obtain ⟨ds, hd, hr, hg⟩ := el n' cs' _ h2
      exact ⟨(ds, cs'), by simp; omega, hlen, hcell, hr, hg⟩
    have get : ∀ (j : Nat) (ds : List D), (xs.map (·.1))[j]? = some ds → ∃ y, xs[j]? = some y ∧ y.1 = ds := by
      intro j ds h
      simp only [List.getElem?_map, Option.map_eq_some_iff] at h
      exact h
    have hxl' : (xs.map (·.1)).length = len := by simp [hxl]
    refine ⟨_, .sl k (xs.map (·.1)), rfl, ?_, _, rfl, fun ds hds => ?_⟩
    · have key := RepD.sl (H := cellH W) k (xs.map (·.1)) (some a) m a.block a.off (fun j i => ((xs.getD j ([], [])).2.getD i .nilIface)) (fun cs hcs => by
          obtain ⟨j, hj⟩ := List.getElem?_of_mem hcs
          obtain ⟨y, hy, rfl⟩ := get j cs hj
          exact (hxp j y hy).1) (by rw [hxl']; exact hl) (by rw [hxl']; have : maxLen = 9223372036854775807 := rfl; omega) (fun h => by rw [hxl'] at h; rw [← spot h]) (fun j i hj hi => by
          rw [hxl'] at hj
          have hjx : j < xs.length := by omega
          obtain ⟨_, q2, q3, _⟩ := hxp j xs[j] (by simp [hjx])
          have hi' : i < (xs[j]).2.length := by omega
          have := q3 i (xs[j]).2[i] (by simp [hi'])
          simp only [cellH, List.getD, hjx, List.getElem?_eq_getElem, Option.getD_some, hi']
          rw [← this]
          congr 1
          have hs := spot (by omega)
          rw [Go.Deep.add_add]
          unfold Addr.add
          split
          · rename_i h0
            have e1 : j * k = 0 := by omega
            have e2 : i = 0 := by omega
            rw [e1, e2]; exact hs.symm
          · rw [Nat.add_assoc]) (fun j i ds d hj hd => by
          obtain ⟨y, hy, rfl⟩ := get j ds hj
          obtain ⟨q1, q2, _, q4, _⟩ := hxp j y hy
          have hi' : i < y.2.length := by have := (List.getElem?_eq_some_iff.1 hd).1; omega
          have : (xs.getD j ([], [])) = y := by simp [List.getD, hy]
          rw [this]
          exact q4 i d _ hd (by simp [List.getD, hi']))
      rw [hxl'] at key
      exact key
    · obtain ⟨j, hj⟩ := List.getElem?_of_mem hds
      obtain ⟨y, hy, rfl⟩ := get j ds hj
      exact (hxp j y hy).2.2.2.2


/-! ### Types by their shape -/
inductive Ty where
  | int (k : IntKind)
  | bool
  | str
  | st (fs : List Ty)
  | sl (e : Ty)
def cells : Ty → Nat
  | .st fs => go fs
  | _ => 1
where go : List Ty → Nat
  | [] => 0
  | f :: r => cells f + go r
def Ty.ok : Ty → List D → Prop
  | .int k, ds => ∃ n, ds = [.v (.int k n)] ∧ (Lit.int k n).wf = true
  | .bool, ds => ∃ b, ds = [.v (.bool b)]
  | .str, ds => ∃ l : List UInt8, ds = [.v (.string ⟨⟨l⟩⟩)] ∧ l.length ≤ maxLen
  | .st fs, ds => okFs fs ds
  | .sl e, ds => ∃ xs, ds = [.sl (cells e) xs] ∧ ∀ cs, cs ∈ xs → e.ok cs
where okFs : List Ty → List D → Prop
  | [], ds => ds = []
  | f :: r, ds => ∃ d1 d2, ds = d1 ++ d2 ∧ f.ok d1 ∧ okFs r d2
/-- Is a type of this shape? -/
def Ty.isT (P : Program) : Ty → TypeId → Bool
  | .int k, t => (match P.underlying t with | some (.int k') => kEq k k' | _ => false) && Nat.beq (P.cellsOf t) 1
  | .bool, t => (match P.underlying t with | some .bool => true | _ => false) && Nat.beq (P.cellsOf t) 1
  | .str, t => (match P.underlying t with | some .string => true | _ => false) && Nat.beq (P.cellsOf t) 1
  | .st fs, t => (match P.underlying t with | some (.struct gs) => isFs P fs gs.toList 0 && Nat.beq (P.cellsOf t) (cells (.st fs)) | _ => false)
  | .sl e, t => (match P.underlying t with | some (.slice u) => e.isT P u && Nat.blt 0 (cells e) | _ => false) && Nat.beq (P.cellsOf t) 1
where isFs (P : Program) : List Ty → List Field → Nat → Bool
  | [], [], _ => true
  | f :: r, g :: s, off => Nat.beq g.offset off && f.isT P g.type && isFs P r s (off + cells f)
  | _, _, _ => false

theorem isT_cells {ty : Ty} {t : TypeId} (h : ty.isT P t = true) : P.cellsOf t = cells ty := by
  cases ty with
  | int k => simp only [Ty.isT, Bool.and_eq_true, Nat.beq_eq] at h; exact h.2
  | bool => simp only [Ty.isT, Bool.and_eq_true, Nat.beq_eq] at h; exact h.2
  | str => simp only [Ty.isT, Bool.and_eq_true, Nat.beq_eq] at h; exact h.2
  | sl e => simp only [Ty.isT, Bool.and_eq_true, Nat.beq_eq] at h; exact h.2
  | st fs =>
    simp only [Ty.isT] at h
    split at h
    · simp only [Bool.and_eq_true, Nat.beq_eq] at h; exact h.2
    · cases h

theorem byteSize (s : ByteArray) : s.data.toList.length = s.size := rfl
mutual
theorem openTy : ∀ (ty : Ty) (t : TypeId), ty.isT P t = true → OpenEl enc P W t ty.ok
  | .int k, t, hty => by
    simp only [Ty.isT, Bool.and_eq_true] at hty
    obtain ⟨h1, _⟩ := hty
    split at h1
    · next k' hu =>
      obtain rfl := kEq_eq h1
      exact openEl_int hu
    · cases h1
  | .bool, t, hty => by
    simp only [Ty.isT, Bool.and_eq_true] at hty
    obtain ⟨h1, _⟩ := hty
    split at h1
    · next hu => exact openEl_bool hu
    · cases h1
  | .str, t, hty => by
    simp only [Ty.isT, Bool.and_eq_true] at hty
    obtain ⟨h1, _⟩ := hty
    split at h1
    · next hu =>
      intro n cs x hx
      obtain ⟨ds, e1, e2, s, rfl, hs⟩ := openEl_str hu n cs x hx
      exact ⟨_, e1, e2, s.data.toList, rfl, by rw [byteSize]; exact hs⟩
    · cases h1
  | .sl e, t, hty => by
    simp only [Ty.isT, Bool.and_eq_true] at hty
    obtain ⟨h1, _⟩ := hty
    split at h1
    · next u hu =>
      simp only [Bool.and_eq_true, Nat.blt_eq] at h1
      exact openEl_slice hu (isT_cells h1.1) h1.2 (openTy e u h1.1)
    · cases h1
  | .st fs, t, hty => by
    simp only [Ty.isT] at hty
    split at hty
    · next gs hu =>
      simp only [Bool.and_eq_true, Nat.beq_eq] at hty
      intro n cs x hx
      obtain ⟨xs, m, _, _, hl, hsz, hfld⟩ := DataW.trod_struct hu hx
      have hlen : cs.length = cells (.st fs) := by rw [hl]; exact hty.2
      obtain ⟨ds, e1, e2, e3⟩ := openFs fs gs.toList 0 hty.1 m cs (by rw [hlen]; simp [cells]) (fun k g hg => by
        have hg' : gs[k]? = some g := by simpa using hg
        have hk : k < xs.length := by
          have := (Array.getElem?_eq_some_iff.1 hg').1
          omega
        have := hfld k g hg'
        exact ⟨xs[k], this.trans (by simp [hk])⟩)
      refine ⟨ds, by rw [hlen, e1]; rfl, fun j a u ha hu => e2 j a u ha (by simpa using hu), e3⟩
    · cases hty
theorem openFs : ∀ (fs : List Ty) (gs : List Field) (off : Nat), Ty.isT.isFs P fs gs off = true → ∀ (n : Nat) (cs : List Value), off + cells.go fs ≤ cs.length →
    (∀ (k : Nat) (g : Field), gs[k]? = some g → ∃ y, DataW.trod enc P W 0 (fun _ => true) true n g.type ((cs.drop g.offset).take (P.cellsOf g.type)) = some y) →
    ∃ ds : List D, ds.length = cells.go fs ∧ (∀ (j : Nat) (a : D) (u : Value), ds[j]? = some a → cs[off + j]? = some u → RepD (cellH W) a u) ∧ Ty.ok.okFs fs ds
  | [], [], off, _, n, cs, _, _ => ⟨[], rfl, fun j a u h => by simp at h, rfl⟩
  | f :: r, g :: s, off, hty, n, cs, hle, hf => by
    simp only [Ty.isT.isFs, Bool.and_eq_true, Nat.beq_eq] at hty
    obtain ⟨⟨h1, h2⟩, h3⟩ := hty
    simp only [cells.go] at hle
    obtain ⟨y, hy⟩ := hf 0 g rfl
    obtain ⟨d1, e1, e2, e3⟩ := openTy f g.type h2 n _ _ hy
    obtain ⟨d2, e4, e5, e6⟩ := openFs r s (off + cells f) h3 n cs (by omega) (fun k g' hg => hf (k + 1) g' (by simpa using hg))
    rw [h1, isT_cells h2] at e1 e2
    have hl1 : d1.length = cells f := by
      rw [← e1, List.length_take, List.length_drop]; omega
    refine ⟨d1 ++ d2, by simp [cells.go, hl1, e4], fun j a u ha hu => ?_, d1, d2, rfl, e3, e6⟩
    by_cases hj : j < d1.length
    · rw [List.getElem?_append_left hj] at ha
      refine e2 j a u ha ?_
      rw [List.getElem?_take, if_pos (by omega), List.getElem?_drop]; exact hu
    · rw [List.getElem?_append_right (by omega)] at ha
      refine e5 (j - d1.length) a u ha ?_
      rw [hl1, show off + cells f + (j - cells f) = off + j by omega]; exact hu
  | [], _ :: _, off, hty, _, _, _, _ => by simp [Ty.isT.isFs] at hty
  | _ :: _, [], off, hty, _, _, _, _ => by simp [Ty.isT.isFs] at hty
end

/-- What stands for an argument. -/
def firstAV : List D → AV
  | d :: _ => .d d
  | [] => .junk
def Ty.av : Ty → List D → AV
  | .st _, ds => .agg (ds.map .d)
  | _, ds => firstAV ds
/-- An argument, opened. -/
theorem openArg {b0 : Nat} {t : TypeId} (ty : Ty) {v : Value} {d : DataW H} {ps : List MemPlace} (hty : ty.isT P t = true) (hok : Value.okWide P W .any b0 t v) (h : DataW.Trod enc P W 0 (fun _ => true) true t v d ps) :
    ∃ ds, ty.ok ds ∧ ∀ γ, Rep γ (cellH W) (ty.av ds) v := by
  obtain ⟨n, hn⟩ := h
  obtain ⟨ds, hl, hr, hG⟩ := openTy ty t hty n _ _ hn
  refine ⟨ds, hG, fun γ => ?_⟩
  have single : v.cells.toList = [v] → Ty.av ty ds = firstAV ds → Rep γ (cellH W) (ty.av ds) v := fun hc he => by
    rw [he]
    rw [hc] at hl hr
    match ds, hl with
    | [a], _ => exact .d _ _ (hr 0 a v rfl rfl)
  cases ty with
  | st fs =>
    simp only [Ty.isT] at hty
    split at hty
    · next gs hu =>
      obtain ⟨cs, rfl, _⟩ := okWide_struct hu hok
      have := rep_map_d (γ := γ) (H := cellH W) (cs := ds) (us := cs.toList) (by simpa [Value.cells] using hl) (fun j a u ha hu => hr j a u ha (by simpa [Value.cells] using hu))
      simpa [Ty.av] using this
    · cases hty
  | int k =>
    simp only [Ty.isT, Bool.and_eq_true] at hty
    obtain ⟨h1, _⟩ := hty
    split at h1
    · next hu => obtain ⟨n, rfl⟩ := okWide_int hu hok; exact single rfl rfl
    · cases h1
  | bool =>
    simp only [Ty.isT, Bool.and_eq_true] at hty
    obtain ⟨h1, _⟩ := hty
    split at h1
    · next hu => obtain ⟨n, rfl⟩ := okWide_bool hu hok; exact single rfl rfl
    · cases h1
  | str =>
    simp only [Ty.isT, Bool.and_eq_true] at hty
    obtain ⟨h1, _⟩ := hty
    split at h1
    · next hu => obtain ⟨n, rfl⟩ := okWide_string hu hok; exact single rfl rfl
    · cases h1
  | sl e =>
    simp only [Ty.isT, Bool.and_eq_true] at hty
    obtain ⟨h1, _⟩ := hty
    split at h1
    · next hu => obtain ⟨a, l, c, rfl⟩ := okWide_slice hu hok; exact single rfl rfl
    · cases h1
/-- Rows whose elements are told by a shape. -/
theorem rowsOf {α : Type} {p : List D → Prop} {enc' : α → List D} {q : α → Prop} (h : ∀ cs, p cs → ∃ a, cs = enc' a ∧ q a) : ∀ {xs : List (List D)}, (∀ cs, cs ∈ xs → p cs) → ∃ l : List α, xs = l.map enc' ∧ ∀ a, a ∈ l → q a
  | [], _ => ⟨[], rfl, fun _ h => by simp at h⟩
  | c :: r, hx => by
    obtain ⟨a, rfl, ha⟩ := h c (hx c (by simp))
    obtain ⟨l, rfl, hl⟩ := rowsOf h (xs := r) fun cs hcs => hx cs (by simp [hcs])
    exact ⟨a :: l, rfl, fun b hb => by rcases List.mem_cons.1 hb with rfl | hb; exact ha; exact hl b hb⟩
end
theorem args_nil {γ : Ids} {H : HF} : ∀ (j : Nat) (a : AV) (u : Value), ([] : List AV)[j]? = some a → ([] : List Value)[j]? = some u → Rep γ H a u := fun j a u h => by simp at h
theorem args_cons {γ : Ids} {H : HF} {avs : List AV} {vs : List Value} {a0 : AV} {u0 : Value} (h0 : Rep γ H a0 u0) (h : ∀ (j : Nat) (a : AV) (u : Value), avs[j]? = some a → vs[j]? = some u → Rep γ H a u) :
    ∀ (j : Nat) (a : AV) (u : Value), (a0 :: avs)[j]? = some a → (u0 :: vs)[j]? = some u → Rep γ H a u := by
  intro j a u h1 h2
  cases j with
  | zero => simp at h1 h2; subst h1; subst h2; exact h0
  | succ j => exact h j a u (by simpa using h1) (by simpa using h2)
end Go.Gv
