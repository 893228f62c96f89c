/- Laws that the claim's text stands on: What is handed back privately, checked; a cell that holds nil as one that holds a row of a told type; A builder of text: a rune more; Rows as trees: going over them; their text; Rows as trees: the law's example; The law PtreeStays; Rows as trees: balance; what the reference says of a row; A replica's elements: what is there, where; A replica's elements: operations are applied; A replica's elements: the law's example; the law CoreFull; What the reference says of a row: letters, text, rank; Is a row the document's?; The reference's state of operations: has, wrong, place; The reference: why an operation can't be applied. -/
import Derived.Test.YtgphompfellloaaDoorM1
import Derived.Test.YtgphompfellloaaDoorM2
import Derived.Test.YtgphompfellloaaDoorM3
import Derived.Test.YtgphompfellloaaDoorDShelf
import Derived.Test.YtgphompfellloaaDoorM4
import Derived.Test.YtgphompfellloaaDoorM5
import Derived.Lib.RuneBytes
set_option linter.unusedVariables false
set_option linter.unusedSimpArgs false
section
namespace Go.Gv
open Go.RowKit
def qnL (f : AV → Option (List Nat)) : List AV → Option (List Nat)
  | [] => some []
  | a :: r => match f a, qnL f r with
    | some x, some y => some (x ++ y)
    | _, _ => none
def qn0 : AV → Option (List Nat)
  | .d _ => some []
  | .full _ _ => some []
  | .junk => some []
  | .box j _ => some [j]
  | .boxX j _ => some [j]
  | .arr j _ _ => some [j]
  | .suf j _ _ _ => some [j]
  | .mp j => some [j]
  | _ => none
def qn1 : AV → Option (List Nat)
  | .agg cs => qnL qn0 cs
  | .tup cs => qnL qn0 cs
  | .fnp _ cs => qnL qn0 cs
  | a => qn0 a
def qn2 : AV → Option (List Nat)
  | .agg cs => qnL qn1 cs
  | .tup cs => qnL qn1 cs
  | .fnp _ cs => qnL qn1 cs
  | a => qn0 a
theorem qnL_sound {f : AV → Option (List Nat)} {h : Nat → AV → Bool} (hf : ∀ {a l i}, f a = some l → h i a = true → i ∈ l) : ∀ {cs : List AV} {l : List Nat} {i : Nat}, qnL f cs = some l → cs.any (h i) = true → i ∈ l
  | [], _, _, _, ha => by simp at ha
  | a :: r, l, i, hn, ha => by
    simp only [qnL] at hn
    split at hn
    · next x y hx hy =>
      cases hn
      simp only [List.any_cons, Bool.or_eq_true] at ha
      rcases ha with ha | ha
      · exact List.mem_append.2 (.inl (hf hx ha))
      · exact List.mem_append.2 (.inr (qnL_sound hf hy ha))
    · cases hn
theorem qn0_sound {a : AV} {l : List Nat} {i : Nat} (h : qn0 a = some l) (hi : has0 i a = true) : i ∈ l := by
  cases a <;> simp [qn0, has0] at h hi <;> first | (subst h; simp_all) | simp_all
theorem qn1_sound {a : AV} {l : List Nat} {i : Nat} (h : qn1 a = some l) (hi : has1 i a = true) : i ∈ l := by
  cases a with
  | agg cs => exact qnL_sound (h := has0) (fun h k => qn0_sound h k) h hi
  | tup cs => exact qnL_sound (h := has0) (fun h k => qn0_sound h k) h hi
  | fnp f cs => exact qnL_sound (h := has0) (fun h k => qn0_sound h k) h hi
  | _ => simp only [qn1, has1] at h hi; exact qn0_sound h hi
theorem qn2_sound {a : AV} {l : List Nat} {i : Nat} (h : qn2 a = some l) (hi : has2 i a = true) : i ∈ l := by
  cases a with
  | agg cs => exact qnL_sound (h := has1) (fun h k => qn1_sound h k) h hi
  | tup cs => exact qnL_sound (h := has1) (fun h k => qn1_sound h k) h hi
  | fnp f cs => exact qnL_sound (h := has1) (fun h k => qn1_sound h k) h hi
  | _ => simp only [qn2, has2] at h hi; exact qn0_sound h hi
def entNm : Ent → Option (List Nat)
  | .cells cs => qnL qn2 cs
  | .cellsT _ cs => qnL qn2 cs
  | _ => some []
theorem entNm_sound {e : Ent} {l : List Nat} {i : Nat} (h : entNm e = some l) (hi : entHas i e = true) : i ∈ l := by
  cases e with
  | cells cs => exact qnL_sound (h := has2) (fun h k => qn2_sound h k) h hi
  | cellsT t cs => exact qnL_sound (h := has2) (fun h k => qn2_sound h k) h hi
  | _ => cases hi
def sgNm : Sg → Option (List Nat)
  | [] => some []
  | (_, e) :: r => match entNm e, sgNm r with
    | some x, some y => some (x ++ y)
    | _, _ => none
theorem sgNm_sound : ∀ {σ : Sg} {l : List Nat} {i j : Nat} {e : Ent}, sgNm σ = some l → look i σ = some e → entHas j e = true → j ∈ l
  | [], _, _, _, _, _, h, _ => by simp [look] at h
  | (k, f) :: r, l, i, j, e, hn, h, hj => by
    simp only [sgNm] at hn
    split at hn
    · next x y hx hy =>
      cases hn
      rw [look_cons] at h
      split at h
      · cases h; exact List.mem_append.2 (.inl (entNm_sound hx hj))
      · exact List.mem_append.2 (.inr (sgNm_sound hy h hj))
    · cases hn
def inSg (j : Nat) : Sg → Bool
  | [] => false
  | (k, _) :: r => Nat.beq j k || inSg j r
theorem inSg_look : ∀ {σ : Sg} {j : Nat}, inSg j σ = true → (look j σ).isSome = true
  | [], _, h => by cases h
  | (k, e) :: r, j, h => by
    rw [look_cons]
    split
    · rfl
    · next hne =>
      simp only [inSg, Bool.or_eq_true] at h
      rcases h with h | h
      · exact absurd (Nat.eq_of_beq_eq_true h) hne
      · exact inSg_look h
def closedOk (pin : List Nat) (r : AV) (σ : Sg) : Bool := match qn2 r, sgNm σ with
  | some a, some b => (a ++ b).all fun j => inSg j σ || pin.any (Nat.beq j)
  | _, _ => false
theorem closed_of {pin : List Nat} {r : AV} {σ : Sg} (h : closedOk pin r σ = true) : closedB pin r σ := by
  unfold closedOk at h
  split at h
  · next a b ha hb =>
    have key : ∀ j, j ∈ a ++ b → (look j σ).isSome = true ∨ j ∈ pin := fun j hj => by
      have := List.all_eq_true.1 h j hj
      rcases Bool.or_eq_true_iff.1 this with h | h
      · exact .inl (inSg_look h)
      · obtain ⟨k, hk, e⟩ := List.any_eq_true.1 h
        rw [Nat.eq_of_beq_eq_true e]; exact .inr hk
    exact ⟨fun j hj => key j (List.mem_append.2 (.inl (qn2_sound ha hj))), fun i e hi j hj => key j (List.mem_append.2 (.inr (sgNm_sound hb hi hj)))⟩
  · cases h
/-- Private things are handed back. -/
theorem FinP.priv {X : Cx} {σ : Sg} {r : AV} {Q : AV → Sg → Prop} (σ' : Sg) (hw : Wk σ' σ) (hc : closedOk X.pin r σ' = true) (k : Q r σ') : FinP X σ r Q := FinP.of σ' hw (closed_of hc) k
theorem mem_arrT0 {w : World} {H : HF} (hok : HOk H w) (γ : Ids) (i k : Nat) (e : TypeId) : Mem w H (fun _ => False) (upd γ i ⟨w.heap.size, 0, fun _ => False⟩) H [(i, .arrT e k [])] w := by
  have hE : ∀ j f, look j [(i, Ent.arrT e k [])] = some f → j = i ∧ f = .arrT e k [] := fun j f hj => by
    rw [look_cons] at hj
    split at hj
    · next e1 => cases hj; exact ⟨e1, rfl⟩
    · cases hj
  have hn : (upd γ i ⟨w.heap.size, 0, fun _ => False⟩ i).n = 0 := by rw [upd_same]
  have hnob : ∀ j f b, look j [(i, Ent.arrT e k [])] = some f → ¬ blk (upd γ i ⟨w.heap.size, 0, fun _ => False⟩) j f b := fun j f b hj hb => by
    obtain ⟨rfl, rfl⟩ := hE j f hj
    have := hb.2; rw [hn] at this; cases this
  exact ⟨Keeps.refl _ _, HLe.refl _, HNew.refl _ _ _, hok, fun j f hj => by
      obtain ⟨rfl, rfl⟩ := hE j f hj
      exact ⟨Nat.zero_le _, (by simp), fun h => by rw [hn] at h; cases h⟩,
    fun j f hj b hb => (hnob j f b hj hb).elim, fun j f hj b hb => (hnob j f b hj hb).elim, fun j f l f' b hj hl hb => (hnob j f b hj hb).elim⟩
/-- A variable's cell that holds nil, as one that holds a row of nothing, of a told type. -/
theorem SJ.nilCellT {X : Cx} {t : T} {σ : Sg} (i j off k : Nat) (et : TypeId) {cs : List AV} (hj : look j σ = some (.cells cs)) (ha : cs[off]? = some (.d (.v (.slice none 0 0)))) (hf : isFresh i t σ X.pin = true) : SJ X t σ t ((j, .cells (cs.set off (.arr i k 0))) :: (i, .arrT et k []) :: σ) := fun γ H a w s => by
  have key := s.new (d := none) (V := .junk) (v := undef) (n := 0) (mem_arrT0 s.mem.hok γ i k et) hf rfl (.junk _)
  have hij : j ≠ i := (fresh_s hf hj).1
  have hn : (upd γ i ⟨w.heap.size, 0, fun _ => False⟩ i).n = 0 := by rw [upd_same]
  have he := key.mem.ent j (.cells cs) (by rw [look_cons, if_neg hij]; exact hj)
  obtain ⟨tt, us, h1, h2, h3⟩ := he
  have hm : Mem X.w0 X.H0 X.B (upd γ i ⟨w.heap.size, 0, fun _ => False⟩) H ((j, .cells (cs.set off (.arr i k 0))) :: (i, .arrT et k []) :: σ) w := by
    have m := key.mem
    have hj' : look j ((i, Ent.arrT et k []) :: σ) = some (.cells cs) := by rw [look_cons, if_neg hij]; exact hj
    refine ⟨m.keep, m.hle, m.hnew, m.hok, fun l e hl => ?_, fun l e hl b hb => ?_, fun l e hl b hb => ?_, fun l e l' e' b hl hl' hb hb' => ?_⟩
    · rw [look_cons] at hl
      split at hl
      · next e1 =>
        subst e1; cases hl
        refine ⟨tt, us, h1, by simp [h2], fun p x u hx hu => ?_⟩
        rw [List.getElem?_set] at hx
        split at hx
        · next e2 =>
          subst e2
          split at hx
          · cases hx
            obtain rfl := rep_v (h3 off _ u ha hu)
            have := Rep.arr (γ := upd γ i ⟨w.heap.size, 0, fun _ => False⟩) (H := H) i k 0 none (Nat.zero_le _) (fun h => by rw [hn] at h; simp at h)
            rw [hn] at this; exact this
          · cases hx
        · exact h3 p x u hx hu
      · exact m.ent l e hl
    · rw [look_cons] at hl
      split at hl
      · next e1 => subst e1; cases hl; exact m.free _ _ hj' b hb
      · exact m.free l e hl b hb
    · rw [look_cons] at hl
      split at hl
      · next e1 => subst e1; cases hl; exact m.fresh _ _ hj' b hb
      · exact m.fresh l e hl b hb
    · have g : ∀ l e, look l ((j, Ent.cells (cs.set off (.arr i k 0))) :: (i, .arrT et k []) :: σ) = some e → ∀ b, blk (upd γ i ⟨w.heap.size, 0, fun _ => False⟩) l e b → ∃ f, look l ((i, Ent.arrT et k []) :: σ) = some f ∧ blk (upd γ i ⟨w.heap.size, 0, fun _ => False⟩) l f b := fun l e hl9 b hb9 => by
        rw [look_cons] at hl9
        split at hl9
        · next e1 => subst e1; cases hl9; exact ⟨_, hj', hb9⟩
        · exact ⟨e, hl9, hb9⟩
      obtain ⟨f, hf, hfb⟩ := g l e hl b hb
      obtain ⟨f', hf', hfb'⟩ := g l' e' hl' b hb'
      exact m.apart l f l' f' b hf hf' hfb hfb'
  refine ⟨_, H, key.lam, key.round, ?_, key.size, key.pinned, key.tmp, hm⟩
  obtain ⟨ms, g1, g2, g3⟩ := key.defers
  refine ⟨ms, g1, g2, fun b hb => ⟨(g3 b hb).1, (g3 b hb).2.1, fun ⟨l, e, hl, hbb⟩ => (g3 b hb).2.2 ?_⟩⟩
  rw [look_cons] at hl
  split at hl
  · next e1 => subst e1; cases hl; exact ⟨l, .cells cs, by rw [look_cons, if_neg hij]; exact hj, hbb⟩
  · exact ⟨l, e, hl, hbb⟩
end Go.Gv
namespace Go.Gv
open Go.RowKit
section samebox
variable {X : Cx} {d : Option Nat} {ty : TypeId} {pos : String} {aft : Array Edge} {g : Option (Nat × Bool)} {t : T} {σ : Sg}
theorem eqn_ptr3 {P : Program} {tt e : TypeId} {w : World} (n : Nat) {b o k : Nat} (hu : P.underlying tt = some (.pointer e)) (hs : szOf P e = some k) : (Op.equalIn (n + 1) tt (.pointer (some ⟨b, o, none⟩)) (.pointer (some ⟨b, o, none⟩))).run P w = .ok true w := by
  simp [Op.equalIn, underlying, hu, szOf_run hs, sameAddr]
/-- A pointer is itself. -/
theorem O.neSame {x y : Operand} {i off : Nat} {ot e yt : TypeId} (hx : ge t x = some (.box i off)) (hy : ge t y = some (.box i off)) {k : Nat} (hu : X.P.underlying ot = some (.pointer e)) (hs : szOf X.P e = some k) :
    QJ X ⟨d, .binOp .neq ot x y yt, ty, pos, aft, g⟩ t σ (.d (.v (.bool false))) :=
  QJ.value (by simp) (fun γ H a w so sm => by
    have h1 := rep_box rfl (so x (by simp [Op.operands]) _ hx)
    have h2 := rep_box rfl (so y (by simp [Op.operands]) _ hy)
    have he : ∀ w, (Op.equal ot (.pointer (some ⟨(γ i).b, off, none⟩)) (.pointer (some ⟨(γ i).b, off, none⟩))).run X.P w = .ok true w := fun w => equal_at.trans (eqn_ptr3 9999 hu hs)
    refine ⟨_, ?_, .d _ _ (.v _ rfl)⟩
    simp [execOp, h1, h2, eqGuard, binOp, he])
end samebox
end Go.Gv
namespace Go.Gv
open Go.RowKit
/-- A nil slice, as a row of nothing of a told type. -/
theorem SJ.nilArrT {X : Cx} {t : T} {σ : Sg} (i j k : Nat) (et : TypeId) (hj : look j t = some (.d (.v (.slice none 0 0)))) (hf : isFresh i t σ X.pin = true) : SJ X t σ ((j, .arr i k 0) :: t) ((i, .arrT et k []) :: σ) := fun γ H a w s => by
  have key := s.new (d := none) (V := .junk) (v := undef) (n := 0) (mem_arrT0 s.mem.hok γ i k et) hf rfl (.junk _)
  refine ⟨_, H, key.tmps fun l b hl => ?_⟩
  rw [look_cons] at hl
  split at hl
  · next e =>
    subst e
    simp only [Option.some.injEq] at hl; subst hl
    obtain ⟨u, hu, r⟩ := s.tmp _ _ hj
    obtain rfl := rep_v r
    refine ⟨_, hu, ?_⟩
    have := Rep.arr (γ := upd γ i ⟨w.heap.size, 0, fun _ => False⟩) (H := H) i k 0 none
    rw [upd_same] at this
    exact this (Nat.zero_le _) (fun h => by simp at h)
  · exact key.tmp l b hl
end Go.Gv
namespace Go.Gv
/-- What comes behind, told by name: where the kernel shall not look ahead. -/
inductive Sq (X : Cx) (b : Code) (Q : Qt) : Exit → T → Sg → Prop where
  | go {t : T} {σ : Sg} (h : WJ X b t σ Q) : Sq X b Q .normal t σ
  | out {e : Exit} {t : T} {σ : Sg} (he : e ≠ .normal) (h : Q e t σ) : Sq X b Q e t σ
theorem WJ.cut {X : Cx} {a b : Code} {t : T} {σ : Sg} {Q : Qt} (h : vc X a t σ (Sq X b Q)) : WJ X (.seq a b) t σ Q :=
  WJ.seq ((vc_sound a t σ _ h).mono fun e t σ q => by
    cases q with
    | go h => exact h
    | out he h => cases e <;> first | exact absurd rfl he | exact h)
theorem vL_nil {X : Cx} {all : Array Oper} {t : T} {σ : Sg} {Q : T → Sg → Prop} (h : Q t σ) : vL X all [] t σ Q := h
/-- A contract, region by region. -/
theorem Ct.of_wv {Λ : Amb} {P : Program} {f : FuncId} (fn : Func) {c : Code} {avs : List AV} {σ : Sg} {Q : AV → Sg → Prop} (hf : P.funcs[f]? = some fn) (hb : fn.body = some c)
    (hl : Nat.ble avs.length fn.ntmps = true)
    (h : ∀ w H B g0, WJ ⟨P, Λ, none, w, H, B, fn.ntmps, pinsOf σ, g0⟩ c (numbered 0 avs) σ (vRet ⟨P, Λ, none, w, H, B, fn.ntmps, pinsOf σ, g0⟩ fn Q)) : Ct Λ P f avs σ Q :=
  Ct.of_wj fn.ntmps hf hb rfl (Nat.le_of_ble_eq_true hl) fun w H B g0 => (h w H B g0).mono fun _ _ _ q => vRet_sound q
end Go.Gv
end
section
open Go Go.Gv
attribute [local irreducible] Go.Gv.WJ Go.Gv.OpJ Go.Gv.QJ Go.Gv.Spl Go.Gv.Req Go.Gv.IdxP Go.Gv.RegP Go.Gv.FinP Go.Gv.CellP Go.Gv.CellsP Go.Gv.ArrP Go.Gv.ArrsP Go.Gv.DropP Go.Gv.ByteP Go.Gv.StoreP
set_option maxRecDepth 100000
namespace Go.Proofs.E
abbrev Du (n : Int) : List D := [.v (.int .u8 n)]
def shr6 (r : Int) (k : Nat) : Int := r / 2 ^ k
theorem wrap_u32 (x : Int) (h : 0 ≤ x) (h' : x < 4294967296) : IntKind.u32.wrap x = x := by
  simp only [IntKind.wrap, IntKind.signed, IntKind.bits]; simp; omega
theorem wrap_u32n (x : Int) (h : -2147483648 ≤ x) (h' : x < 0) : IntKind.u32.wrap x = x + 4294967296 := by
  simp only [IntKind.wrap, IntKind.signed, IntKind.bits]; simp; omega
theorem wrap_u8' (x : Int) : IntKind.u8.wrap x = x % 256 := by
  simp only [IntKind.wrap, IntKind.signed, IntKind.bits]; simp
theorem or192 : ∀ k : Fin 32, orI .u8 192 (k.val : Int) = 192 + k.val := by decide
theorem or224 : ∀ k : Fin 16, orI .u8 224 (k.val : Int) = 224 + k.val := by decide
theorem or240 : ∀ k : Fin 8, orI .u8 240 (k.val : Int) = 240 + k.val := by decide
theorem or128 : ∀ k : Fin 64, orI .u8 128 (k.val : Int) = 128 + k.val := by decide
theorem and63 : ∀ k : Fin 256, andI .u8 (k.val : Int) 63 = ((k.val % 64 : Nat) : Int) := by decide +kernel
theorem shr_i32 (r : Int) (k : Nat) (h0 : 0 ≤ r) (hk : k < 32) : shrI .i32 r ((k : Nat) : Int) = r / 2 ^ k := by
  unfold shrI
  have e : min ((k : Nat) : Int).toNat IntKind.i32.bits = k := by
    show min ((k : Nat) : Int).toNat 32 = k
    simp; omega
  rw [e, Int.fdiv_eq_ediv_of_nonneg _ (Int.pow_nonneg (by decide))]
theorem lead (b : Int) (m : Nat) (r : Int) (k : Nat) (hor : ∀ j : Fin m, orI .u8 b (j.val : Int) = b + j.val) (h0 : 0 ≤ r) (hr : r ≤ 2147483647) (hk : k < 32) (hm : m ≤ 256) (h : r / 2 ^ k < m) : orI .u8 b (IntKind.u8.wrap (shrI .i32 r ((k : Nat) : Int))) = b + r / 2 ^ k := by
  have h1 : 0 ≤ r / 2 ^ k := Int.ediv_nonneg h0 (Int.pow_nonneg (by decide))
  rw [shr_i32 r k h0 hk, wrap_u8', Int.emod_eq_of_lt h1 (by omega)]
  have := hor ⟨(r / 2 ^ k).toNat, by omega⟩
  simp only at this
  rw [Int.toNat_of_nonneg h1] at this
  exact this
theorem tail6 (r : Int) (h0 : 0 ≤ r) : orI .u8 128 (andI .u8 (IntKind.u8.wrap r) 63) = 128 + r % 64 := by
  have h1 := and63 ⟨(r % 256).toNat, by omega⟩
  simp only at h1
  rw [Int.toNat_of_nonneg (by omega)] at h1
  rw [wrap_u8', h1]
  have h2 := or128 ⟨(r % 256).toNat % 64, by omega⟩
  simp only at h2
  rw [h2]; omega
theorem tailk (r : Int) (k : Nat) (h0 : 0 ≤ r) (hr : r ≤ 2147483647) (hk : k < 32) : orI .u8 128 (andI .u8 (IntKind.u8.wrap (shrI .i32 r ((k : Nat) : Int))) 63) = 128 + r / 2 ^ k % 64 := by
  have h1 : 0 ≤ r / 2 ^ k := Int.ediv_nonneg h0 (Int.pow_nonneg (by decide))
  have h2 : r / 2 ^ k ≤ r := Int.ediv_le_self _ h0
  rw [shr_i32 r k h0 hk, tail6 _ h1]
abbrev rowB (xs : List Int) : Ent := .arrT 5 1 (xs.map Du)
theorem rowB_app (xs ys : List Int) : Ent.arrT 5 1 (xs.map Du ++ ys.map Du) = rowB (xs ++ ys) := by rw [rowB, List.map_append]
theorem lenB {xs : List Int} {n : Nat} (h : xs.length = n) : (xs.map Du).length = n := by rw [List.length_map]; exact h
theorem appNon_c (n : Nat) (xs : List Int) (r : Int) (hr0 : -2147483648 ≤ r) (hr1 : r ≤ 2147483647) (hn : xs.length = n) (hl : n ≤ 900000000) (hna : ¬ (0 ≤ r ∧ r ≤ 127)) :
    Ct tab Tryd.prog 98 [.arr 1000 1 n, cv' r] [(1000, rowB xs)] (fun q σ' => q = .arr 1000 1 (n + (Lib.encodeRuneZ r).length) ∧ σ' = [(1000, rowB (xs ++ Lib.encodeRuneZ r))]) := by
  have hu : IntKind.u32.wrap r = if r < 0 then r + 4294967296 else r := by
    split
    · exact wrap_u32n r hr0 (by assumption)
    · exact wrap_u32 r (by omega) (by omega)
  have a2 : 0 ≤ r → orI .u8 128 (andI .u8 (IntKind.u8.wrap r) 63) = 128 + r % 64 := tail6 r
  have a6 : 0 ≤ r → orI .u8 128 (andI .u8 (IntKind.u8.wrap (shrI .i32 r 6)) 63) = 128 + r / 64 % 64 := fun h => tailk r 6 h hr1 (by decide)
  have a12 : 0 ≤ r → orI .u8 128 (andI .u8 (IntKind.u8.wrap (shrI .i32 r 12)) 63) = 128 + r / 4096 % 64 := fun h => tailk r 12 h hr1 (by decide)
  have three : ((2048 ≤ r ∧ r < 55296) ∨ (57343 < r ∧ r ≤ 65535)) → orI .u8 224 (IntKind.u8.wrap (shrI .i32 r 12)) = 224 + r / 4096 := fun h => lead 224 16 r 12 or224 (by omega) hr1 (by decide) (by decide) (by omega)
  have bad : r < 0 ∨ (55296 ≤ r ∧ r ≤ 57343) ∨ 1114111 < r → Lib.encodeRuneZ r = [239, 191, 189] := Lib.encodeRuneZ_bad
  refine Ct.of_vc Tryd.f98 Tryd.func98 rfl rfl fun w H B g0 => ?_
  refine Spl.of (fun h => ?_) (fun h => ?_)
  · have h := of_decide_eq_true h
    rw [hu] at h
    have hr : 128 ≤ r ∧ r ≤ 2047 := by split at h <;> omega
    have e := Lib.encodeRuneZ_two hr.1 hr.2
    have a1 : orI .u8 192 (IntKind.u8.wrap (shrI .i32 r 6)) = 192 + r / 64 := lead 192 32 r 6 or192 (by omega) hr1 (by decide) (by decide) (by omega)
    have a2 := a2 (by omega)
    (repeat (first | refine Spl.t rfl ?_ | refine Spl.f rfl ?_))
    refine Req.of (by decide) ?_
    (refine O.appT rfl rfl rfl rfl rfl rfl rfl rfl (lenB hn) (show n + 2 ≤ 1000000000 by omega) ?_)
    (refine FinP.priv [(1000, rowB (xs ++ Lib.encodeRuneZ r))] (Wk.cons ?_ (Wk.nil _)) rfl ⟨?_, rfl⟩)
    · rw [e]; show some (Ent.arrT _ 1 (xs.map Du ++ [Du _, Du _])) = _; rw [a1, a2]; exact congrArg some (rowB_app xs [_, _])
    · rw [e]; rfl
  · have h := of_decide_eq_false h
    rw [hu] at h
    refine Spl.of (fun h2 => ?_) (fun h2 => ?_)
    · have h2o := h2
      have h2 := of_decide_eq_true h2
      rw [hu] at h2
      (repeat (first | refine Spl.t rfl ?_ | refine Spl.f rfl ?_))
      refine Spl.t h2o ?_
      have hr : (2048 ≤ r ∧ r < 55296) ∨ (57343 < r ∧ r ≤ 65535) := by split at h <;> split at h2 <;> omega
      (have e := Lib.encodeRuneZ_three hr; have a1 := three hr; have a2 := a2 (by omega); have a6 := a6 (by omega); (repeat (first | refine Spl.t rfl ?_ | refine Spl.f rfl ?_)); refine Req.of (by decide) ?_; refine Req.of (by decide) ?_; (refine O.appT rfl rfl rfl rfl rfl rfl rfl rfl (lenB hn) (show n + 3 ≤ 1000000000 by omega) ?_); (refine FinP.priv [(1000, rowB (xs ++ Lib.encodeRuneZ r))] (Wk.cons ?_ (Wk.nil _)) rfl ⟨?_, rfl⟩); (rw [e]; show some (Ent.arrT _ 1 (xs.map Du ++ [Du _, Du _, Du _])) = _; rw [a1, a2, a6]; exact congrArg some (rowB_app xs [_, _, _])); (rw [e]; rfl))
    · have h2 := of_decide_eq_false h2
      rw [hu] at h2
      refine Spl.of (fun h3 => ?_) (fun h3 => ?_)
      · have h3 := of_decide_eq_true h3
        rw [hu] at h3
        (repeat (first | refine Spl.t rfl ?_ | refine Spl.f rfl ?_))
        refine Spl.of (fun h4 => ?_) (fun h4 => ?_)
        · have h4 := of_decide_eq_true h4
          rw [hu] at h4
          have hr : (2048 ≤ r ∧ r < 55296) ∨ (57343 < r ∧ r ≤ 65535) := by split at h <;> split at h2 <;> split at h3 <;> split at h4 <;> omega
          (have e := Lib.encodeRuneZ_three hr; have a1 := three hr; have a2 := a2 (by omega); have a6 := a6 (by omega); (repeat (first | refine Spl.t rfl ?_ | refine Spl.f rfl ?_)); refine Req.of (by decide) ?_; refine Req.of (by decide) ?_; (refine O.appT rfl rfl rfl rfl rfl rfl rfl rfl (lenB hn) (show n + 3 ≤ 1000000000 by omega) ?_); (refine FinP.priv [(1000, rowB (xs ++ Lib.encodeRuneZ r))] (Wk.cons ?_ (Wk.nil _)) rfl ⟨?_, rfl⟩); (rw [e]; show some (Ent.arrT _ 1 (xs.map Du ++ [Du _, Du _, Du _])) = _; rw [a1, a2, a6]; exact congrArg some (rowB_app xs [_, _, _])); (rw [e]; rfl))
        · have h4 := of_decide_eq_false h4
          rw [hu] at h4
          refine Spl.of (fun h5 => ?_) (fun h5 => ?_)
          · have h5 := of_decide_eq_true h5
            rw [hu] at h5
            (repeat (first | refine Spl.t rfl ?_ | refine Spl.f rfl ?_))
            refine Spl.of (fun h6 => ?_) (fun h6 => ?_)
            · have h6 := of_decide_eq_true h6
              rw [hu] at h6
              have hr : 65536 ≤ r ∧ r ≤ 1114111 := by split at h5 <;> split at h6 <;> omega
              have e := Lib.encodeRuneZ_four hr.1 hr.2
              have a1 : orI .u8 240 (IntKind.u8.wrap (shrI .i32 r 18)) = 240 + r / 262144 := lead 240 8 r 18 or240 (by omega) hr1 (by decide) (by decide) (by omega)
              have a2 := a2 (by omega)
              have a6 := a6 (by omega)
              have a12 := a12 (by omega)
              (repeat (first | refine Spl.t rfl ?_ | refine Spl.f rfl ?_))
              refine Req.of (by decide) ?_
              refine Req.of (by decide) ?_
              refine Req.of (by decide) ?_
              (refine O.appT rfl rfl rfl rfl rfl rfl rfl rfl (lenB hn) (show n + 4 ≤ 1000000000 by omega) ?_)
              (refine FinP.priv [(1000, rowB (xs ++ Lib.encodeRuneZ r))] (Wk.cons ?_ (Wk.nil _)) rfl ⟨?_, rfl⟩)
              · rw [e]; show some (Ent.arrT _ 1 (xs.map Du ++ [Du _, Du _, Du _, Du _])) = _; rw [a1, a2, a6, a12]; exact congrArg some (rowB_app xs [_, _, _, _])
              · rw [e]; rfl
            · have h6 := of_decide_eq_false h6
              rw [hu] at h6
              (have e := bad (by omega); (repeat (first | refine Spl.t rfl ?_ | refine Spl.f rfl ?_)); (refine O.appT rfl rfl rfl rfl rfl rfl rfl rfl (lenB hn) (show n + 3 ≤ 1000000000 by omega) ?_); (refine FinP.priv [(1000, rowB (xs ++ Lib.encodeRuneZ r))] (Wk.cons ?_ (Wk.nil _)) rfl ⟨?_, rfl⟩); (rw [e]; show some (Ent.arrT _ 1 (xs.map Du ++ [Du _, Du _, Du _])) = _; exact congrArg some (rowB_app xs [_, _, _])); (rw [e]; rfl))
          · have h5 := of_decide_eq_false h5
            rw [hu] at h5
            exfalso; split at h5 <;> split at h4 <;> omega
      · have h3 := of_decide_eq_false h3
        rw [hu] at h3
        (repeat (first | refine Spl.t rfl ?_ | refine Spl.f rfl ?_))
        have hs : 55296 ≤ r ∧ r ≤ 57343 := by split at h2 <;> split at h3 <;> omega
        refine Spl.f (decide_eq_false (by rw [hu]; split <;> omega)) ?_
        (have e := bad (by omega); (repeat (first | refine Spl.t rfl ?_ | refine Spl.f rfl ?_)); (refine O.appT rfl rfl rfl rfl rfl rfl rfl rfl (lenB hn) (show n + 3 ≤ 1000000000 by omega) ?_); (refine FinP.priv [(1000, rowB (xs ++ Lib.encodeRuneZ r))] (Wk.cons ?_ (Wk.nil _)) rfl ⟨?_, rfl⟩); (rw [e]; show some (Ent.arrT _ 1 (xs.map Du ++ [Du _, Du _, Du _])) = _; exact congrArg some (rowB_app xs [_, _, _])); (rw [e]; rfl))
theorem apRune_c (n : Nat) (xs : List Int) (r : Int) (hr0 : -2147483648 ≤ r) (hr1 : r ≤ 2147483647) (hn : xs.length = n) (hl : n ≤ 900000000) :
    Ct tab Tryd.prog 67 [.arr 1000 1 n, cv' r] [(1000, rowB xs)] (fun q σ' => q = .arr 1000 1 (n + (Lib.encodeRuneZ r).length) ∧ σ' = [(1000, rowB (xs ++ Lib.encodeRuneZ r))]) := by
  refine Ct.of_vc Tryd.f67 Tryd.func67 rfl rfl fun w H B g0 => ?_
  refine Spl.of (fun h => ?_) (fun h => ?_)
  · have h := of_decide_eq_true h
    have hr : 0 ≤ r ∧ r ≤ 127 := by
      by_cases h2 : r < 0
      · rw [wrap_u32n r hr0 h2] at h; omega
      · rw [wrap_u32 r (by omega) (by omega)] at h; omega
    have e := Lib.encodeRuneZ_one hr.1 hr.2
    have a1 : IntKind.u8.wrap r = r := by rw [wrap_u8', Int.emod_eq_of_lt hr.1 (by omega)]
    (repeat (first | refine Spl.t rfl ?_ | refine Spl.f rfl ?_))
    (refine O.appT rfl rfl rfl rfl rfl rfl rfl rfl (lenB hn) (show n + 1 ≤ 1000000000 by omega) ?_)
    (refine FinP.priv [(1000, rowB (xs ++ Lib.encodeRuneZ r))] (Wk.cons ?_ (Wk.nil _)) rfl ⟨?_, rfl⟩)
    · rw [e]; show some (Ent.arrT _ 1 (xs.map Du ++ [Du _])) = _; rw [a1]; exact congrArg some (rowB_app xs [_])
    · rw [e]; rfl
  · have h := of_decide_eq_false h
    have hr : ¬ (0 ≤ r ∧ r ≤ 127) := fun h2 => by rw [wrap_u32 r (by omega) (by omega)] at h; omega
    (repeat (first | refine Spl.t rfl ?_ | refine Spl.f rfl ?_))
    refine OpJ.callD [1000] (appNon_c n xs r hr0 hr1 hn hl hr) (fun _ _ => rfl) rfl rfl (Wk.cons rfl (Wk.nil _)) ?_
    rintro q σ' ⟨rfl, rfl⟩
    refine ⟨rfl, ?_⟩
    exact FinP.priv [(1000, rowB (xs ++ Lib.encodeRuneZ r))] (Wk.cons rfl (Wk.nil _)) rfl ⟨rfl, rfl⟩
/-- A builder: new, or holding bytes. -/
abbrev bld0 : Sg := [(3, .cellsT 93 [.d (.v (.pointer none)), .d (.v (.slice none 0 0))])]
abbrev bldE : Sg := [(3, .cells [.box 3 0, .d (.v (.slice none 0 0))])]
abbrev bldS (xs : List Int) : Sg := [(3, .cells [.box 3 0, .arr 1000 1 xs.length]), (1000, rowB xs)]
theorem copy0_c : Ct tab Tryd.prog 66 [.box 3 0] bld0 (fun q σ' => q = .tup [] ∧ σ' = bldE) := by
  refine Ct.of_vc Tryd.f66 Tryd.func66 rfl rfl fun w H B g0 => ?_
  refine OpJ.qu (O.load1T rfl rfl rfl rfl rfl) rfl ?_
  (repeat (first | refine Spl.t rfl ?_ | refine Spl.f rfl ?_))
  refine OpJ.qu (O.toUnsafe rfl rfl rfl rfl rfl (show (2 : Nat) ≠ 0 by decide) (show 0 < 2 by decide)) rfl ?_
  refine OpJ.qu (O.noEscape rfl rfl rfl rfl rfl rfl) rfl ?_
  refine OpJ.qu (O.fromUnsafe rfl rfl rfl rfl rfl (by show liesAt Tryd.prog Tryd.prog.depth 93 (2 / Tryd.prog.cellsOf 93) 0 93 1 = true; kernel_rfl)) rfl ?_
  refine OpJ.shift (SJ.untype 3 rfl) (eff_sound ?_)
  exact FinP.priv bldE (Wk.cons rfl (Wk.nil _)) rfl ⟨rfl, rfl⟩
theorem copyS_c (xs : List Int) : Ct tab Tryd.prog 66 [.box 3 0] (bldS xs) (fun q σ' => q = .tup [] ∧ σ' = bldS xs) := by
  refine Ct.of_vc Tryd.f66 Tryd.func66 rfl rfl fun w H B g0 => ?_
  (repeat (first | refine Spl.t rfl ?_ | refine Spl.f rfl ?_))
  refine OpJ.qu (O.neSame rfl rfl rfl rfl) rfl ?_
  (repeat (first | refine Spl.t rfl ?_ | refine Spl.f rfl ?_))
  exact FinP.priv (bldS xs) (Wk.cons rfl (Wk.cons rfl (Wk.nil _))) rfl ⟨rfl, rfl⟩
end Go.Proofs.E
end
section
open Go Go.Gv
attribute [local irreducible] Go.Gv.WJ Go.Gv.OpJ Go.Gv.QJ Go.Gv.Spl Go.Gv.Req Go.Gv.IdxP Go.Gv.RegP Go.Gv.FinP Go.Gv.CellP Go.Gv.CellsP Go.Gv.ArrP Go.Gv.ArrsP Go.Gv.DropP Go.Gv.ByteP Go.Gv.StoreP
set_option maxRecDepth 100000
namespace Go.Proofs.E
theorem wl (r : Int) (n : Nat) (hn : n ≤ 900000000) : AV.tup [iv (Lib.encodeRuneZ r).length, .d (.v .nilIface)] = AV.tup [iv (IntKind.i64.wrap (((n + (Lib.encodeRuneZ r).length : Nat) : Int) - (n : Int))), .d (.v .nilIface)] := by
  have h := Lib.encodeRuneZ_length r
  rw [wrap_id _ (by omega) (by omega), show ((n + (Lib.encodeRuneZ r).length : Nat) : Int) - (n : Int) = ((Lib.encodeRuneZ r).length : Int) by omega]
theorem rune0_c (r : Int) (hr0 : -2147483648 ≤ r) (hr1 : r ≤ 2147483647) : Ct tab Tryd.prog 39 [.box 3 0, cv' r] bld0 (fun q σ' => q = .tup [iv (Lib.encodeRuneZ r).length, .d (.v .nilIface)] ∧ σ' = bldS (Lib.encodeRuneZ r)) := by
  refine Ct.of_wv Tryd.f39 Tryd.func39 rfl rfl fun w H B g0 => ?_
  try refine WJ.cut ?_
  (first | refine Sq.go ?_ | refine vL_nil (Sq.go ?_) | skip)
  try refine WJ.cut ?_
  refine OpJ.call copy0_c (fun _ _ => rfl) rfl rfl (Wk.cons rfl (Wk.nil _)) ?_
  rintro q σ' ⟨rfl, rfl⟩
  refine ⟨rfl, ?_⟩
  (first | refine Sq.go ?_ | refine vL_nil (Sq.go ?_) | skip)
  try refine WJ.cut ?_
  (first | refine Sq.go ?_ | refine vL_nil (Sq.go ?_) | skip)
  try refine WJ.cut ?_
  refine OpJ.shift (SJ.nilArrT 1000 18 1 5 rfl rfl) ?_
  refine OpJ.callD [1000] (apRune_c 0 [] r hr0 hr1 rfl (by decide)) (fun _ _ => rfl) rfl rfl (Wk.cons rfl (Wk.nil _)) ?_
  rintro q σ' ⟨rfl, rfl⟩
  refine ⟨rfl, ?_⟩
  (first | refine Sq.go ?_ | refine vL_nil (Sq.go ?_) | skip)
  try refine vc_sound _ _ _ _ ?_
  refine FinP.priv (bldS (Lib.encodeRuneZ r)) (Wk.cons ?_ (Wk.cons rfl (Wk.nil _))) rfl ⟨?_, rfl⟩
  · rw [Nat.zero_add]; rfl
  · have e := wl r 0 (by decide)
    rw [Nat.zero_add] at e ⊢
    rw [e]; rfl
theorem runeS_c (xs : List Int) (r : Int) (hr0 : -2147483648 ≤ r) (hr1 : r ≤ 2147483647) (hl : xs.length ≤ 900000000) : Ct tab Tryd.prog 39 [.box 3 0, cv' r] (bldS xs) (fun q σ' => q = .tup [iv (Lib.encodeRuneZ r).length, .d (.v .nilIface)] ∧ σ' = bldS (xs ++ Lib.encodeRuneZ r)) := by
  refine Ct.of_wv Tryd.f39 Tryd.func39 rfl rfl fun w H B g0 => ?_
  try refine WJ.cut ?_
  (first | refine Sq.go ?_ | refine vL_nil (Sq.go ?_) | skip)
  try refine WJ.cut ?_
  refine OpJ.call (copyS_c xs) (fun _ _ => rfl) rfl rfl (Wk.cons rfl (Wk.cons rfl (Wk.nil _))) ?_
  rintro q σ' ⟨rfl, rfl⟩
  refine ⟨rfl, ?_⟩
  (first | refine Sq.go ?_ | refine vL_nil (Sq.go ?_) | skip)
  try refine WJ.cut ?_
  (first | refine Sq.go ?_ | refine vL_nil (Sq.go ?_) | skip)
  try refine WJ.cut ?_
  refine OpJ.callD [1000] (apRune_c xs.length xs r hr0 hr1 rfl hl) (fun _ _ => rfl) rfl rfl (Wk.cons rfl (Wk.nil _)) ?_
  rintro q σ' ⟨rfl, rfl⟩
  refine ⟨rfl, ?_⟩
  (first | refine Sq.go ?_ | refine vL_nil (Sq.go ?_) | skip)
  try refine vc_sound _ _ _ _ ?_
  refine FinP.priv (bldS (xs ++ Lib.encodeRuneZ r)) (Wk.cons ?_ (Wk.cons rfl (Wk.nil _))) rfl ⟨?_, rfl⟩
  · rw [List.length_append]; rfl
  · rw [wl r xs.length hl]; rfl
def byt (xs : List Int) : List UInt8 := xs.map fun n => UInt8.ofNat n.toNat
theorem bytesOf_du : ∀ xs : List Int, bytesOf (xs.map Du) = some xs
  | [] => rfl
  | x :: xs => by rw [List.map_cons, bytesOf, bytesOf_du xs]
theorem str0_c : Ct tab Tryd.prog 40 [.box 3 0] bld0 (fun q σ' => q = sv [] ∧ σ' = []) := by
  refine Ct.of_vc Tryd.f40 Tryd.func40 rfl rfl fun w H B g0 => ?_
  refine RegP.mix 10 rfl (by decide +kernel) ?_
  refine QuietP.of (O.load1T rfl rfl rfl rfl rfl) ?_
  refine QuietP.of (O.sliceDataNil rfl) ?_
  refine QuietP.of (O.load1T rfl rfl rfl rfl rfl) ?_
  (repeat' (refine And.intro ?_ ?_))
  refine OpJ.qu (O.unsafeStrNil rfl rfl) rfl ?_
  exact FinP.open rfl ⟨rfl, rfl⟩
theorem strS_c (xs : List Int) (h0 : 0 < xs.length) (hl : xs.length ≤ 900000000) (hb : ∀ k, k ∈ xs → 0 ≤ k ∧ k < 256) : Ct tab Tryd.prog 40 [.box 3 0] (bldS xs) (fun q σ' => q = sv (byt xs) ∧ σ' = []) := by
  refine Ct.of_vc Tryd.f40 Tryd.func40 rfl rfl fun w H B g0 => ?_
  refine RegP.mix 10 rfl (by decide +kernel) ?_
  refine QuietP.of (O.sliceData rfl h0) ?_
  (repeat' (refine And.intro ?_ ?_))
  refine O.unsafeStr rfl rfl rfl (bytesOf_du xs) hb (by rw [List.length_map]) h0 (by omega) rfl rfl rfl ?_
  exact FinP.open rfl ⟨rfl, rfl⟩
/-- The elements of a part, each with its place. -/
def itsL : Nat → List EL → List (Nat × EL)
  | _, [] => []
  | n, e :: r => (n, e) :: itsL (n + 1) r
theorem itsL_app : ∀ (A B : List EL) (n : Nat), itsL n (A ++ B) = itsL n A ++ itsL (n + A.length) B
  | [], B, n => by simp [itsL]
  | e :: A, B, n => by
    rw [List.cons_append, itsL, itsL_app A B (n + 1), itsL, List.length_cons, List.cons_append, show n + 1 + A.length = n + (A.length + 1) by omega]
theorem itsL_len : ∀ (A : List EL) (n : Nat), (itsL n A).length = A.length
  | [], _ => rfl
  | e :: A, n => by rw [itsL, List.length_cons, itsL_len A, List.length_cons]
theorem itsL_get : ∀ (A : List EL) (n i : Nat), (itsL n A)[i]? = (A[i]?).map fun e => (n + i, e)
  | [], _, i => by simp [itsL]
  | e :: A, n, 0 => by simp [itsL]
  | e :: A, n, i + 1 => by rw [itsL, List.getElem?_cons_succ, List.getElem?_cons_succ, itsL_get A (n + 1) i]; congr 1; funext e; congr 1; omega
abbrev itA (x : Nat × EL) : List AV := [iv x.1, elv x.2]
theorem closed_resE {pin : List Nat} {ρ : Res} {s : ρ.S} {r : AV} (h : r.open = true) : closedB pin r [(0, .res ρ s)] := by
  refine ⟨fun j hj => (by rw [has2_open h] at hj; cases hj), fun i e hi j hj => ?_⟩
  rw [look_cons] at hi
  by_cases h : i = 0
  · rw [if_pos h] at hi; cases hi; cases hj
  · rw [if_neg h] at hi; cases hi
theorem twalk_c : ∀ (t : TR) (n : Nat), n + t.size ≤ 900000 → ∀ (ρ : Res), ρ.P = Tryd.prog → ρ.Λ = tab → ∀ s, Gv.Can ρ s ((itsL n t.els).map itA) →
    Ct tab Tryd.prog 38 [.d t.d, iv n, .d (.v ρ.fv)] [(0, .res ρ s)] (fun q σ' => ∃ b s', Feeds ρ s ((itsL n t.els).map itA) b s' ∧ q = bv b ∧ σ' = [(0, .res ρ s')])
  | .nil, n, hn, ρ, hP, hΛ, s, hc => by
    refine Ct.of_vc Tryd.f38 Tryd.func38 rfl rfl fun w H B g0 => ?_
    (repeat (first | refine Spl.t rfl ?_ | refine Spl.f rfl ?_))
    exact FinP.of [(0, .res ρ s)] (Wk.cons rfl (Wk.nil _)) (closed_resE rfl) ⟨true, s, .nil _, rfl, rfl⟩
  | .node l x r, n, hn, ρ, hP, hΛ, s, hc => by
    simp only [TR.size] at hn
    have hl := TR.els_len l
    rw [TR.els, itsL_app, itsL, hl, List.map_append, List.map_cons] at hc ⊢
    have hc1 := Gv.Can.app hc
    have ihl := twalk_c l n (by omega) ρ hP hΛ s hc1.1
    have e1 : IntKind.i64.wrap ((n : Int) + (l.size : Int)) = ((n + l.size : Nat) : Int) := by rw [wrap_id _ (by omega) (by omega)]; omega
    have e2 : IntKind.i64.wrap (IntKind.i64.wrap ((n : Int) + (l.size : Int)) + 1) = ((n + l.size + 1 : Nat) : Int) := by rw [e1, wrap_id _ (by omega) (by omega)]; omega
    refine Ct.of_wv Tryd.f38 Tryd.func38 rfl rfl fun w H B g0 => ?_
    try refine WJ.cut ?_
    (first | refine Sq.go ?_ | refine vL_nil (Sq.go ?_) | skip)
    try refine WJ.cut ?_
    (repeat (first | refine Spl.t rfl ?_ | refine Spl.f rfl ?_))
    (first | refine Sq.go ?_ | refine vL_nil (Sq.go ?_) | skip)
    try refine WJ.cut ?_
    refine OpJ.callV (size_c l) (fun _ _ => rfl) rfl rfl rfl ?_
    (first | refine Sq.go ?_ | refine vL_nil (Sq.go ?_) | skip)
    try refine WJ.cut ?_
    refine OpJ.call ihl (fun _ _ => rfl) rfl rfl (Wk.cons rfl (Wk.nil _)) ?_
    rintro qv σ' ⟨b, s1, hf, rfl, rfl⟩
    refine ⟨rfl, ?_⟩
    cases b with
    | false =>
      (repeat (first | refine Spl.t rfl ?_ | refine Spl.f rfl ?_))
      (first | refine Sq.go ?_ | refine vL_nil (Sq.go ?_) | skip)
      try refine vc_sound _ _ _ _ ?_
      exact FinP.of [(0, .res ρ s1)] (Wk.cons rfl (Wk.nil _)) (closed_resE rfl) ⟨false, s1, hf.cut _, rfl, rfl⟩
    | true =>
      have hc2 := hc1.2 s1 hf
      (repeat (first | refine Spl.t rfl ?_ | refine Spl.f rfl ?_))
      refine OpJ.callRes (j := 0) (ρ := ρ) (st := s1) (avs := itA (n + l.size, x)) hP hΛ rfl rfl (by show _ = some [iv ((n + l.size : Nat) : Int), elv x]; rw [← e1]; rfl) rfl rfl rfl hc2.1 fun b s2 hs => ?_
      cases b with
      | false =>
        (repeat (first | refine Spl.t rfl ?_ | refine Spl.f rfl ?_))
        (first | refine Sq.go ?_ | refine vL_nil (Sq.go ?_) | skip)
        try refine vc_sound _ _ _ _ ?_
        exact FinP.of [(0, .res ρ s2)] (Wk.cons rfl (Wk.nil _)) (closed_resE rfl) ⟨false, s2, hf.app (.stop hs), rfl, rfl⟩
      | true =>
        have ihr := twalk_c r (n + l.size + 1) (by omega) ρ hP hΛ s2 (hc2.2 s2 hs)
        (repeat (first | refine Spl.t rfl ?_ | refine Spl.f rfl ?_))
        refine OpJ.call ihr (fun _ _ => rfl) rfl (by rw [← e2]; rfl) (Wk.cons rfl (Wk.nil _)) ?_
        rintro qv σ' ⟨b, s3, hf3, rfl, rfl⟩
        refine ⟨rfl, ?_⟩
        (repeat (first | refine Spl.t rfl ?_ | refine Spl.f rfl ?_))
        (first | refine Sq.go ?_ | refine vL_nil (Sq.go ?_) | skip)
        try refine vc_sound _ _ _ _ ?_
        exact FinP.of [(0, .res ρ s3)] (Wk.cons rfl (Wk.nil _)) (closed_resE rfl) ⟨b, s3, hf.app (.go hs hf3), rfl, rfl⟩
abbrev treeD (t : TR) : D := .ptr [t.d]
abbrev tallF (t : TR) : AV := .d (.fn 37 [treeD t])
theorem rep_fnE {γ : Ids} {H : HF} {f : FuncId} {cs : List AV} {ds : List D} {u : Value} (h : dAll cs = some ds) (r : Rep γ H (.fnp f cs) u) : Rep γ H (.d (.fn f ds)) u := by
  cases r with
  | fnp _ _ us hl hr =>
    obtain ⟨h1, h2⟩ := dAll_get h
    refine .d _ _ (.fn f ds us (by rw [hl, h1]) fun j x v hx hv => ?_)
    obtain ⟨a, ha, hd⟩ := h2 j x hx
    exact dOf_sound hd (hr j a v ha hv)
theorem TAll_c (t : TR) : Cv 10 [tv t] (tallF t) := by
  refine Ct.of_vc Tryd.f10 Tryd.func10 rfl rfl fun w H B g0 => ?_
  exact FinP.pub 1 rfl rfl (FinP.view (fun _ _ _ => rep_fnE rfl) (FinP.open rfl rfl))
theorem tall_iter (t : TR) (hs : t.size ≤ 800000) : Iter tab Tryd.prog 37 [.d (treeD t)] ((itsL 0 t.els).map itA) := by
  intro ρ hP hΛ s hc
  have hwk := twalk_c t 0 (by omega) ρ hP hΛ s hc
  refine Ct.of_vc Tryd.f37 Tryd.func37 rfl rfl fun w H B g0 => ?_
  (repeat (first | refine Spl.t rfl ?_ | refine Spl.f rfl ?_))
  refine OpJ.call hwk (fun _ _ => rfl) rfl rfl (Wk.cons rfl (Wk.nil _)) ?_
  rintro qv σ' ⟨b, s', hf, rfl, rfl⟩
  refine ⟨rfl, ?_⟩
  exact FinP.of [(0, .res ρ s')] (Wk.cons rfl (Wk.nil _)) (closed_resE rfl) ⟨b, s', hf, rfl⟩
/-- The bytes of those that are alive. -/
def txtZ : List EL → List Int
  | [] => []
  | e :: r => if e.dead = true then txtZ r else Lib.encodeRuneZ e.ch ++ txtZ r
theorem txtZ_app : ∀ (A B : List EL), txtZ (A ++ B) = txtZ A ++ txtZ B
  | [], _ => rfl
  | e :: A, B => by
    rw [List.cons_append, txtZ, txtZ, txtZ_app A B]
    split
    · rfl
    · rw [List.append_assoc]
theorem txtZ_len : ∀ A : List EL, (txtZ A).length ≤ 4 * A.length
  | [] => Nat.le_refl _
  | e :: A => by
    rw [txtZ, List.length_cons]
    have := txtZ_len A
    split
    · omega
    · have h := Lib.encodeRuneZ_length e.ch
      rw [List.length_append]; omega
theorem txtZ_byte : ∀ (A : List EL) (k : Int), k ∈ txtZ A → 0 ≤ k ∧ k < 256
  | [], k, h => by simp [txtZ] at h
  | e :: A, k, h => by
    rw [txtZ] at h
    split at h
    · exact txtZ_byte A k h
    · rcases List.mem_append.1 h with h | h
      · exact Lib.encodeRuneZ_byte e.ch k h
      · exact txtZ_byte A k h
def okE (e : EL) : Prop := -2147483648 ≤ e.ch ∧ e.ch ≤ 2147483647
def bldV : List Int → Sg
  | [] => bld0
  | x :: xs => bldS (x :: xs)
theorem Text_c (t : TR) (hs : t.size ≤ 800000) (hok : ∀ e, e ∈ t.els → okE e) : Cv 11 [tv t] (sv (byt (txtZ t.els))) := by
  have it := tall_iter t hs
  have hlen := TR.els_len t
  refine Ct.of_wv Tryd.f11 Tryd.func11 rfl rfl fun w H B g0 => ?_
  try refine WJ.cut ?_
  (first | refine Sq.go ?_ | refine vL_nil (Sq.go ?_) | skip)
  try refine WJ.cut ?_
  refine O.allocT rfl rfl rfl rfl rfl ?_
  (first | refine Sq.go ?_ | refine vL_nil (Sq.go ?_) | skip)
  try refine WJ.cut ?_
  refine OpJ.callV (TAll_c t) (fun _ _ => rfl) rfl rfl rfl ?_
  refine WJ.rangeK itA (itsL 0 t.els) (V := List Int) bldV [3, 1000] (fun pre v => v = txtZ (pre.map fun x => x.2)) (fun _ _ _ => False) [] it rfl rfl (.fn _ _) rfl (fun _ _ => rfl) rfl rfl (fun _ => rfl) (by repeat' (first | exact trivial | exact rfl | refine And.intro ?_ ?_)) rfl ?_ ?_ ?_
  · intro l pre x post v hL hI w0 H0 B0 g1
    have hpl : (pre.map fun x => x.2) ++ x.2 :: post.map (fun x => x.2) = t.els := by
      have : (itsL 0 t.els).map (fun x => x.2) = t.els := by
        have : ∀ (A : List EL) (n : Nat), (itsL n A).map (fun x => x.2) = A := fun A => by
          induction A with
          | nil => intro n; rfl
          | cons e A ih => intro n; rw [itsL, List.map_cons, ih]
        exact this _ _
      rw [hL, List.map_append, List.map_cons] at this
      exact this
    have hx := hok x.2 (by rw [← hpl]; simp)
    have hv : v.length ≤ 900000000 := by
      have h1 := txtZ_len (pre.map fun x => x.2)
      have h2 := congrArg List.length hpl
      rw [List.length_append] at h2
      rw [hI]; omega
    have hnext : txtZ ((pre ++ [x]).map fun x => x.2) = v ++ (if x.2.dead = true then [] else Lib.encodeRuneZ x.2.ch) := by
      rw [List.map_append, txtZ_app, ← hI]
      simp only [List.map_cons, List.map_nil, txtZ]
      split <;> simp
    have henc := Lib.encodeRuneZ_length x.2.ch
    obtain ⟨n, ⟨xi, xc, xd⟩⟩ := x
    cases v with
    | nil =>
      intro w0 H0 B0 g1
      cases xd with
      | true =>
        (repeat (first | refine Spl.t rfl ?_ | refine Spl.f rfl ?_))
        exact ⟨[], hnext.symm, (by repeat' (first | exact trivial | exact rfl | refine And.intro ?_ ?_))⟩
      | false =>
        (repeat (first | refine Spl.t rfl ?_ | refine Spl.f rfl ?_))
        refine OpJ.call (rune0_c xc hx.1 hx.2) (fun _ _ => rfl) rfl rfl (Wk.cons rfl (Wk.nil _)) ?_
        rintro q σ' ⟨rfl, rfl⟩
        refine ⟨rfl, ?_⟩
        (repeat (first | refine Spl.t rfl ?_ | refine Spl.f rfl ?_))
        obtain ⟨y, ys, e⟩ : ∃ y ys, Lib.encodeRuneZ xc = y :: ys := by
          cases h : Lib.encodeRuneZ xc with
          | nil => rw [h] at henc; simp at henc
          | cons y ys => exact ⟨y, ys, rfl⟩
        refine ⟨y :: ys, ?_, ?_⟩
        · exact e.symm.trans hnext.symm
        · rw [e]; exact (by repeat' (first | exact trivial | exact rfl | refine And.intro ?_ ?_))
    | cons y ys =>
      intro w0 H0 B0 g1
      cases xd with
      | true =>
        (repeat (first | refine Spl.t rfl ?_ | refine Spl.f rfl ?_))
        exact ⟨y :: ys, (hnext.trans (List.append_nil _)).symm, (by repeat' (first | exact trivial | exact rfl | refine And.intro ?_ ?_))⟩
      | false =>
        (repeat (first | refine Spl.t rfl ?_ | refine Spl.f rfl ?_))
        refine OpJ.call (runeS_c (y :: ys) xc hx.1 hx.2 hv) (fun _ _ => rfl) rfl rfl (Wk.cons rfl (Wk.cons rfl (Wk.nil _))) ?_
        rintro q σ' ⟨rfl, rfl⟩
        refine ⟨rfl, ?_⟩
        (repeat (first | refine Spl.t rfl ?_ | refine Spl.f rfl ?_))
        exact ⟨y :: (ys ++ Lib.encodeRuneZ xc), hnext.symm, (by repeat' (first | exact trivial | exact rfl | refine And.intro ?_ ?_))⟩
  · intro v hI
    have hall : (itsL 0 t.els).map (fun x => x.2) = t.els := by
      have : ∀ (A : List EL) (n : Nat), (itsL n A).map (fun x => x.2) = A := fun A => by
        induction A with
        | nil => intro n; rfl
        | cons e A ih => intro n; rw [itsL, List.map_cons, ih]
      exact this _ _
    rw [hall] at hI
    rw [← hI]
    cases v with
    | nil =>
      (first | refine Sq.go ?_ | refine vL_nil (Sq.go ?_) | skip)
      try refine vc_sound _ _ _ _ ?_
      refine OpJ.call str0_c (fun _ _ => rfl) rfl rfl (Wk.cons rfl (Wk.nil _)) ?_
      rintro q σ' ⟨rfl, rfl⟩
      refine ⟨rfl, ?_⟩
      exact FinP.open rfl rfl
    | cons y ys =>
      have h1 := txtZ_len t.els
      have h2 := txtZ_byte t.els
      rw [← hI] at h1 h2
      (first | refine Sq.go ?_ | refine vL_nil (Sq.go ?_) | skip)
      try refine vc_sound _ _ _ _ ?_
      refine OpJ.call (strS_c (y :: ys) (by simp) (by omega) h2) (fun _ _ => rfl) rfl rfl (Wk.cons rfl (Wk.cons rfl (Wk.nil _))) ?_
      rintro q σ' ⟨rfl, rfl⟩
      refine ⟨rfl, ?_⟩
      exact FinP.open rfl rfl
  · intro c p v h
    exact h.elim
end Go.Proofs.E
end
section
open Go Go.Gv
attribute [local irreducible] Go.Gv.WJ Go.Gv.OpJ Go.Gv.QJ Go.Gv.Spl Go.Gv.Req Go.Gv.IdxP Go.Gv.RegP Go.Gv.FinP Go.Gv.CellP Go.Gv.CellsP Go.Gv.ArrP Go.Gv.ArrsP Go.Gv.DropP Go.Gv.ByteP Go.Gv.StoreP
set_option maxRecDepth 100000
namespace Go.Proofs.E
def abcS : ByteArray := ⟨#[97, 98, 99]⟩
def trs : Nat → TR
  | 0 => .nil
  | 1 => insT .nil 0 ⟨⟨1, 1⟩, 97, false⟩
  | 2 => insT (insT .nil 0 ⟨⟨1, 1⟩, 97, false⟩) 1 ⟨⟨2, 1⟩, 98, true⟩
  | _ => insT (insT (insT .nil 0 ⟨⟨1, 1⟩, 97, false⟩) 1 ⟨⟨2, 1⟩, 98, true⟩) 2 ⟨⟨3, 1⟩, 99, false⟩
theorem Awake3_c : Cv 8 [] (bv true) := by
  have i0 := Insert_c (trs 0) 0 ⟨⟨1, 1⟩, 97, false⟩ (by decide)
  have i1 := Insert_c (trs 1) 1 ⟨⟨2, 1⟩, 98, true⟩ (by decide)
  have i2 := Insert_c (trs 2) 2 ⟨⟨3, 1⟩, 99, false⟩ (by decide)
  have se := Select_c (trs 3) 1 (by decide)
  have ra := Rank_c (trs 3) 2 (by decide) (by decide) (by decide)
  have tx := Text_c (trs 3) (by decide) (by unfold okE; decide +kernel)
  refine Ct.of_wv Tryd.f8 Tryd.func8 rfl rfl fun w H B g0 => ?_
  try refine WJ.cut ?_
  (first | refine Sq.go ?_ | refine vL_nil (Sq.go ?_) | skip)
  try refine WJ.cut ?_
  (first | refine Sq.go ?_ | refine vL_nil (Sq.go ?_) | skip)
  try refine WJ.cut ?_
  refine O.rangeS rfl rfl rfl rfl ?_
  refine WJ.loopK (V := Nat) (fun _ => []) (fun v => [(1, .cells [.d (trs v).d]), (6, .obj (.stringIter abcS v))]) [1, 6] (fun v => 3 - v) (fun v => v ≤ 3) 0 (by decide) (by repeat' (first | exact trivial | exact rfl | refine And.intro ?_ ?_)) (by repeat' (first | exact trivial | exact rfl | refine And.intro ?_ ?_)) ?_
  intro v hv
  obtain rfl | rfl | rfl | rfl : v = 0 ∨ v = 1 ∨ v = 2 ∨ v = 3 := by omega
  · refine O.nextS rfl rfl (by decide) rfl ?_
    (repeat (first | refine Spl.t rfl ?_ | refine Spl.f rfl ?_))
    refine OpJ.callV i0 (fun _ _ => rfl) rfl rfl rfl ?_
    (repeat (first | refine Spl.t rfl ?_ | refine Spl.f rfl ?_))
    exact ⟨1, by decide, by decide, (by repeat' (first | exact trivial | exact rfl | refine And.intro ?_ ?_)), (by repeat' (first | exact trivial | exact rfl | refine And.intro ?_ ?_)), (by repeat' (first | exact trivial | exact rfl | refine And.intro ?_ ?_)), (by repeat' (first | exact trivial | exact rfl | refine And.intro ?_ ?_))⟩
  · refine O.nextS rfl rfl (by decide) rfl ?_
    (repeat (first | refine Spl.t rfl ?_ | refine Spl.f rfl ?_))
    refine OpJ.callV i1 (fun _ _ => rfl) rfl rfl rfl ?_
    (repeat (first | refine Spl.t rfl ?_ | refine Spl.f rfl ?_))
    exact ⟨2, by decide, by decide, (by repeat' (first | exact trivial | exact rfl | refine And.intro ?_ ?_)), (by repeat' (first | exact trivial | exact rfl | refine And.intro ?_ ?_)), (by repeat' (first | exact trivial | exact rfl | refine And.intro ?_ ?_)), (by repeat' (first | exact trivial | exact rfl | refine And.intro ?_ ?_))⟩
  · refine O.nextS rfl rfl (by decide) rfl ?_
    (repeat (first | refine Spl.t rfl ?_ | refine Spl.f rfl ?_))
    refine OpJ.callV i2 (fun _ _ => rfl) rfl rfl rfl ?_
    (repeat (first | refine Spl.t rfl ?_ | refine Spl.f rfl ?_))
    exact ⟨3, by decide, by decide, (by repeat' (first | exact trivial | exact rfl | refine And.intro ?_ ?_)), (by repeat' (first | exact trivial | exact rfl | refine And.intro ?_ ?_)), (by repeat' (first | exact trivial | exact rfl | refine And.intro ?_ ?_)), (by repeat' (first | exact trivial | exact rfl | refine And.intro ?_ ?_))⟩
  · refine O.overS rfl rfl (by decide) rfl ?_
    (repeat (first | refine Spl.t rfl ?_ | refine Spl.f rfl ?_))
    (first | refine Sq.go ?_ | refine vL_nil (Sq.go ?_) | skip)
    try refine WJ.cut ?_
    refine OpJ.callV se (fun _ _ => rfl) rfl rfl rfl ?_
    (first | refine Sq.go ?_ | refine vL_nil (Sq.go ?_) | skip)
    try refine WJ.cut ?_
    refine OpJ.callV Awake_c (fun _ _ => rfl) rfl rfl rfl ?_
    (repeat (first | refine Spl.t rfl ?_ | refine Spl.f rfl ?_))
    refine OpJ.callV ra (fun _ _ => rfl) rfl rfl rfl ?_
    (repeat (first | refine Spl.t rfl ?_ | refine Spl.f rfl ?_))
    refine OpJ.callV tx (fun _ _ => rfl) rfl rfl rfl ?_
    (repeat (first | refine Spl.t rfl ?_ | refine Spl.f rfl ?_))
    (first | refine Sq.go ?_ | refine vL_nil (Sq.go ?_) | skip)
    try refine vc_sound _ _ _ _ ?_
    refine FinP.open rfl (congrArg bv ?_)
    decide +kernel
end Go.Proofs.E
end
section
open Go Go.Gv
attribute [local irreducible] Go.Gv.WJ Go.Gv.OpJ Go.Gv.QJ Go.Gv.Spl Go.Gv.Req Go.Gv.IdxP Go.Gv.RegP Go.Gv.FinP Go.Gv.CellP Go.Gv.CellsP Go.Gv.ArrP Go.Gv.ArrsP Go.Gv.DropP Go.Gv.ByteP Go.Gv.StoreP
set_option maxRecDepth 100000
namespace Go.Proofs.E
structure AC where
  over : Bool
  at_ : Int
  e : EL
abbrev acD (x : AC) : List D := [.v (.bool x.over), .v (.int .i64 x.at_), .v (.int .i64 x.e.id.c), .v (.int .i64 x.e.id.s), .v (.int .i32 x.e.ch), .v (.bool x.e.dead)]
theorem eqEL (a b : EL) : eqT Tryd.prog 4 30 [.int .i64 a.id.c, .int .i64 a.id.s, .int .i32 a.ch, .bool a.dead] [.int .i64 b.id.c, .int .i64 b.id.s, .int .i32 b.ch, .bool b.dead] = some (decide (a = b)) := by
  show some ((decide (a.id.c = b.id.c) && (decide (a.id.s = b.id.s) && true)) && (decide (a.ch = b.ch) && ((a.dead == b.dead) && true))) = _
  obtain ⟨⟨a1, a2⟩, a3, a4⟩ := a
  obtain ⟨⟨b1, b2⟩, b3, b4⟩ := b
  simp [Bool.and_assoc, and_assoc]
  cases a4 <;> cases b4 <;> simp
theorem eqEL_ok : eqOk Tryd.prog 4 30 = true := by kernel_rfl
theorem eqEL_g : Tryd.prog.eqGuardType Tryd.prog.depth 30 = false := by kernel_rfl
theorem ins_els {t : TR} {i : Int} {e : EL} (he : okE e) (h : ∀ x, x ∈ t.els → okE x) : (∀ x, x ∈ (insT t i e).els → okE x) ∧ (insT t i e).size ≤ t.size + 1 := by
  unfold insT
  split
  · next hi =>
    have h1 : i.toNat ≤ t.size := by omega
    rw [size_ins _ _ _ h1, TR.els_ins _ _ _ h1]
    refine ⟨fun x hx => ?_, Nat.le_refl _⟩
    rcases List.mem_append.1 hx with hx | hx
    · exact h x (List.mem_of_mem_take hx)
    · rcases List.mem_cons.1 hx with rfl | hx
      · exact he
      · exact h x (List.mem_of_mem_drop hx)
  · exact ⟨h, by omega⟩
theorem set_els {t : TR} {i : Int} {e : EL} : (setT t i e).size = t.size := by
  unfold setT
  split
  · next hi =>
    obtain ⟨h1, h2⟩ := hasT_iff hi
    exact size_set _ _ _ (by omega)
  · rfl
theorem some_earE {k k' : Nat} {xs ys : List (List D)} (h : xs = ys) (hk : k = k') : some (Ent.arr k xs) = some (Ent.arr k' ys) := by rw [h, hk]
theorem its_all (A : List EL) : ∀ n, (itsL n A).map (fun x => x.2) = A := by
  induction A with
  | nil => intro n; rfl
  | cons e A ih => intro n; rw [itsL, List.map_cons, ih]
theorem PtreeStays_c (l k : List AC) (st : Int) (hs0 : 0 ≤ st) (hs1 : st ≤ 255) (hl : ∀ x, x ∈ l → okE x.e) : Cv 3 [.d (.sl 6 (l.map acD)), .d (.sl 6 (k.map acD)), .d (.v (.int .u8 st))] (bv true) := by
  refine Ct.of_wv Tryd.f3 Tryd.func3 rfl rfl fun w H B g0 => ?_
  try refine WJ.cut ?_
  (first | refine Sq.go ?_ | refine vL_nil (Sq.go ?_) | skip)
  try refine WJ.cut ?_
  refine Spl.of (fun h => ?_) (fun h => ?_)
  · (repeat (first | refine Spl.t rfl ?_ | refine Spl.f rfl ?_))
    refine OpJ.callV Awake3_c (fun _ _ => rfl) rfl rfl rfl ?_
    refine .out (by simp) ?_
    exact FinP.open rfl rfl
  have hlen : l.length ≤ 60 := by have := of_decide_eq_false h; simp at this; omega
  (repeat (first | refine Spl.t rfl ?_ | refine Spl.f rfl ?_))
  refine Spl.of (fun h2 => ?_) (fun h2 => ?_)
  · (repeat (first | refine Spl.t rfl ?_ | refine Spl.f rfl ?_))
    refine OpJ.callV Awake3_c (fun _ _ => rfl) rfl rfl rfl ?_
    refine .out (by simp) ?_
    exact FinP.open rfl rfl
  have klen : k.length ≤ 60 := by have := of_decide_eq_false h2; simp at this; omega
  (first | refine Sq.go ?_ | refine vL_nil (Sq.go ?_) | skip)
  try refine WJ.cut ?_
  (first | refine Sq.go ?_ | refine vL_nil (Sq.go ?_) | skip)
  try refine WJ.cut ?_
  refine WJ.loopK (V := Nat × TR) (fun v => [(32, iv v.1)]) (fun v => [(7, .cells [.d v.2.d])]) [7] (fun v => l.length - v.1) (fun v => v.1 ≤ l.length ∧ v.2.size ≤ v.1 ∧ ∀ x, x ∈ v.2.els → okE x) (0, .nil) ⟨by simp, by simp [TR.size], by simp [TR.els]⟩ (by repeat' (first | exact trivial | exact rfl | refine And.intro ?_ ?_)) (by repeat' (first | exact trivial | exact rfl | refine And.intro ?_ ?_)) ?_
  rintro ⟨i, t⟩ ⟨hi, hts, hok⟩
  simp only at hi hts hok
  refine Spl.of (fun h1 => ?_) (fun h1 => ?_)
  · have hlt : i < l.length := by have := of_decide_eq_true h1; simp at this; omega
    have hx : l[i]? = some l[i] := by simp
    have hxo := hl l[i] (List.getElem_mem hlt)
    generalize l[i] = x at hx hxo
    obtain ⟨o1, o2⟩ := ins_els (i := x.at_) hxo hok
    (repeat (first | refine Spl.t rfl ?_ | refine Spl.f rfl ?_))
    refine IdxP.of (acD x) (by omega) (by simp [hx]) ?_
    refine OpJ.callV (Insert_c t x.at_ x.e (by omega)) (fun _ _ => rfl) rfl rfl rfl ?_
    (repeat (first | refine Spl.t rfl ?_ | refine Spl.f rfl ?_))
    exact ⟨(i + 1, insT t x.at_ x.e), ⟨by simp only; omega, by simp only; omega, o1⟩, by simp only; omega, ⟨some_iv (wrap_id _ (by omega) (by omega)), trivial⟩, (by repeat' (first | exact trivial | exact rfl | refine And.intro ?_ ?_)), ⟨rfl, trivial⟩, (by repeat' (first | exact trivial | exact rfl | refine And.intro ?_ ?_))⟩
  · have it := tall_iter t (by omega)
    have tx := Text_c t (by omega) hok
    have htl := TR.els_len t
    (repeat (first | refine Spl.t rfl ?_ | refine Spl.f rfl ?_))
    (first | refine Sq.go ?_ | refine vL_nil (Sq.go ?_) | skip)
    try refine WJ.cut ?_
    (first | refine Sq.go ?_ | refine vL_nil (Sq.go ?_) | skip)
    try refine WJ.cut ?_
    refine OpJ.callV (TAll_c t) (fun _ _ => rfl) rfl rfl rfl ?_
    (repeat (first | refine Spl.t rfl ?_ | refine Spl.f rfl ?_))
    (first | refine Sq.go ?_ | refine vL_nil (Sq.go ?_) | skip)
    try refine WJ.cut ?_
    refine OpJ.callV (TAll_c t) (fun _ _ => rfl) rfl rfl rfl ?_
    refine WJ.shift (SJ.nilCell 56 10 0 4 rfl rfl rfl) ?_
    refine WJ.rangeK itA (itsL 0 t.els) (V := List EL) (fun v => [(10, .cells [.arr 56 4 v.length]), (56, .arr 4 (v.map elD))]) [10, 56] (fun pre v => v = pre.map fun x => x.2) (fun _ _ _ => False) [] it rfl rfl (.fn _ _) rfl (fun _ _ => rfl) rfl rfl (fun _ => rfl) (by repeat' (first | exact trivial | exact rfl | refine And.intro ?_ ?_)) rfl ?_ ?_ ?_
    · intro l0 pre x post v hL hI w0 H0 B0 g1
      intro w0 H0 B0 g1
      have hvl : v.length ≤ 60 := by
        have := congrArg List.length hL
        rw [itsL_len, List.length_append] at this
        rw [hI, List.length_map]; omega
      refine Req.of ⟨by simp, (show v.length + 1 ≤ 1000000000 by omega)⟩ ?_
      refine ⟨v ++ [x.2], ?_, ⟨?_, ?_, ?_⟩⟩
      · show v ++ [x.2] = (pre ++ [x]).map fun x => x.2
        rw [hI, List.map_append]; rfl
      · exact congrArg (fun z => some (Ent.cells [AV.arr 56 4 z])) (by simp; rfl)
      · exact some_earE (by simp; rfl) rfl
      · exact (by repeat' (first | exact trivial | exact rfl | refine And.intro ?_ ?_))
    · intro v hI
      rw [its_all] at hI
      subst hI
      (first | refine Sq.go ?_ | refine vL_nil (Sq.go ?_) | skip)
      refine WJ.shift (SJ.pubCell 56 10 0 rfl rfl rfl (by simp) (by omega)) ?_
      rw [List.take_of_length_le (by simp)]
      try refine WJ.cut ?_
      refine RegP.of rfl (by decide +kernel) ?_
      refine QuietP.of (QJ.call tx (fun _ _ => rfl) rfl rfl) ?_
      refine QuietP.of (QJ.call (TAlive_c t) (fun _ _ => rfl) rfl rfl) ?_
      (first | refine Sq.go ?_ | refine vL_nil (Sq.go ?_) | skip)
      try refine WJ.cut ?_
      (first | refine Sq.go ?_ | refine vL_nil (Sq.go ?_) | skip)
      try refine WJ.cut ?_
      refine WJ.loopK (V := Nat × TR) (fun v => [(64, iv v.1)]) (fun v => [(15, .cells [.d v.2.d])]) [15] (fun v => k.length - v.1) (fun v => v.1 ≤ k.length ∧ v.2.size ≤ 60 + v.1) (0, t) ⟨by simp, by simp only; omega⟩ (by repeat' (first | exact trivial | exact rfl | refine And.intro ?_ ?_)) (by repeat' (first | exact trivial | exact rfl | refine And.intro ?_ ?_)) ?_
      rintro ⟨j, t2⟩ ⟨hj, ht2⟩
      simp only at hj ht2
      refine Spl.of (fun h3 => ?_) (fun h3 => ?_)
      · have hlt : j < k.length := by have := of_decide_eq_true h3; simp at this; omega
        have hx : k[j]? = some k[j] := by simp
        generalize k[j] = x at hx
        have hi2 : (insT t2 x.at_ x.e).size ≤ t2.size + 1 := by
          unfold insT
          split
          · rw [size_ins _ _ _ (by omega)]; omega
          · omega
        have hs2 : (setT t2 x.at_ x.e).size = t2.size := set_els
        (repeat (first | refine Spl.t rfl ?_ | refine Spl.f rfl ?_))
        refine IdxP.of (acD x) (by omega) (by simp [hx]) ?_
        refine Spl.of (fun h4 => ?_) (fun h4 => ?_)
        · refine OpJ.callV (Set_c t2 x.at_ x.e (by omega)) (fun _ _ => rfl) rfl rfl rfl ?_
          (repeat (first | refine Spl.t rfl ?_ | refine Spl.f rfl ?_))
          exact ⟨(j + 1, setT t2 x.at_ x.e), ⟨by simp only; omega, by simp only; omega⟩, by simp only; omega, ⟨some_iv (wrap_id _ (by omega) (by omega)), trivial⟩, (by repeat' (first | exact trivial | exact rfl | refine And.intro ?_ ?_)), ⟨rfl, trivial⟩, (by repeat' (first | exact trivial | exact rfl | refine And.intro ?_ ?_))⟩
        · refine OpJ.callV (Insert_c t2 x.at_ x.e (by omega)) (fun _ _ => rfl) rfl rfl rfl ?_
          (repeat (first | refine Spl.t rfl ?_ | refine Spl.f rfl ?_))
          exact ⟨(j + 1, insT t2 x.at_ x.e), ⟨by simp only; omega, by simp only; omega⟩, by simp only; omega, ⟨some_iv (wrap_id _ (by omega) (by omega)), trivial⟩, (by repeat' (first | exact trivial | exact rfl | refine And.intro ?_ ?_)), ⟨rfl, trivial⟩, (by repeat' (first | exact trivial | exact rfl | refine And.intro ?_ ?_))⟩
      · (repeat (first | refine Spl.t rfl ?_ | refine Spl.f rfl ?_))
        (first | refine Sq.go ?_ | refine vL_nil (Sq.go ?_) | skip)
        try refine WJ.cut ?_
        (first | refine Sq.go ?_ | refine vL_nil (Sq.go ?_) | skip)
        try refine WJ.cut ?_
        refine OpJ.callV (TAll_c t) (fun _ _ => rfl) rfl rfl rfl ?_
        have wst : IntKind.i64.wrap st = st := wrap_id _ (by omega) (by omega)
        refine WJ.rangeK itA (itsL 0 t.els) (V := Nat) (fun m => [(18, .cells [iv m]), (6, .cells [bv false])]) [18, 6] (fun pre m => m = pre.length ∧ pre.length ≤ st.toNat) (fun c pre m => c = .exit 6 ∧ m = st.toNat + 1 ∧ m ≤ t.size) 0 it rfl rfl (.fn _ _) rfl (fun _ _ => rfl) rfl rfl (fun _ => rfl) (by repeat' (first | exact trivial | exact rfl | refine And.intro ?_ ?_)) ⟨rfl, by simp⟩ ?_ ?_ ?_
        · intro l0 pre x post m hL hI w0 H0 B0 g1
          obtain ⟨hm, hms⟩ := hI
          intro w0 H0 B0 g1
          have hget : (itsL 0 t.els)[m]? = some x := by rw [hL, hm]; simp
          rw [itsL_get] at hget
          have hlp : m < t.size := by
            have := congrArg List.length hL
            rw [itsL_len, List.length_append, List.length_cons] at this
            omega
          obtain ⟨e, he⟩ : ∃ e, t.els[m]? = some e := ⟨t.els[m]'(by omega), by simp⟩
          rw [he] at hget
          have hxe : x = (m, e) := by simpa using hget.symm
          subst hxe
          have hek : (List.take t.els.length (t.els.map elD))[m]? = some (elD e) := by rw [List.take_of_length_le (by simp)]; simp [he]
          refine RegP.of rfl (by decide +kernel) ?_
          refine Spl.f (decide_eq_false (by simp; omega)) ?_
          (repeat (first | refine Spl.t rfl ?_ | refine Spl.f rfl ?_))
          refine IdxP.of (elD e) (by omega) (by simpa only [Int.toNat_natCast] using hek) ?_
          (repeat (first | refine Spl.t rfl ?_ | refine Spl.f rfl ?_))
          refine QuietP.of (O.neT 4 rfl rfl rfl rfl rfl eqEL_ok eqEL_g (eqEL e e)) ?_
          (repeat (first | refine Spl.t rfl ?_ | refine Spl.f rfl ?_))
          refine Spl.f (by simp) ?_
          (repeat (first | refine Spl.t rfl ?_ | refine Spl.f rfl ?_))
          have wm : IntKind.i64.wrap ((m : Int) + 1) = ((m + 1 : Nat) : Int) := wrap_id _ (by omega) (by omega)
          refine Spl.of (fun h5 => ?_) (fun h5 => ?_)
          · have h5 := of_decide_eq_true h5
            rw [wst, wm] at h5
            (repeat (first | refine Spl.t rfl ?_ | refine Spl.f rfl ?_))
            exact ⟨m + 1, ⟨rfl, by omega, by omega⟩, ⟨congrArg (fun z : Int => some (Ent.cells [iv z])) wm, (by repeat' (first | exact trivial | exact rfl | refine And.intro ?_ ?_))⟩⟩
          · have h5 := of_decide_eq_false h5
            rw [wst, wm] at h5
            (repeat (first | refine Spl.t rfl ?_ | refine Spl.f rfl ?_))
            exact ⟨m + 1, ⟨by simp [hm], by simp; omega⟩, ⟨congrArg (fun z : Int => some (Ent.cells [iv z])) wm, (by repeat' (first | exact trivial | exact rfl | refine And.intro ?_ ?_))⟩⟩
        · rintro m ⟨hm, hms⟩
          rw [itsL_len] at hm hms
          (first | refine Sq.go ?_ | refine vL_nil (Sq.go ?_) | skip)
          try refine vc_sound _ _ _ _ ?_
          (refine RegP.of rfl (by decide +kernel) ?_; refine QuietP.of (QJ.call Awake3_c (fun _ _ => rfl) rfl rfl) ?_; (repeat (first | refine Spl.t rfl ?_ | refine Spl.f rfl ?_)); refine QuietP.of (QJ.call (TLen_c t) (fun _ _ => rfl) rfl rfl) ?_; (repeat (first | refine Spl.t rfl ?_ | refine Spl.f rfl ?_)); refine Spl.t (decide_eq_true (by simp; omega)) ?_; (repeat (first | refine Spl.t rfl ?_ | refine Spl.f rfl ?_)); refine QuietP.of (QJ.call tx (fun _ _ => rfl) rfl rfl) ?_; (repeat (first | refine Spl.t rfl ?_ | refine Spl.f rfl ?_)); refine Spl.t (decide_eq_true rfl) ?_; (repeat (first | refine Spl.t rfl ?_ | refine Spl.f rfl ?_)); refine QuietP.of (QJ.call (TAlive_c t) (fun _ _ => rfl) rfl rfl) ?_; (repeat (first | refine Spl.t rfl ?_ | refine Spl.f rfl ?_)); refine Spl.t (decide_eq_true rfl) ?_; (repeat (first | refine Spl.t rfl ?_ | refine Spl.f rfl ?_)); refine FinP.open rfl (congrArg bv (decide_eq_true ?_)); rw [wst, wrap_id _ (by omega) (by omega)]; have hz : (List.take t.els.length (t.els.map elD)).length = t.els.length := (by simp); rw [hz]; split <;> omega)
        · rintro c pre m ⟨rfl, hm, hmv⟩
          (first | refine Sq.go ?_ | refine vL_nil (Sq.go ?_) | skip)
          try refine vc_sound _ _ _ _ ?_
          (refine RegP.of rfl (by decide +kernel) ?_; refine QuietP.of (QJ.call Awake3_c (fun _ _ => rfl) rfl rfl) ?_; (repeat (first | refine Spl.t rfl ?_ | refine Spl.f rfl ?_)); refine QuietP.of (QJ.call (TLen_c t) (fun _ _ => rfl) rfl rfl) ?_; (repeat (first | refine Spl.t rfl ?_ | refine Spl.f rfl ?_)); refine Spl.t (decide_eq_true (by simp; omega)) ?_; (repeat (first | refine Spl.t rfl ?_ | refine Spl.f rfl ?_)); refine QuietP.of (QJ.call tx (fun _ _ => rfl) rfl rfl) ?_; (repeat (first | refine Spl.t rfl ?_ | refine Spl.f rfl ?_)); refine Spl.t (decide_eq_true rfl) ?_; (repeat (first | refine Spl.t rfl ?_ | refine Spl.f rfl ?_)); refine QuietP.of (QJ.call (TAlive_c t) (fun _ _ => rfl) rfl rfl) ?_; (repeat (first | refine Spl.t rfl ?_ | refine Spl.f rfl ?_)); refine Spl.t (decide_eq_true rfl) ?_; (repeat (first | refine Spl.t rfl ?_ | refine Spl.f rfl ?_)); refine FinP.open rfl (congrArg bv (decide_eq_true ?_)); rw [wst, wrap_id _ (by omega) (by omega)]; have hz : (List.take t.els.length (t.els.map elD)).length = t.els.length := (by simp); rw [hz]; split <;> omega)
    · intro c p v h
      exact h.elim
theorem acRow (cs : List D) (h : (Ty.st [.bool, .int .i64, .st [.st [.int .i64, .int .i64], .int .i32, .bool]]).ok cs) : ∃ x : AC, cs = acD x ∧ okE x.e := by
  obtain ⟨_, _, rfl, ⟨b0, rfl⟩, ⟨_, _, rfl, ⟨a0, rfl, _⟩, ⟨_, _, rfl, ⟨_, _, rfl, ⟨_, _, rfl, ⟨a1, rfl, _⟩, ⟨_, _, rfl, ⟨a2, rfl, _⟩, rfl⟩⟩, ⟨_, _, rfl, ⟨a3, rfl, w⟩, ⟨_, _, rfl, ⟨b1, rfl⟩, rfl⟩⟩⟩, rfl⟩⟩⟩ := h
  exact ⟨⟨b0, a0, ⟨⟨a1, a2⟩, a3, b1⟩⟩, rfl, i32_rng w⟩
end Go.Proofs.E
end
section
open Go Go.Gv
attribute [local irreducible] Go.Gv.WJ Go.Gv.OpJ Go.Gv.QJ Go.Gv.Spl Go.Gv.Req Go.Gv.IdxP Go.Gv.RegP Go.Gv.FinP Go.Gv.CellP Go.Gv.CellsP Go.Gv.ArrP Go.Gv.ArrsP Go.Gv.DropP Go.Gv.ByteP Go.Gv.StoreP
set_option maxRecDepth 100000
namespace Go.Proofs.E
namespace TR
/-- No side is more than three times as heavy as the other one. -/
def okb : TR → Prop
  | .nil => True
  | .node l _ r => l.okb ∧ r.okb ∧ r.wt ≤ 3 * l.wt ∧ l.wt ≤ 3 * r.wt
theorem wt_pos (t : TR) : 0 < t.wt := by unfold wt; omega
theorem wt_nil : TR.nil.wt = 1 := rfl
theorem wt_node (l : TR) (e : EL) (r : TR) : (TR.node l e r).wt = l.wt + r.wt := by unfold wt; rw [size]; omega
theorem okb_turnL {l r : TR} (e : EL) (hl : l.okb) (hr : r.okb) (h : r.wt = 3 * l.wt + 1) : (turnL l e r).okb := by
  cases r with
  | nil => rw [wt_nil] at h; have := l.wt_pos; omega
  | node rl re rr =>
    obtain ⟨h1, h2, h3, h4⟩ := hr
    rw [wt_node] at h
    have p0 := l.wt_pos
    simp only [turnL]
    split
    · next hb =>
      have hb := blt_true hb
      exact ⟨⟨hl, h1, by omega, by omega⟩, h2, by rw [wt_node]; omega, by rw [wt_node]; omega⟩
    · next hb =>
      have hb := blt_false hb
      cases rl with
      | nil => rw [wt_nil] at hb; have := rr.wt_pos; omega
      | node ml me mr =>
        obtain ⟨m1, m2, m3, m4⟩ := h1
        rw [wt_node] at h3 h4 hb h
        exact ⟨⟨hl, m1, by omega, by omega⟩, ⟨m2, h2, by omega, by omega⟩, by rw [wt_node, wt_node]; omega, by rw [wt_node, wt_node]; omega⟩
theorem okb_turnR {l r : TR} (e : EL) (hl : l.okb) (hr : r.okb) (h : l.wt = 3 * r.wt + 1) : (turnR l e r).okb := by
  cases l with
  | nil => rw [wt_nil] at h; have := r.wt_pos; omega
  | node ll le lr =>
    obtain ⟨h1, h2, h3, h4⟩ := hl
    rw [wt_node] at h
    have p0 := r.wt_pos
    simp only [turnR]
    split
    · next hb =>
      have hb := blt_true hb
      exact ⟨h1, ⟨h2, hr, by omega, by omega⟩, by rw [wt_node]; omega, by rw [wt_node]; omega⟩
    · next hb =>
      have hb := blt_false hb
      cases lr with
      | nil => rw [wt_nil] at hb; have := ll.wt_pos; omega
      | node ml me mr =>
        obtain ⟨m1, m2, m3, m4⟩ := h2
        rw [wt_node] at h3 h4 hb h
        exact ⟨⟨h1, m1, by omega, by omega⟩, ⟨m2, hr, by omega, by omega⟩, by rw [wt_node, wt_node]; omega, by rw [wt_node, wt_node]; omega⟩
theorem okb_bal {l r : TR} (e : EL) (hl : l.okb) (hr : r.okb) (h1 : r.wt ≤ 3 * l.wt + 1) (h2 : l.wt ≤ 3 * r.wt + 1) : (bal l e r).okb := by
  unfold bal
  split
  · next hb => exact okb_turnL e hl hr (by have := blt_true hb; omega)
  · next hb =>
    split
    · next hb2 => exact okb_turnR e hl hr (by have := blt_true hb2; omega)
    · next hb2 => exact ⟨hl, hr, blt_false hb, blt_false hb2⟩
theorem okb_ins : ∀ (i : Nat) (e : EL) (t : TR), i ≤ t.size → t.okb → (ins i e t).okb
  | i, e, .nil, _, _ => ⟨trivial, trivial, by decide, by decide⟩
  | i, e, .node l x r, hi, h => by
    obtain ⟨h1, h2, h3, h4⟩ := h
    simp only [size] at hi
    simp only [ins]
    split
    · next hb =>
      have hb := Nat.le_of_ble_eq_true hb
      have hz := size_ins i e l hb
      have hw : (ins i e l).wt = l.wt + 1 := by unfold wt; omega
      exact okb_bal x (okb_ins i e l hb h1) h2 (by omega) (by omega)
    · next hb =>
      have hb := ble_false hb
      have hz := size_ins (i - l.size - 1) e r (by omega)
      have hw : (ins (i - l.size - 1) e r).wt = r.wt + 1 := by unfold wt; omega
      exact okb_bal x h1 (okb_ins _ e r (by omega) h2) (by omega) (by omega)
theorem okb_set : ∀ (i : Nat) (e : EL) (t : TR), i < t.size → t.okb → (set i e t).okb
  | i, e, .nil, hi, _ => by simp [size] at hi
  | i, e, .node l x r, hi, h => by
    obtain ⟨h1, h2, h3, h4⟩ := h
    simp only [size] at hi
    simp only [set]
    split
    · next hb =>
      have hb := blt_true hb
      have hz := size_set i e l hb
      have hw : (set i e l).wt = l.wt := by unfold wt; omega
      exact ⟨okb_set i e l hb h1, h2, by omega, by omega⟩
    · next hb =>
      have hb := blt_false hb
      split
      · next hb2 =>
        have hb2 := blt_true hb2
        have hz := size_set (i - l.size - 1) e r (by omega)
        have hw : (set (i - l.size - 1) e r).wt = r.wt := by unfold wt; omega
        exact ⟨h1, okb_set _ e r (by omega) h2, by omega, by omega⟩
      · exact ⟨h1, h2, h3, h4⟩
theorem deep_pow : ∀ t : TR, t.okb → 4 ^ t.deep ≤ t.wt * 3 ^ t.deep
  | .nil, _ => by decide
  | .node l e r, ⟨h1, h2, h3, h4⟩ => by
    have il := deep_pow l h1
    have ir := deep_pow r h2
    have key : ∀ (c d : Nat), 4 ^ d ≤ c * 3 ^ d → 4 * c ≤ 3 * (l.wt + r.wt) → 4 ^ (d + 1) ≤ (l.wt + r.wt) * 3 ^ (d + 1) := fun c d h5 h6 => by
      rw [Nat.pow_succ, Nat.pow_succ]
      calc 4 ^ d * 4 ≤ c * 3 ^ d * 4 := Nat.mul_le_mul_right 4 h5
        _ = (4 * c) * 3 ^ d := by rw [Nat.mul_right_comm, Nat.mul_comm c 4]
        _ ≤ (3 * (l.wt + r.wt)) * 3 ^ d := Nat.mul_le_mul_right _ h6
        _ = (l.wt + r.wt) * (3 ^ d * 3) := by rw [Nat.mul_comm 3, Nat.mul_assoc, Nat.mul_comm 3 (3 ^ d)]
    rw [wt_node, deep]
    by_cases h : l.deep ≤ r.deep
    · rw [show Nat.max l.deep r.deep = r.deep from Nat.max_eq_right h]; exact key r.wt r.deep ir (by omega)
    · rw [show Nat.max l.deep r.deep = l.deep from Nat.max_eq_left (by omega)]; exact key l.wt l.deep il (by omega)
theorem deep_flat {t : TR} (h : t.okb) : 2 ^ (t.deep / 3) ≤ t.size + 1 := by
  have h1 := deep_pow t h
  generalize t.deep = d at h1
  show 2 ^ (d / 3) ≤ t.wt
  generalize t.wt = c at h1
  obtain ⟨q, r, hd, hr⟩ : ∃ q r, d = 3 * q + r ∧ d / 3 = q := ⟨d / 3, d % 3, by omega, rfl⟩
  rw [hr]
  rw [hd, Nat.pow_add, Nat.pow_add, Nat.pow_mul, Nat.pow_mul] at h1
  have h2 : 3 ^ r ≤ 4 ^ r := Nat.pow_le_pow_left (by decide) r
  have h3 : (4 ^ 3) ^ q ≤ c * (3 ^ 3) ^ q := by
    have h4 : (4 ^ 3) ^ q * 4 ^ r ≤ (c * (3 ^ 3) ^ q) * 4 ^ r := by
      calc (4 ^ 3) ^ q * 4 ^ r ≤ c * ((3 ^ 3) ^ q * 3 ^ r) := h1
        _ = (c * (3 ^ 3) ^ q) * 3 ^ r := by rw [Nat.mul_assoc]
        _ ≤ (c * (3 ^ 3) ^ q) * 4 ^ r := Nat.mul_le_mul_left _ h2
    exact Nat.le_of_mul_le_mul_right h4 (Nat.pow_pos (by decide))
  have h5 : 2 ^ q * 27 ^ q ≤ (4 ^ 3) ^ q := by
    rw [← Nat.mul_pow]; exact Nat.pow_le_pow_left (by decide) q
  have h6 : 2 ^ q * 27 ^ q ≤ c * 27 ^ q := Nat.le_trans h5 h3
  exact Nat.le_of_mul_le_mul_right h6 (Nat.pow_pos (by decide))
theorem deep_pos {t : TR} (h : 0 < t.size) : 0 < t.deep := by
  cases t with
  | nil => simp [size] at h
  | node l e r => rw [deep]; omega
end TR
theorem okb_insT {t : TR} (i : Int) (e : EL) (h : t.okb) : (insT t i e).okb := by
  unfold insT
  split
  · next hi => exact TR.okb_ins _ _ _ (by omega) h
  · exact h
theorem okb_setT {t : TR} (i : Int) (e : EL) (h : t.okb) : (setT t i e).okb := by
  unfold setT
  split
  · next hi =>
    obtain ⟨h1, h2⟩ := hasT_iff hi
    exact TR.okb_set _ _ _ (by omega) h
  · exact h
theorem Flat_c (d n : Nat) (hd : d ≤ 1000000) (hn : n ≤ 1000000) (h0 : n = 0 → d = 0) (h1 : 0 < n → 0 < d) (h2 : 2 ^ (d / 3) ≤ n + 1) : Cv 85 [iv d, iv n] (bv true) := by
  have hq : IntKind.i64.wrap ((d : Int).tdiv 3) = ((d / 3 : Nat) : Int) := by rw [Int.tdiv_eq_ediv_of_nonneg (by omega), wrap_id _ (by omega) (by omega)]; omega
  refine Ct.of_vc Tryd.f85 Tryd.func85 rfl rfl fun w H B g0 => ?_
  refine Spl.of (fun h => ?_) (fun h => ?_)
  · have h := of_decide_eq_true h
    (repeat (first | refine Spl.t rfl ?_ | refine Spl.f rfl ?_))
    refine FinP.open rfl (congrArg bv (decide_eq_true ?_))
    have := h0 (by omega)
    rw [this]; rfl
  · have h := of_decide_eq_false h
    (repeat (first | refine Spl.t rfl ?_ | refine Spl.f rfl ?_))
    refine WJ.loopK (V := Nat) (fun i => [(6, iv i), (5, iv ((2 ^ i : Nat) : Int))]) (fun _ => []) [] (fun i => d - i) (fun i => i ≤ d / 3) 0 (by omega) (by repeat' (first | exact trivial | exact rfl | refine And.intro ?_ ?_)) (by repeat' (first | exact trivial | exact rfl | refine And.intro ?_ ?_)) ?_
    intro i hi
    have hp : 2 ^ i ≤ n + 1 := Nat.le_trans (Nat.pow_le_pow_right (by decide) hi) h2
    refine Req.of (by decide) ?_
    refine Spl.of (fun h3 => ?_) (fun h3 => ?_)
    · have h3 := of_decide_eq_true h3
      rw [hq] at h3
      have hp2 : 2 ^ (i + 1) ≤ n + 1 := Nat.le_trans (Nat.pow_le_pow_right (by decide) (by omega)) h2
      have e1 : IntKind.i64.wrap (((2 ^ i : Nat) : Int) * 2) = ((2 ^ (i + 1) : Nat) : Int) := by
        rw [Nat.pow_succ]
        generalize 2 ^ i = m at hp
        rw [wrap_id _ (by omega) (by omega)]; omega
      have hng : ¬ ((2 ^ (i + 1) : Nat) : Int) > (n : Int) + 1 := by
        generalize 2 ^ (i + 1) = m at hp2
        omega
      (repeat (first | refine Spl.t rfl ?_ | refine Spl.f rfl ?_))
      refine Spl.f (decide_eq_false (by rw [e1, wrap_id _ (by omega) (by omega)]; exact hng)) ?_
      (repeat (first | refine Spl.t rfl ?_ | refine Spl.f rfl ?_))
      exact ⟨i + 1, by omega, by omega, ⟨some_iv (wrap_id _ (by omega) (by omega)), some_iv e1, trivial⟩, (by repeat' (first | exact trivial | exact rfl | refine And.intro ?_ ?_)), (by repeat' (first | exact trivial | exact rfl | refine And.intro ?_ ?_)), (by repeat' (first | exact trivial | exact rfl | refine And.intro ?_ ?_))⟩
    · (repeat (first | refine Spl.t rfl ?_ | refine Spl.f rfl ?_))
      refine FinP.open rfl (congrArg bv (decide_eq_true ?_))
      have := h1 (by omega)
      omega
end Go.Proofs.E
end
section
open Go Go.Gv
attribute [local irreducible] Go.Gv.WJ Go.Gv.OpJ Go.Gv.QJ Go.Gv.Spl Go.Gv.Req Go.Gv.IdxP Go.Gv.RegP Go.Gv.FinP Go.Gv.CellP Go.Gv.CellsP Go.Gv.ArrP Go.Gv.ArrsP Go.Gv.DropP Go.Gv.ByteP Go.Gv.StoreP
set_option maxRecDepth 100000
namespace Go.Proofs.E
attribute [local irreducible] elems
structure SS where
  t : TR
  p : PT
  n : Int
abbrev stv (s : SS) : AV := .agg [.d s.t.d, .d s.p.d, iv s.n]
/-- A state stands for the operations that were applied. -/
structure isS (s : SS) (l : List OP) : Prop where
  dn : Dn l
  els : s.t.els = rowE l
  bal : s.t.okb
  mp : ∃ M, isM s.p s.n M ∧ (∀ a, alook a M = entO l a) ∧ M.length = (insL l).length
theorem isS.size {s : SS} {l : List OP} (h : isS s l) : s.t.size = (insL l).length := by rw [← TR.els_len, h.els, row_len h.dn]
theorem isS.small {s : SS} {l : List OP} (h : isS s l) : s.t.size ≤ 4096 := by rw [h.size]; exact h.dn.is.len
theorem GetS_c {s : SS} {l : List OP} (h : isS s l) (a : ID) : Cv 56 [mapv s.p s.n, idv a] (getv (entO l a)) := by
  obtain ⟨M, h1, h2, _⟩ := h.mp
  rw [← h2]
  exact GetIs_c h1 a
theorem ent_some {l : List OP} {a : ID} : (entO l a).isSome = (findO 0 a l).isSome := by unfold entO; rw [Option.isSome_map]
theorem Has_c {s : SS} {l : List OP} (h : isS s l) (a : ID) : Cv 24 [stv s, idv a] (bv (findO 0 a l).isSome) := by
  have hg := GetS_c h a
  rw [← ent_some]
  cases he : entO l a with
  | none =>
    rw [he] at hg
    refine Ct.of_vc Tryd.f24 Tryd.func24 rfl rfl fun w H B g0 => ?_
    refine OpJ.callV hg (fun _ _ => rfl) rfl rfl rfl ?_
    (repeat (first | refine Spl.t rfl ?_ | refine Spl.f rfl ?_))
    exact FinP.open rfl rfl
  | some e =>
    rw [he] at hg
    refine Ct.of_vc Tryd.f24 Tryd.func24 rfl rfl fun w H B g0 => ?_
    refine OpJ.callV hg (fun _ _ => rfl) rfl rfl rfl ?_
    (repeat (first | refine Spl.t rfl ?_ | refine Spl.f rfl ?_))
    exact FinP.open rfl rfl
theorem okE_of {l : List OP} (h : Dn l) : ∀ e, e ∈ rowE l → okE e := fun e he => by
  obtain ⟨o, ho, rfl⟩ := (row_mem h).1 he
  obtain ⟨h1, h2⟩ := mem_insL.1 ho
  rcases (checkO_0 (h.is.ok o h1)).2 with ⟨h3, _⟩ | ⟨_, _, h4, h5⟩
  · omega
  · unfold okE elO; simp only; omega
theorem Find_c {s : SS} {l : List OP} (h : isS s l) (a : ID) : Cv 22 [stv s, idv a] (.tup [iv (placeL a (rowE l)), bv (decide (0 ≤ placeL a (rowE l)))]) := by
  have hs := h.small
  have it := tall_iter s.t (by omega)
  rw [h.els] at it
  refine Ct.of_wv Tryd.f22 Tryd.func22 rfl rfl fun w H B g0 => ?_
  try refine WJ.cut ?_
  (first | refine Sq.go ?_ | refine vL_nil (Sq.go ?_) | skip)
  try refine WJ.cut ?_
  refine OpJ.callV (Has_c h a) (fun _ _ => rfl) rfl rfl rfl ?_
  refine Spl.of (fun h1 => ?_) (fun h1 => ?_)
  · have h1 : (findO 0 a l).isSome = false := by simpa using h1
    have h2 := place_has h.dn a
    rw [h1] at h2
    have h3 : placeL a (rowE l) = -1 := by
      have := of_decide_eq_false h2
      have := placeL_ge a (rowE l)
      omega
    (repeat (first | refine Spl.t rfl ?_ | refine Spl.f rfl ?_))
    refine .out (by simp) ?_
    refine FinP.open rfl ?_
    rw [h3]; rfl
  · have h1 : (findO 0 a l).isSome = true := by simpa using h1
    have h2 := place_has h.dn a
    rw [h1] at h2
    have h3 := of_decide_eq_true h2
    (repeat (first | refine Spl.t rfl ?_ | refine Spl.f rfl ?_))
    (first | refine Sq.go ?_ | refine vL_nil (Sq.go ?_) | skip)
    try refine WJ.cut ?_
    refine OpJ.callV (TAll_c s.t) (fun _ _ => rfl) rfl rfl rfl ?_
    refine WJ.rangeK itA (itsL 0 (rowE l)) (V := Int × Bool) (fun v => [(4, .cells [iv v.1]), (5, .cells [bv v.2])]) [4, 5] (fun pre v => v = (0, false) ∧ ∀ x, x ∈ pre → x.2.id ≠ a) (fun c _ v => c = .ret ∧ v = (placeL a (rowE l), true)) (0, false) it rfl rfl (.fn _ _) rfl (fun _ _ => rfl) rfl rfl (fun _ => rfl) (by repeat' (first | exact trivial | exact rfl | refine And.intro ?_ ?_)) ⟨rfl, by simp⟩ ?_ ?_ ?_
    · intro l0 pre x post v hL hI w0 H0 B0 g1
      obtain ⟨rfl, hI⟩ := hI
      intro w0 H0 B0 g1
      have hget : (itsL 0 (rowE l))[pre.length]? = some x := by rw [hL]; simp
      rw [itsL_get] at hget
      obtain ⟨e, he⟩ : ∃ e, (rowE l)[pre.length]? = some e := by
        cases hz : (rowE l)[pre.length]? with
        | none => rw [hz] at hget; cases hget
        | some e => exact ⟨e, rfl⟩
      rw [he] at hget
      have hxe : x = (pre.length, e) := by simpa using hget.symm
      have hpre : ∀ j y, j < pre.length → (rowE l)[j]? = some y → y.id ≠ a := fun j y hj hy => by
        have h5 : (itsL 0 (rowE l))[j]? = some (j, y) := by rw [itsL_get, hy]; simp
        rw [hL, List.getElem?_append_left hj] at h5
        exact hI _ (List.mem_of_getElem? h5)
      subst hxe
      refine OpJ.qu (O.eqT 3 rfl rfl rfl rfl rfl eqI_ok eqI_g (eqI e.id a)) rfl ?_
      refine Spl.of (fun h4 => ?_) (fun h4 => ?_)
      · have h4 : e.id = a := of_decide_eq_true h4
        have hp := placeL_at he h4 hpre
        (repeat (first | refine Spl.t rfl ?_ | refine Spl.f rfl ?_))
        exact ⟨(placeL a (rowE l), true), ⟨rfl, rfl⟩, ⟨congrArg (fun z : Int => some (Ent.cells [iv z])) hp.symm, (by repeat' (first | exact trivial | exact rfl | refine And.intro ?_ ?_))⟩⟩
      · have h4 : ¬ e.id = a := of_decide_eq_false h4
        (repeat (first | refine Spl.t rfl ?_ | refine Spl.f rfl ?_))
        exact ⟨(0, false), ⟨rfl, fun y hy => by rcases List.mem_append.1 hy with hy | hy; exact hI y hy; rw [List.mem_singleton.1 hy]; exact h4⟩, (by repeat' (first | exact trivial | exact rfl | refine And.intro ?_ ?_))⟩
    · rintro v ⟨rfl, hI⟩
      exfalso
      obtain ⟨e, h4, h5, _⟩ := placeL_get h3
      have h6 : (itsL 0 (rowE l))[(placeL a (rowE l)).toNat]? = some (0 + (placeL a (rowE l)).toNat, e) := by rw [itsL_get, h4]; rfl
      exact hI _ (List.mem_of_getElem? h6) h5
    · rintro c p v ⟨rfl, rfl⟩
      refine .out (by simp) ?_
      refine FinP.open rfl ?_
      rw [decide_eq_true h3]; rfl
theorem atT_row {s : SS} {l : List OP} (h : isS s l) (k : Nat) : atT s.t (k : Int) = (rowE l)[k]? := by
  unfold atT; rw [if_pos (by omega), Int.toNat_natCast, h.els]
theorem posAt_place (f : OP → EL) (hf : ∀ x, (f x).id = x.i) (o : OP) : ∀ L : List OP, 0 ≤ placeL o.a (L.map f) → posAt o L = (placeL o.a (L.map f)).toNat + 1 + pos1 o (L.drop ((placeL o.a (L.map f)).toNat + 1))
  | [], h => by simp [placeL] at h
  | x :: r, h => by
    rw [List.map_cons, placeL] at h ⊢
    rw [posAt]
    by_cases e : x.i = o.a
    · rw [if_pos e, if_pos (by rw [hf]; exact e)]; simp; omega
    · rw [if_neg e, if_neg (by rw [hf]; exact e)]
      rw [if_neg (by rw [hf]; exact e)] at h
      by_cases e2 : placeL o.a (r.map f) < 0
      · rw [if_pos e2] at h; omega
      · rw [if_neg e2, posAt_place f hf o r (by omega), show (placeL o.a (r.map f) + 1).toNat = (placeL o.a (r.map f)).toNat + 1 by omega, List.drop_succ_cons]; omega
theorem place_none {l : List OP} (h : Dn l) : placeL ⟨0, 0⟩ (rowE l) = -1 := placeL_none fun e he e2 => by
  obtain ⟨o, ho, rfl⟩ := (row_mem h).1 he
  have := h.is.tk.is.c0 o ho
  have e3 : o.i = ⟨0, 0⟩ := e2
  rw [e3] at this; simp at this
theorem place_c {s : SS} {l : List OP} (h : isS s l) {o : OP} (hw : wrongO l o = 0) (hk : o.k = 0) : Cv 75 [stv s, opv o] (iv (posO l o)) := by
  have hs := h.small
  have hle := posO_le h.dn hw hk
  have hlen := row_len h.dn
  have hll := h.dn.is.len
  obtain ⟨hc, h1⟩ := wrong_0 hw
  obtain ⟨hnew, ha⟩ : findO 0 o.i l = none ∧ (o.a = ⟨0, 0⟩ ∨ (findO 0 o.a l).isSome = true) := by
    rcases h1 with ⟨h1, _⟩ | ⟨_, h2, h3, _⟩
    · omega
    · exact ⟨h2, h3⟩
  have start : (placeL o.a (rowE l) < 0 → o.a = ⟨0, 0⟩ ∧ 0 + pos1 o (folR (insL l)) = posO l o) ∧ (0 ≤ placeL o.a (rowE l) → (placeL o.a (rowE l)).toNat + 1 + pos1 o ((folR (insL l)).drop ((placeL o.a (rowE l)).toNat + 1)) = posO l o) := by
    refine ⟨fun hlt => ?_, fun hge => ?_⟩
    · have : o.a = ⟨0, 0⟩ := by
        rcases ha with ha | ha
        · exact ha
        · rw [← place_has h.dn] at ha
          have := of_decide_eq_true ha; omega
      refine ⟨this, ?_⟩
      unfold posO posR; rw [if_pos this, Nat.zero_add]
    · have : o.a ≠ ⟨0, 0⟩ := fun e => by rw [e, place_none h.dn] at hge; omega
      unfold posO posR; rw [if_neg this]
      exact (posAt_place (elO l) (fun _ => rfl) o _ hge).symm
  have hlp := placeL_lt o.a (rowE l)
  have hgp := placeL_ge o.a (rowE l)
  have stopN : ∀ k : Nat, k ≤ (rowE l).length → k + pos1 o ((folR (insL l)).drop k) = posO l o → (rowE l)[k]? = none → (k : Int) = posO l o := fun k hkl hpos hr => by
    have hkeq : k = (rowE l).length := by have := List.getElem?_eq_none_iff.1 hr; omega
    rw [← hpos, List.drop_eq_nil_of_le (by rw [h.dn.is.tk.is.len]; omega)]; rfl
  have stepN : ∀ (k : Nat) (e : EL), k + pos1 o ((folR (insL l)).drop k) = posO l o → (rowE l)[k]? = some e → (lessI e.id o.i = true → (k : Int) = posO l o) ∧ (lessI e.id o.i = false → k + 1 ≤ (rowE l).length ∧ k + 1 + pos1 o ((folR (insL l)).drop (k + 1)) = posO l o) := fun k e hpos hr => by
    obtain ⟨x, hx, hxe⟩ : ∃ x, (folR (insL l))[k]? = some x ∧ elO l x = e := by
      unfold rowE at hr
      rw [List.getElem?_map] at hr
      cases hz : (folR (insL l))[k]? with
      | none => rw [hz] at hr; cases hr
      | some x => rw [hz] at hr; exact ⟨x, rfl, Option.some.inj hr⟩
    have hxi : e.id = x.i := by rw [← hxe]; rfl
    have hd : (folR (insL l)).drop k = x :: (folR (insL l)).drop (k + 1) := by
      have hlt := (List.getElem?_eq_some_iff.1 hx).1
      rw [List.drop_eq_getElem_cons hlt]; congr 1; exact (List.getElem?_eq_some_iff.1 hx).2
    have hklt : k < (rowE l).length := (List.getElem?_eq_some_iff.1 hr).1
    have hxl := mem_insL.1 ((h.dn.is.tk.is.mem x).1 (List.mem_of_getElem? hx))
    have hne : x.i ≠ o.i := findO_none hnew x hxl.1 hxl.2
    rw [hd, pos1] at hpos
    refine ⟨fun h5 => ?_, fun h5 => ?_⟩
    · have hn : ¬ lessI o.i x.i = true := fun h6 => less_irr _ (less_tr h6 (hxi ▸ h5))
      rw [if_neg hn] at hpos; omega
    · have hn : lessI o.i x.i = true := less_tot (by rw [← hxi, h5]; decide) hne
      rw [if_pos hn] at hpos
      exact ⟨by omega, by omega⟩
  refine Ct.of_wv Tryd.f75 Tryd.func75 rfl rfl fun w H B g0 => ?_
  try refine WJ.cut ?_
  (first | refine Sq.go ?_ | refine vL_nil (Sq.go ?_) | skip)
  try refine WJ.cut ?_
  (first | refine Sq.go ?_ | refine vL_nil (Sq.go ?_) | skip)
  try refine WJ.cut ?_
  refine OpJ.callV (Find_c h o.a) (fun _ _ => rfl) rfl rfl rfl ?_
  (first | refine Sq.go ?_ | refine vL_nil (Sq.go ?_) | skip)
  try refine WJ.cut ?_
  refine Spl.of (fun h1 => ?_) (fun h1 => ?_)
  · have h1 := of_decide_eq_true h1
    have hK0 := start.2 h1
    have e1 : IntKind.i64.wrap (placeL o.a (rowE l) + 1) = (((placeL o.a (rowE l)).toNat + 1 : Nat) : Int) := by rw [wrap_id _ (by omega) (by omega)]; omega
    (repeat (first | refine Spl.t rfl ?_ | refine Spl.f rfl ?_))
    (first | refine Sq.go ?_ | refine vL_nil (Sq.go ?_) | skip)
    try refine vc_sound _ _ _ _ ?_
    refine WJ.loopK (V := Nat) (fun k => [(5, iv k)]) (fun _ => []) [] (fun k => (rowE l).length + 1 - k) (fun k => k ≤ (rowE l).length ∧ k + pos1 o ((folR (insL l)).drop k) = posO l o) ((placeL o.a (rowE l)).toNat + 1) ⟨by omega, hK0⟩ ⟨some_iv e1, trivial⟩ (by repeat' (first | exact trivial | exact rfl | refine And.intro ?_ ?_)) ?_
    (rintro k ⟨hkl, hpos⟩; obtain ⟨r, hr⟩ : ∃ r, atT s.t ((k : Nat) : Int) = r := ⟨_, rfl⟩; have hat := At_c s.t (k : Int) (by omega); rw [hr] at hat; rw [atT_row h] at hr; rcases r with _ | e; (have hfin := stopN k hkl hpos hr; refine OpJ.callV hat (fun _ _ => rfl) rfl rfl rfl ?_; (repeat (first | refine Spl.t rfl ?_ | refine Spl.f rfl ?_)); exact FinP.open rfl (congrArg iv hfin)); (obtain ⟨s1, s2⟩ := stepN k e hpos hr; refine OpJ.callV hat (fun _ _ => rfl) rfl rfl rfl ?_; (repeat (first | refine Spl.t rfl ?_ | refine Spl.f rfl ?_)); refine OpJ.callV (Less_c e.id o.i) (fun _ _ => rfl) rfl rfl rfl ?_; (repeat (first | refine Spl.t rfl ?_ | refine Spl.f rfl ?_)); refine Spl.of (fun h5 => ?_) (fun h5 => ?_); (have hfin := s1 h5; (repeat (first | refine Spl.t rfl ?_ | refine Spl.f rfl ?_)); exact FinP.open rfl (congrArg iv hfin)); (obtain ⟨s3, s4⟩ := s2 h5; (repeat (first | refine Spl.t rfl ?_ | refine Spl.f rfl ?_)); exact ⟨k + 1, ⟨s3, s4⟩, by omega, ⟨some_iv (wrap_id _ (by omega) (by omega)), trivial⟩, (by repeat' (first | exact trivial | exact rfl | refine And.intro ?_ ?_)), (by repeat' (first | exact trivial | exact rfl | refine And.intro ?_ ?_)), (by repeat' (first | exact trivial | exact rfl | refine And.intro ?_ ?_))⟩)))
  · have h1 := of_decide_eq_false h1
    have hK0 := (start.1 (by omega)).2
    (repeat (first | refine Spl.t rfl ?_ | refine Spl.f rfl ?_))
    (first | refine Sq.go ?_ | refine vL_nil (Sq.go ?_) | skip)
    try refine vc_sound _ _ _ _ ?_
    refine WJ.loopK (V := Nat) (fun k => [(5, iv k)]) (fun _ => []) [] (fun k => (rowE l).length + 1 - k) (fun k => k ≤ (rowE l).length ∧ k + pos1 o ((folR (insL l)).drop k) = posO l o) 0 ⟨by omega, hK0⟩ (by repeat' (first | exact trivial | exact rfl | refine And.intro ?_ ?_)) (by repeat' (first | exact trivial | exact rfl | refine And.intro ?_ ?_)) ?_
    (rintro k ⟨hkl, hpos⟩; obtain ⟨r, hr⟩ : ∃ r, atT s.t ((k : Nat) : Int) = r := ⟨_, rfl⟩; have hat := At_c s.t (k : Int) (by omega); rw [hr] at hat; rw [atT_row h] at hr; rcases r with _ | e; (have hfin := stopN k hkl hpos hr; refine OpJ.callV hat (fun _ _ => rfl) rfl rfl rfl ?_; (repeat (first | refine Spl.t rfl ?_ | refine Spl.f rfl ?_)); exact FinP.open rfl (congrArg iv hfin)); (obtain ⟨s1, s2⟩ := stepN k e hpos hr; refine OpJ.callV hat (fun _ _ => rfl) rfl rfl rfl ?_; (repeat (first | refine Spl.t rfl ?_ | refine Spl.f rfl ?_)); refine OpJ.callV (Less_c e.id o.i) (fun _ _ => rfl) rfl rfl rfl ?_; (repeat (first | refine Spl.t rfl ?_ | refine Spl.f rfl ?_)); refine Spl.of (fun h5 => ?_) (fun h5 => ?_); (have hfin := s1 h5; (repeat (first | refine Spl.t rfl ?_ | refine Spl.f rfl ?_)); exact FinP.open rfl (congrArg iv hfin)); (obtain ⟨s3, s4⟩ := s2 h5; (repeat (first | refine Spl.t rfl ?_ | refine Spl.f rfl ?_)); exact ⟨k + 1, ⟨s3, s4⟩, by omega, ⟨some_iv (wrap_id _ (by omega) (by omega)), trivial⟩, (by repeat' (first | exact trivial | exact rfl | refine And.intro ?_ ?_)), (by repeat' (first | exact trivial | exact rfl | refine And.intro ?_ ?_)), (by repeat' (first | exact trivial | exact rfl | refine And.intro ?_ ?_))⟩)))
end Go.Proofs.E
end
section
open Go Go.Gv
attribute [local irreducible] Go.Gv.WJ Go.Gv.OpJ Go.Gv.QJ Go.Gv.Spl Go.Gv.Req Go.Gv.IdxP Go.Gv.RegP Go.Gv.FinP Go.Gv.CellP Go.Gv.CellsP Go.Gv.ArrP Go.Gv.ArrsP Go.Gv.DropP Go.Gv.ByteP Go.Gv.StoreP
set_option maxRecDepth 100000
namespace Go.Proofs.E
attribute [local irreducible] elems
theorem id_of {x o : OP} (h1 : x.k = o.k) (h2 : x.i = o.i) (h3 : x.a = o.a) (h4 : x.ch = o.ch) : x = o := by
  obtain ⟨a, b, c, d⟩ := x
  obtain ⟨a', b', c', d'⟩ := o
  simp_all
theorem wrongI_c {s : SS} {l : List OP} (h : isS s l) {o : OP} (hc : checkO o = 0) (hk : o.k = 0) : Cv 74 [stv s, opv o] (iv (wrongO l o)) := by
  have hg := GetS_c h o.i
  have hw : wrongO l o = if findO 0 o.i l = some o then 4 else if (findO 0 o.i l).isSome = true then 5 else if o.a ≠ ⟨0, 0⟩ ∧ (findO 0 o.a l).isSome = false then 6 else if 4096 ≤ (insL l).length then 7 else 0 := by
    unfold wrongO; rw [if_neg (fun e => e hc), if_neg (by omega)]
  have hn : noneI o.a = decide (o.a = ⟨0, 0⟩) := by
    unfold noneI
    obtain ⟨a, b⟩ := o.a
    exact decide_eq_decide.2 ⟨fun h => by simp only at h; rw [h.1, h.2], fun h => by cases h; simp⟩
  cases hf : findO 0 o.i l with
  | some x =>
    obtain ⟨x1, x2, x3⟩ := findO_some hf
    have he : entO l o.i = some ⟨x.a, x.ch, deadO l o.i⟩ := by unfold entO; rw [hf]; rfl
    rw [he] at hg
    rw [hf] at hw
    refine Ct.of_vc Tryd.f74 Tryd.func74 rfl rfl fun w H B g0 => ?_
    refine OpJ.callV hg (fun _ _ => rfl) rfl rfl rfl ?_
    (repeat (first | refine Spl.t rfl ?_ | refine Spl.f rfl ?_))
    refine OpJ.qu (O.eqT 3 rfl rfl rfl rfl rfl eqI_ok eqI_g (eqI x.a o.a)) rfl ?_
    refine Spl.of (fun h1 => ?_) (fun h1 => ?_)
    · have h1 := of_decide_eq_true h1
      (repeat (first | refine Spl.t rfl ?_ | refine Spl.f rfl ?_))
      refine Spl.of (fun h2 => ?_) (fun h2 => ?_)
      · have h2 := of_decide_eq_true h2
        (repeat (first | refine Spl.t rfl ?_ | refine Spl.f rfl ?_))
        refine FinP.open rfl (congrArg iv ?_)
        rw [hw, if_pos (by rw [id_of (x2.trans hk.symm) x3 h1 h2])]
      · have h2 := of_decide_eq_false h2
        (repeat (first | refine Spl.t rfl ?_ | refine Spl.f rfl ?_))
        refine FinP.open rfl (congrArg iv ?_)
        rw [hw, if_neg (fun e => h2 (by rw [Option.some.inj e]))]; simp
    · have h1 := of_decide_eq_false h1
      (repeat (first | refine Spl.t rfl ?_ | refine Spl.f rfl ?_))
      refine FinP.open rfl (congrArg iv ?_)
      rw [hw, if_neg (fun e => h1 (by rw [Option.some.inj e]))]; simp
  | none =>
    have he : entO l o.i = none := by unfold entO; rw [hf]; rfl
    rw [he] at hg
    rw [hf, if_neg (by simp), if_neg (by simp)] at hw
    have hlen : ((s.t.size : Nat) : Int) = ((insL l).length : Int) := by rw [h.size]
    refine Ct.of_vc Tryd.f74 Tryd.func74 rfl rfl fun w H B g0 => ?_
    refine OpJ.callV hg (fun _ _ => rfl) rfl rfl rfl ?_
    (repeat (first | refine Spl.t rfl ?_ | refine Spl.f rfl ?_))
    refine OpJ.callV (None_c o.a) (fun _ _ => rfl) rfl rfl rfl ?_
    (repeat (first | refine Spl.t rfl ?_ | refine Spl.f rfl ?_))
    rw [hn]
    refine Spl.of (fun h3 => ?_) (fun h3 => ?_)
    · have h3 : o.a ≠ ⟨0, 0⟩ := by simpa using h3
      (repeat (first | refine Spl.t rfl ?_ | refine Spl.f rfl ?_))
      refine OpJ.callV (Has_c h o.a) (fun _ _ => rfl) rfl rfl rfl ?_
      (repeat (first | refine Spl.t rfl ?_ | refine Spl.f rfl ?_))
      refine Spl.of (fun h4 => ?_) (fun h4 => ?_)
      · have h4 : (findO 0 o.a l).isSome = false := by simpa using h4
        (repeat (first | refine Spl.t rfl ?_ | refine Spl.f rfl ?_))
        refine FinP.open rfl (congrArg iv ?_)
        rw [hw, if_pos ⟨h3, h4⟩]
      · have h4 : (findO 0 o.a l).isSome = true := by simpa using h4
        have hno : ¬ (o.a ≠ ⟨0, 0⟩ ∧ (findO 0 o.a l).isSome = false) := fun e => by rw [h4] at e; cases e.2
        ((repeat (first | refine Spl.t rfl ?_ | refine Spl.f rfl ?_)); refine OpJ.callV (TLen_c s.t) (fun _ _ => rfl) rfl rfl rfl ?_; refine Spl.of (fun h5 => ?_) (fun h5 => ?_); (have h5 := of_decide_eq_true h5; (repeat (first | refine Spl.t rfl ?_ | refine Spl.f rfl ?_)); refine FinP.open rfl (congrArg iv ?_); rw [hw, if_neg hno, if_pos (by omega)]); (have h5 := of_decide_eq_false h5; (repeat (first | refine Spl.t rfl ?_ | refine Spl.f rfl ?_)); refine FinP.open rfl (congrArg iv ?_); rw [hw, if_neg hno, if_neg (by omega)]))
    · have h3 : o.a = ⟨0, 0⟩ := by simpa using h3
      have hno : ¬ (o.a ≠ ⟨0, 0⟩ ∧ (findO 0 o.a l).isSome = false) := fun e => e.1 h3
      ((repeat (first | refine Spl.t rfl ?_ | refine Spl.f rfl ?_)); refine OpJ.callV (TLen_c s.t) (fun _ _ => rfl) rfl rfl rfl ?_; refine Spl.of (fun h5 => ?_) (fun h5 => ?_); (have h5 := of_decide_eq_true h5; (repeat (first | refine Spl.t rfl ?_ | refine Spl.f rfl ?_)); refine FinP.open rfl (congrArg iv ?_); rw [hw, if_neg hno, if_pos (by omega)]); (have h5 := of_decide_eq_false h5; (repeat (first | refine Spl.t rfl ?_ | refine Spl.f rfl ?_)); refine FinP.open rfl (congrArg iv ?_); rw [hw, if_neg hno, if_neg (by omega)]))
def insS (s : SS) (l : List OP) (o : OP) : SS := ⟨insT s.t (posO l o) ⟨o.i, o.ch, false⟩, PT.put 8 (keyI o.i) ⟨o.a, o.ch, false⟩ s.p, nPut s.p s.n o.i⟩
theorem insS_is {s : SS} {l : List OP} (h : isS s l) {o : OP} (hw : wrongO l o = 0) (hk : o.k = 0) : isS (insS s l o) (l ++ [o]) := by
  have hle := posO_le h.dn hw hk
  obtain ⟨hc, h1⟩ := wrong_0 hw
  have hnew : findO 0 o.i l = none := by
    rcases h1 with ⟨h1, _⟩ | ⟨_, h2, _⟩
    · omega
    · exact h2
  have hm := (checkO_0 hc).1
  refine ⟨.snoc h.dn hw, ?_, okb_insT _ _ h.bal, ?_⟩
  · have hsz : posO l o ≤ s.t.size := by rw [← TR.els_len, h.els]; exact hle
    show (insT s.t ((posO l o : Nat) : Int) ⟨o.i, o.ch, false⟩).els = _
    rw [insT, if_pos ⟨by omega, by omega⟩, Int.toNat_natCast, TR.els_ins _ _ _ hsz, h.els, row_ins h.dn hw hk]
  · obtain ⟨M, m1, m2, m3⟩ := h.mp
    refine ⟨insM o.i ⟨o.a, o.ch, false⟩ M, isM_put m1 hm _, fun a => ?_, ?_⟩
    · rw [alook_insM m1.up, ent_ins h.dn hw hk, m2]
    · rw [len_insM m1.up, m2, show entO l o.i = none by unfold entO; rw [hnew]; rfl, insL_snoc0 hk, List.length_append, m3]; simp
theorem insert_c {s : SS} {l : List OP} (h : isS s l) {o : OP} (hw : wrongO l o = 0) (hk : o.k = 0) : Cv 47 [stv s, opv o] (.tup [stv (insS s l o), iv (posO l o), iv 0]) := by
  obtain ⟨hc, h1⟩ := wrong_0 hw
  have hm := (checkO_0 hc).1
  have hwi := wrongI_c h hc hk
  rw [hw] at hwi
  obtain ⟨M, m1, m2, m3⟩ := h.mp
  have hll := h.dn.is.len
  have hle := posO_le h.dn hw hk
  have hi := Insert_c s.t (posO l o) ⟨o.i, o.ch, false⟩ (by have := h.small; omega)
  have hp := PutIs_c m1 (by omega) o.i ⟨o.a, o.ch, false⟩ hm
  refine Ct.of_wv Tryd.f47 Tryd.func47 rfl rfl fun w H B g0 => ?_
  try refine WJ.cut ?_
  (first | refine Sq.go ?_ | refine vL_nil (Sq.go ?_) | skip)
  try refine WJ.cut ?_
  refine OpJ.callV hwi (fun _ _ => rfl) rfl rfl rfl ?_
  (first | refine Sq.go ?_ | refine vL_nil (Sq.go ?_) | skip)
  try refine WJ.cut ?_
  (repeat (first | refine Spl.t rfl ?_ | refine Spl.f rfl ?_))
  (first | refine Sq.go ?_ | refine vL_nil (Sq.go ?_) | skip)
  try refine WJ.cut ?_
  refine OpJ.callV (place_c h hw hk) (fun _ _ => rfl) rfl rfl rfl ?_
  (first | refine Sq.go ?_ | refine vL_nil (Sq.go ?_) | skip)
  try refine WJ.cut ?_
  refine OpJ.callV hi (fun _ _ => rfl) rfl rfl rfl ?_
  (first | refine Sq.go ?_ | refine vL_nil (Sq.go ?_) | skip)
  try refine WJ.cut ?_
  refine OpJ.callV hp (fun _ _ => rfl) rfl rfl rfl ?_
  (first | refine Sq.go ?_ | refine vL_nil (Sq.go ?_) | skip)
  try refine vc_sound _ _ _ _ ?_
  exact FinP.open rfl rfl
theorem insertNo_c {s : SS} {l : List OP} (h : isS s l) {o : OP} (hc : checkO o = 0) (hw : wrongO l o ≠ 0) (hk : o.k = 0) : Cv 47 [stv s, opv o] (.tup [stv s, iv (-1), iv (wrongO l o)]) := by
  have hwi := wrongI_c h hc hk
  refine Ct.of_wv Tryd.f47 Tryd.func47 rfl rfl fun w H B g0 => ?_
  try refine WJ.cut ?_
  (first | refine Sq.go ?_ | refine vL_nil (Sq.go ?_) | skip)
  try refine WJ.cut ?_
  refine OpJ.callV hwi (fun _ _ => rfl) rfl rfl rfl ?_
  (first | refine Sq.go ?_ | refine vL_nil (Sq.go ?_) | skip)
  try refine WJ.cut ?_
  refine Spl.t (by simpa using hw) ?_
  (repeat (first | refine Spl.t rfl ?_ | refine Spl.f rfl ?_))
  refine .out (by simp) ?_
  exact FinP.open rfl rfl
def delE (l : List OP) (o : OP) : EN := (entO l o.i).getD EN.zero
def delS (s : SS) (l : List OP) (o : OP) : SS := ⟨setT s.t (placeL o.i (rowE l)) ⟨o.i, (delE l o).ch, true⟩, PT.put 8 (keyI o.i) ⟨(delE l o).a, (delE l o).ch, true⟩ s.p, nPut s.p s.n o.i⟩
theorem delS_is {s : SS} {l : List OP} (h : isS s l) {o : OP} (hw : wrongO l o = 0) (hk : o.k = 1) : isS (delS s l o) (l ++ [o]) := by
  obtain ⟨hc, h1⟩ := wrong_0 hw
  have hm := (checkO_0 hc).1
  obtain ⟨n, ch, d1, d2, d3, d4, d5⟩ := row_del h.dn hw hk
  have hde : delE l o = ⟨((findO 0 o.i l).map (·.a)).getD ⟨0, 0⟩, ch, false⟩ := by unfold delE; rw [d3]; rfl
  refine ⟨.snoc h.dn hw, ?_, okb_setT _ _ h.bal, ?_⟩
  · have hlt : n < s.t.size := by rw [← TR.els_len, h.els]; exact (List.getElem?_eq_some_iff.1 d2).1
    show (setT s.t (placeL o.i (rowE l)) ⟨o.i, (delE l o).ch, true⟩).els = _
    rw [d1, setT, if_pos (show hasT s.t (n : Int) = true from decide_eq_true ⟨by omega, by omega⟩), Int.toNat_natCast, TR.els_set _ _ _ hlt, h.els, d4, hde]
  · obtain ⟨M, m1, m2, m3⟩ := h.mp
    refine ⟨insM o.i ⟨(delE l o).a, (delE l o).ch, true⟩ M, isM_put m1 hm _, fun a => ?_, ?_⟩
    · rw [alook_insM m1.up, ent_del hk, m2]
      by_cases e : a = o.i
      · rw [if_pos e, if_pos e, e, d3, hde]; rfl
      · rw [if_neg e, if_neg e]
    · rw [len_insM m1.up, m2, d3, insL_snoc1 (by omega), m3]; rfl
theorem remove_c {s : SS} {l : List OP} (h : isS s l) {o : OP} (hw : wrongO l o = 0) (hk : o.k = 1) : Cv 46 [stv s, opv o] (.tup [stv (delS s l o), iv (placeL o.i (rowE l)), iv 0]) := by
  obtain ⟨hc, h1⟩ := wrong_0 hw
  have hm := (checkO_0 hc).1
  obtain ⟨n, ch, d1, d2, d3, d4, d5⟩ := row_del h.dn hw hk
  have hg := GetS_c h o.i
  have hde : delE l o = ⟨((findO 0 o.i l).map (·.a)).getD ⟨0, 0⟩, ch, false⟩ := by unfold delE; rw [d3]; rfl
  rw [d3, ← hde] at hg
  obtain ⟨M, m1, m2, m3⟩ := h.mp
  have hll := h.dn.is.len
  have hi := Set_c s.t (placeL o.i (rowE l)) ⟨o.i, (delE l o).ch, true⟩ (by have := h.small; omega)
  have hp := PutIs_c m1 (by omega) o.i ⟨(delE l o).a, (delE l o).ch, true⟩ hm
  have hdd : (delE l o).dead = false := by rw [hde]
  have hf := Find_c h o.i
  refine Ct.of_wv Tryd.f46 Tryd.func46 rfl rfl fun w H B g0 => ?_
  try refine WJ.cut ?_
  (first | refine Sq.go ?_ | refine vL_nil (Sq.go ?_) | skip)
  try refine WJ.cut ?_
  refine OpJ.callV hg (fun _ _ => rfl) rfl rfl rfl ?_
  (first | refine Sq.go ?_ | refine vL_nil (Sq.go ?_) | skip)
  try refine WJ.cut ?_
  (repeat (first | refine Spl.t rfl ?_ | refine Spl.f rfl ?_))
  refine Spl.f hdd ?_
  (first | refine Sq.go ?_ | refine vL_nil (Sq.go ?_) | skip)
  try refine WJ.cut ?_
  refine OpJ.callV hf (fun _ _ => rfl) rfl rfl rfl ?_
  (first | refine Sq.go ?_ | refine vL_nil (Sq.go ?_) | skip)
  try refine WJ.cut ?_
  (first | refine Sq.go ?_ | refine vL_nil (Sq.go ?_) | skip)
  try refine WJ.cut ?_
  refine OpJ.callV hi (fun _ _ => rfl) rfl rfl rfl ?_
  (first | refine Sq.go ?_ | refine vL_nil (Sq.go ?_) | skip)
  try refine WJ.cut ?_
  refine OpJ.callV hp (fun _ _ => rfl) rfl rfl rfl ?_
  (first | refine Sq.go ?_ | refine vL_nil (Sq.go ?_) | skip)
  try refine vc_sound _ _ _ _ ?_
  exact FinP.open rfl rfl
theorem removeNo_c {s : SS} {l : List OP} (h : isS s l) {o : OP} (hc : checkO o = 0) (hw : wrongO l o ≠ 0) (hk : o.k = 1) : Cv 46 [stv s, opv o] (.tup [stv s, iv (-1), iv (wrongO l o)]) := by
  have hg := GetS_c h o.i
  have hwe : wrongO l o = if (findO 0 o.i l).isSome = true then (if deadO l o.i = true then 4 else 0) else 6 := by
    unfold wrongO; rw [if_neg (fun e => e hc), if_pos hk]
  rw [hwe] at hw
  rw [hwe]
  cases hf : findO 0 o.i l with
  | none =>
    have he : entO l o.i = none := by unfold entO; rw [hf]; rfl
    rw [he] at hg
    refine Ct.of_vc Tryd.f46 Tryd.func46 rfl rfl fun w H B g0 => ?_
    refine OpJ.callV hg (fun _ _ => rfl) rfl rfl rfl ?_
    (repeat (first | refine Spl.t rfl ?_ | refine Spl.f rfl ?_))
    exact FinP.open rfl rfl
  | some x =>
    have he : entO l o.i = some ⟨x.a, x.ch, deadO l o.i⟩ := by unfold entO; rw [hf]; rfl
    rw [he] at hg
    rw [hf, if_pos (show (some x).isSome = true from rfl)] at hw
    have hd : deadO l o.i = true := by
      cases hd : deadO l o.i with
      | true => rfl
      | false => rw [hd] at hw; exact absurd rfl hw
    rw [if_pos (show (some x).isSome = true from rfl), if_pos hd]
    refine Ct.of_vc Tryd.f46 Tryd.func46 rfl rfl fun w H B g0 => ?_
    refine OpJ.callV hg (fun _ _ => rfl) rfl rfl rfl ?_
    (repeat (first | refine Spl.t rfl ?_ | refine Spl.f rfl ?_))
    refine Spl.t hd ?_
    (repeat (first | refine Spl.t rfl ?_ | refine Spl.f rfl ?_))
    exact FinP.open rfl rfl
/-- A state behind an operation. -/
def appS (s : SS) (l : List OP) (o : OP) : SS := if wrongO l o = 0 then (if o.k = 1 then delS s l o else insS s l o) else s
def appL (l : List OP) (o : OP) : List OP := if wrongO l o = 0 then l ++ [o] else l
def atO (l : List OP) (o : OP) : Int := if wrongO l o = 0 then placeL o.i (rowE (l ++ [o])) else -1
theorem appS_is {s : SS} {l : List OP} (h : isS s l) (o : OP) : isS (appS s l o) (appL l o) := by
  unfold appS appL
  split
  · next hw =>
    split
    · next hk => exact delS_is h hw hk
    · next hk =>
      have : o.k = 0 := by rcases (checkO_0 (wrong_0 hw).1).2 with h | h; exact absurd h.1 hk; exact h.1
      exact insS_is h hw this
  · exact h
theorem Apply_c {s : SS} {l : List OP} (h : isS s l) (o : OP) : Cv 15 [stv s, opv o] (.tup [stv (appS s l o), iv (atO l o), iv (wrongO l o)]) := by
  by_cases hc : checkO o = 0
  · have hkk := (checkO_0 hc).2
    have hck := Check5_c o
    rw [hc] at hck
    by_cases hk : o.k = 1
    · have key : Cv 46 [stv s, opv o] (.tup [stv (appS s l o), iv (atO l o), iv (wrongO l o)]) := by
        unfold appS atO
        by_cases hw : wrongO l o = 0
        · obtain ⟨n, ch, d1, d2, d3, d4, d5⟩ := row_del h.dn hw hk
          have := remove_c h hw hk
          rw [if_pos hw, if_pos hk, if_pos hw, hw, d5, ← d1]; exact this
        · rw [if_neg hw, if_neg hw]; exact removeNo_c h hc hw hk
      refine Ct.of_vc Tryd.f15 Tryd.func15 rfl rfl fun w H B g0 => ?_
      refine OpJ.callV hck (fun _ _ => rfl) rfl rfl rfl ?_
      (repeat (first | refine Spl.t rfl ?_ | refine Spl.f rfl ?_))
      refine Spl.t (by rw [hk]; rfl) ?_
      refine OpJ.callV key (fun _ _ => rfl) rfl rfl rfl ?_
      (repeat (first | refine Spl.t rfl ?_ | refine Spl.f rfl ?_))
      exact FinP.open rfl rfl
    · have hk0 : o.k = 0 := by rcases hkk with h | h; exact absurd h.1 hk; exact h.1
      have key : Cv 47 [stv s, opv o] (.tup [stv (appS s l o), iv (atO l o), iv (wrongO l o)]) := by
        unfold appS atO
        by_cases hw : wrongO l o = 0
        · have := insert_c h hw hk0
          rw [if_pos hw, if_neg hk, if_pos hw, hw, place_ins h.dn hw hk0]; exact this
        · rw [if_neg hw, if_neg hw]; exact insertNo_c h hc hw hk0
      refine Ct.of_vc Tryd.f15 Tryd.func15 rfl rfl fun w H B g0 => ?_
      refine OpJ.callV hck (fun _ _ => rfl) rfl rfl rfl ?_
      (repeat (first | refine Spl.t rfl ?_ | refine Spl.f rfl ?_))
      refine Spl.f (by rw [hk0]; rfl) ?_
      (repeat (first | refine Spl.t rfl ?_ | refine Spl.f rfl ?_))
      refine OpJ.callV key (fun _ _ => rfl) rfl rfl rfl ?_
      (repeat (first | refine Spl.t rfl ?_ | refine Spl.f rfl ?_))
      exact FinP.open rfl rfl
  · have hw : wrongO l o = checkO o := by unfold wrongO; rw [if_pos hc]
    have hw0 : ¬ wrongO l o = 0 := by rw [hw]; exact hc
    unfold appS atO
    rw [if_neg hw0, if_neg hw0, hw]
    refine Ct.of_vc Tryd.f15 Tryd.func15 rfl rfl fun w H B g0 => ?_
    refine OpJ.callV (Check5_c o) (fun _ _ => rfl) rfl rfl rfl ?_
    refine Spl.t (by simpa using hc) ?_
    (repeat (first | refine Spl.t rfl ?_ | refine Spl.f rfl ?_))
    exact FinP.open rfl rfl
theorem isS_nil : isS ⟨.nil, .nil, 0⟩ [] := ⟨.nil, rfl, trivial, [], isM_nil, fun _ => rfl, rfl⟩
end Go.Proofs.E
end
section
open Go Go.Gv
attribute [local irreducible] Go.Gv.WJ Go.Gv.OpJ Go.Gv.QJ Go.Gv.Spl Go.Gv.Req Go.Gv.IdxP Go.Gv.RegP Go.Gv.FinP Go.Gv.CellP Go.Gv.CellsP Go.Gv.ArrP Go.Gv.ArrsP Go.Gv.DropP Go.Gv.ByteP Go.Gv.StoreP
set_option maxRecDepth 100000
namespace Go.Proofs.E
attribute [local irreducible] elems
abbrev opD (o : OP) : List D := [.v (.int .i64 o.k), .v (.int .i64 o.i.c), .v (.int .i64 o.i.s), .v (.int .i64 o.a.c), .v (.int .i64 o.a.s), .v (.int .i32 o.ch)]
def aw6 : List OP := [⟨0, ⟨1, 1⟩, ⟨0, 0⟩, 97⟩, ⟨0, ⟨2, 1⟩, ⟨1, 1⟩, 98⟩, ⟨0, ⟨2, 2⟩, ⟨1, 1⟩, 99⟩]
theorem run3 : ∃ s, isS s aw6 ∧ ∃ s1 s2, isS s1 [⟨0, ⟨1, 1⟩, ⟨0, 0⟩, 97⟩] ∧ isS s2 [⟨0, ⟨1, 1⟩, ⟨0, 0⟩, 97⟩, ⟨0, ⟨2, 1⟩, ⟨1, 1⟩, 98⟩] ∧
    Cv 15 [stv ⟨.nil, .nil, 0⟩, opv ⟨0, ⟨1, 1⟩, ⟨0, 0⟩, 97⟩] (.tup [stv s1, iv 0, iv 0]) ∧
    Cv 15 [stv s1, opv ⟨0, ⟨2, 1⟩, ⟨1, 1⟩, 98⟩] (.tup [stv s2, iv 1, iv 0]) ∧
    Cv 15 [stv s2, opv ⟨0, ⟨2, 2⟩, ⟨1, 1⟩, 99⟩] (.tup [stv s, iv 1, iv 0]) := by
  have h1 := appS_is isS_nil ⟨0, ⟨1, 1⟩, ⟨0, 0⟩, 97⟩
  have a1 := Apply_c isS_nil ⟨0, ⟨1, 1⟩, ⟨0, 0⟩, 97⟩
  rw [show appL [] ⟨0, ⟨1, 1⟩, ⟨0, 0⟩, 97⟩ = [⟨0, ⟨1, 1⟩, ⟨0, 0⟩, 97⟩] by decide +kernel] at h1
  rw [show atO [] ⟨0, ⟨1, 1⟩, ⟨0, 0⟩, 97⟩ = 0 by decide +kernel, show wrongO [] ⟨0, ⟨1, 1⟩, ⟨0, 0⟩, 97⟩ = 0 by decide +kernel] at a1
  have h2 := appS_is h1 ⟨0, ⟨2, 1⟩, ⟨1, 1⟩, 98⟩
  have a2 := Apply_c h1 ⟨0, ⟨2, 1⟩, ⟨1, 1⟩, 98⟩
  rw [show appL [⟨0, ⟨1, 1⟩, ⟨0, 0⟩, 97⟩] ⟨0, ⟨2, 1⟩, ⟨1, 1⟩, 98⟩ = [⟨0, ⟨1, 1⟩, ⟨0, 0⟩, 97⟩, ⟨0, ⟨2, 1⟩, ⟨1, 1⟩, 98⟩] by decide +kernel] at h2
  rw [show atO [⟨0, ⟨1, 1⟩, ⟨0, 0⟩, 97⟩] ⟨0, ⟨2, 1⟩, ⟨1, 1⟩, 98⟩ = 1 by decide +kernel, show wrongO [⟨0, ⟨1, 1⟩, ⟨0, 0⟩, 97⟩] ⟨0, ⟨2, 1⟩, ⟨1, 1⟩, 98⟩ = 0 by decide +kernel] at a2
  have h3 := appS_is h2 ⟨0, ⟨2, 2⟩, ⟨1, 1⟩, 99⟩
  have a3 := Apply_c h2 ⟨0, ⟨2, 2⟩, ⟨1, 1⟩, 99⟩
  rw [show appL [⟨0, ⟨1, 1⟩, ⟨0, 0⟩, 97⟩, ⟨0, ⟨2, 1⟩, ⟨1, 1⟩, 98⟩] ⟨0, ⟨2, 2⟩, ⟨1, 1⟩, 99⟩ = aw6 by decide +kernel] at h3
  rw [show atO [⟨0, ⟨1, 1⟩, ⟨0, 0⟩, 97⟩, ⟨0, ⟨2, 1⟩, ⟨1, 1⟩, 98⟩] ⟨0, ⟨2, 2⟩, ⟨1, 1⟩, 99⟩ = 1 by decide +kernel, show wrongO [⟨0, ⟨1, 1⟩, ⟨0, 0⟩, 97⟩, ⟨0, ⟨2, 1⟩, ⟨1, 1⟩, 98⟩] ⟨0, ⟨2, 2⟩, ⟨1, 1⟩, 99⟩ = 0 by decide +kernel] at a3
  exact ⟨_, h3, _, _, h1, h2, a1, a2, a3⟩
theorem TextS_c {s : SS} {l : List OP} (h : isS s l) : Cv 11 [tv s.t] (sv (byt (txtZ (rowE l)))) := by
  have := Text_c s.t (by have := h.small; omega) (by rw [h.els]; exact okE_of h.dn)
  rw [h.els] at this; exact this
theorem Awake6_c : Cv 16 [] (bv true) := by
  obtain ⟨s3, h3, s1, s2, h1, h2, a1, a2, a3⟩ := run3
  have tx := TextS_c h3
  have he : byt (txtZ (rowE aw6)) = [97, 99, 98] := by decide +kernel
  rw [he] at tx
  refine Ct.of_wv Tryd.f16 Tryd.func16 rfl rfl fun w H B g0 => ?_
  try refine WJ.cut ?_
  (first | refine Sq.go ?_ | refine vL_nil (Sq.go ?_) | skip)
  try refine WJ.cut ?_
  (first | refine Sq.go ?_ | refine vL_nil (Sq.go ?_) | skip)
  try refine WJ.cut ?_
  refine WJ.loopK (V := Nat) (fun v => [(14, iv v)]) (fun v => [(1, .cells (match v with | 0 => [.d TR.nil.d, .d PT.nil.d, iv 0] | 1 => [.d s1.t.d, .d s1.p.d, iv s1.n] | 2 => [.d s2.t.d, .d s2.p.d, iv s2.n] | _ => [.d s3.t.d, .d s3.p.d, iv s3.n]))]) [1] (fun v => 3 - v) (fun v => v ≤ 3) 0 (by decide) (by repeat' (first | exact trivial | exact rfl | refine And.intro ?_ ?_)) (by repeat' (first | exact trivial | exact rfl | refine And.intro ?_ ?_)) ?_
  intro v hv
  obtain rfl | rfl | rfl | rfl : v = 0 ∨ v = 1 ∨ v = 2 ∨ v = 3 := by omega
  · (repeat (first | refine Spl.t rfl ?_ | refine Spl.f rfl ?_))
    refine IdxP.of _ (by decide) rfl ?_
    refine OpJ.callV a1 (fun _ _ => rfl) rfl rfl rfl ?_
    (repeat (first | refine Spl.t rfl ?_ | refine Spl.f rfl ?_))
    exact ⟨1, by decide, by decide, (by repeat' (first | exact trivial | exact rfl | refine And.intro ?_ ?_)), (by repeat' (first | exact trivial | exact rfl | refine And.intro ?_ ?_)), (by repeat' (first | exact trivial | exact rfl | refine And.intro ?_ ?_)), (by repeat' (first | exact trivial | exact rfl | refine And.intro ?_ ?_))⟩
  · (repeat (first | refine Spl.t rfl ?_ | refine Spl.f rfl ?_))
    refine IdxP.of _ (by decide) rfl ?_
    refine OpJ.callV a2 (fun _ _ => rfl) rfl rfl rfl ?_
    (repeat (first | refine Spl.t rfl ?_ | refine Spl.f rfl ?_))
    exact ⟨2, by decide, by decide, (by repeat' (first | exact trivial | exact rfl | refine And.intro ?_ ?_)), (by repeat' (first | exact trivial | exact rfl | refine And.intro ?_ ?_)), (by repeat' (first | exact trivial | exact rfl | refine And.intro ?_ ?_)), (by repeat' (first | exact trivial | exact rfl | refine And.intro ?_ ?_))⟩
  · (repeat (first | refine Spl.t rfl ?_ | refine Spl.f rfl ?_))
    refine IdxP.of _ (by decide) rfl ?_
    refine OpJ.callV a3 (fun _ _ => rfl) rfl rfl rfl ?_
    (repeat (first | refine Spl.t rfl ?_ | refine Spl.f rfl ?_))
    exact ⟨3, by decide, by decide, (by repeat' (first | exact trivial | exact rfl | refine And.intro ?_ ?_)), (by repeat' (first | exact trivial | exact rfl | refine And.intro ?_ ?_)), (by repeat' (first | exact trivial | exact rfl | refine And.intro ?_ ?_)), (by repeat' (first | exact trivial | exact rfl | refine And.intro ?_ ?_))⟩
  · (repeat (first | refine Spl.t rfl ?_ | refine Spl.f rfl ?_))
    (first | refine Sq.go ?_ | refine vL_nil (Sq.go ?_) | skip)
    try refine WJ.cut ?_
    refine OpJ.callV Awake3_c (fun _ _ => rfl) rfl rfl rfl ?_
    (repeat (first | refine Spl.t rfl ?_ | refine Spl.f rfl ?_))
    refine OpJ.callV Awake4_c (fun _ _ => rfl) rfl rfl rfl ?_
    (repeat (first | refine Spl.t rfl ?_ | refine Spl.f rfl ?_))
    refine OpJ.callV Awake5_c (fun _ _ => rfl) rfl rfl rfl ?_
    (repeat (first | refine Spl.t rfl ?_ | refine Spl.f rfl ?_))
    refine OpJ.callV tx (fun _ _ => rfl) rfl rfl rfl ?_
    (repeat (first | refine Spl.t rfl ?_ | refine Spl.f rfl ?_))
    (first | refine Sq.go ?_ | refine vL_nil (Sq.go ?_) | skip)
    try refine vc_sound _ _ _ _ ?_
    exact FinP.open rfl rfl
def fullO (i : Nat) : OP := ⟨0, ⟨(i : Int) + 1, 1⟩, ⟨0, 0⟩, 120⟩
def fullL (n : Nat) : List OP := (List.range n).map fullO
theorem fullL_succ (n : Nat) : fullL (n + 1) = fullL n ++ [fullO n] := by unfold fullL; rw [List.range_succ, List.map_append]; rfl
theorem insL_full (n : Nat) : (insL (fullL n)).length = n := by
  have : insL (fullL n) = fullL n := by
    unfold insL
    exact List.filter_eq_self.2 fun o ho => by
      unfold fullL at ho
      obtain ⟨j, _, rfl⟩ := List.mem_map.1 ho
      rfl
  rw [this]; unfold fullL; rw [List.length_map, List.length_range]
theorem check_full (i : Nat) (h : i ≤ 5000) : checkO (fullO i) = 0 := by
  have m : mayI (fullO i).i = true := by unfold mayI fullO; simp only [decide_eq_true_eq]; omega
  have n : noneI (fullO i).a = true := rfl
  unfold checkO
  rw [if_neg (by unfold fullO; simp), if_neg (by unfold fullO; simp), if_neg (by rw [m, n]; simp), if_neg (by rw [n]; simp), if_neg (by unfold fullO; simp)]
theorem wrong_full (m i : Nat) (h : m ≤ i) (hi : i ≤ 5000) : wrongO (fullL m) (fullO i) = if 4096 ≤ m then 7 else 0 := by
  have hf : findO 0 (fullO i).i (fullL m) = none := by
    cases hz : findO 0 (fullO i).i (fullL m) with
    | none => rfl
    | some x =>
      obtain ⟨x1, x2, x3⟩ := findO_some hz
      unfold fullL at x1
      obtain ⟨j, hj, rfl⟩ := List.mem_map.1 x1
      have := List.mem_range.1 hj
      have h5 := congrArg ID.c x3
      unfold fullO at h5
      simp only at h5
      omega
  unfold wrongO
  rw [if_neg (fun e => e (check_full i hi)), if_neg (by unfold fullO; simp), hf, if_neg (by simp), if_neg (by simp), if_neg (by unfold fullO; simp), insL_full]
theorem app_full (i : Nat) (hi : i ≤ 5000) : appL (fullL (min i 4096)) (fullO i) = fullL (min (i + 1) 4096) := by
  unfold appL
  rw [wrong_full _ _ (by omega) hi]
  by_cases h : 4096 ≤ i
  · rw [Nat.min_eq_right h, Nat.min_eq_right (by omega)]; rfl
  · rw [Nat.min_eq_left (by omega), Nat.min_eq_left (by omega), if_neg h, if_pos rfl, fullL_succ]
theorem CoreFull_c (n : Int) (h0 : 0 ≤ n) (h1 : n ≤ 255) : Cv 4 [.d (.v (.int .u8 n))] (bv true) := by
  obtain ⟨k, hk, hk2⟩ : ∃ k : Nat, (k : Int) = 4093 + n % 6 ∧ k ≤ 4098 := ⟨(4093 + n % 6).toNat, by omega, by omega⟩
  have ek : IntKind.i64.wrap (4093 + IntKind.i64.wrap (n.tmod 6)) = (k : Int) := by
    rw [Int.tmod_eq_emod_of_nonneg h0, wrap_id (n % 6) (by omega) (by omega), wrap_id _ (by omega) (by omega), hk]
  refine Ct.of_wv Tryd.f4 Tryd.func4 rfl rfl fun w H B g0 => ?_
  try refine WJ.cut ?_
  (first | refine Sq.go ?_ | refine vL_nil (Sq.go ?_) | skip)
  try refine WJ.cut ?_
  (first | refine Sq.go ?_ | refine vL_nil (Sq.go ?_) | skip)
  try refine WJ.cut ?_
  refine Req.of (by decide) ?_
  (first | refine Sq.go ?_ | refine vL_nil (Sq.go ?_) | skip)
  try refine WJ.cut ?_
  (first | refine Sq.go ?_ | refine vL_nil (Sq.go ?_) | skip)
  try refine WJ.cut ?_
  refine WJ.loopK (V := Nat × SS × Int) (fun v => [(12, iv v.1), (5, iv v.2.2)]) (fun v => [(3, .cells [.d v.2.1.t.d, .d v.2.1.p.d, iv v.2.1.n])]) [3] (fun v => k - v.1) (fun v => v.1 ≤ k ∧ isS v.2.1 (fullL (min v.1 4096))) (0, ⟨.nil, .nil, 0⟩, 0) ⟨by simp, isS_nil⟩ (by repeat' (first | exact trivial | exact rfl | refine And.intro ?_ ?_)) (by repeat' (first | exact trivial | exact rfl | refine And.intro ?_ ?_)) ?_
  rintro ⟨i, s, e⟩ ⟨hi, hs⟩
  simp only at hi hs
  refine Spl.of (fun h2 => ?_) (fun h2 => ?_)
  · have hlt : i < k := by have := of_decide_eq_true h2; rw [ek] at this; simp only at this; omega
    have hw := wrong_full (min i 4096) i (by omega) (by omega)
    have hap := Apply_c hs (fullO i)
    have his := appS_is hs (fullO i)
    rw [app_full i (by omega)] at his
    have e1 : IntKind.i64.wrap ((i : Int) + 1) = (i : Int) + 1 := wrap_id _ (by omega) (by omega)
    (repeat (first | refine Spl.t rfl ?_ | refine Spl.f rfl ?_))
    refine OpJ.callV hap (fun _ _ => rfl) (by show _ = some [stv s, opv (fullO i)]; rw [show (fullO i) = ⟨0, ⟨IntKind.i64.wrap ((i : Int) + 1), 1⟩, ⟨0, 0⟩, 120⟩ by rw [e1]; rfl]; rfl) rfl rfl ?_
    (repeat (first | refine Spl.t rfl ?_ | refine Spl.f rfl ?_))
    have hq : (decide (wrongO (fullL (min i 4096)) (fullO i) = 7) == decide ((i : Int) ≥ 4096)) = true := by
      rw [hw]
      by_cases h : 4096 ≤ i
      · rw [if_pos (by omega), decide_eq_true (show (i : Int) ≥ 4096 by omega)]; rfl
      · rw [if_neg (by omega), decide_eq_false (show ¬ (i : Int) ≥ 4096 by omega)]; rfl
    refine Spl.f (by simp only [bne, Bool.not_eq_false']; exact hq) ?_
    (repeat (first | refine Spl.t rfl ?_ | refine Spl.f rfl ?_))
    refine ⟨(i + 1, appS s (fullL (min i 4096)) (fullO i), wrongO (fullL (min i 4096)) (fullO i)), ⟨by simp only; omega, his⟩, by simp only; omega, ⟨some_iv e1, rfl, trivial⟩, (by repeat' (first | exact trivial | exact rfl | refine And.intro ?_ ?_)), ⟨rfl, trivial⟩, (by repeat' (first | exact trivial | exact rfl | refine And.intro ?_ ?_))⟩
  · have hge : i = k := by have := of_decide_eq_false h2; rw [ek] at this; simp only at this; omega
    have hsz : s.t.size = min i 4096 := by rw [hs.size, insL_full]
    (repeat (first | refine Spl.t rfl ?_ | refine Spl.f rfl ?_))
    (first | refine Sq.go ?_ | refine vL_nil (Sq.go ?_) | skip)
    try refine WJ.cut ?_
    refine OpJ.callV Awake6_c (fun _ _ => rfl) rfl rfl rfl ?_
    (repeat (first | refine Spl.t rfl ?_ | refine Spl.f rfl ?_))
    refine OpJ.callV (TLen_c s.t) (fun _ _ => rfl) rfl rfl rfl ?_
    (repeat (first | refine Spl.t rfl ?_ | refine Spl.f rfl ?_))
    (first | refine Sq.go ?_ | refine vL_nil (Sq.go ?_) | skip)
    try refine vc_sound _ _ _ _ ?_
    refine FinP.open rfl (congrArg bv (decide_eq_true ?_))
    rw [hsz, hge, ek]
    split <;> omega
end Go.Proofs.E
end
section
open Go Go.Gv
attribute [local irreducible] Go.Gv.WJ Go.Gv.OpJ Go.Gv.QJ Go.Gv.Spl Go.Gv.Req Go.Gv.IdxP Go.Gv.RegP Go.Gv.FinP Go.Gv.CellP Go.Gv.CellsP Go.Gv.ArrP Go.Gv.ArrsP Go.Gv.DropP Go.Gv.ByteP Go.Gv.StoreP
set_option maxRecDepth 100000
namespace Go.Proofs.E
theorem w32 (x : Int) (h : -2147483648 ≤ x) (h' : x ≤ 2147483647) : IntKind.i32.wrap x = x := by
  simp only [IntKind.wrap, IntKind.signed, IntKind.bits]; simp; omega
theorem bq (b u m : Int) (hb : 0 ≤ b) (hu : 0 ≤ u) (hu2 : u ≤ 1114111) (hm : 0 < m) (h : b + u / m < 256) : IntKind.u8.wrap (IntKind.i32.wrap (b + IntKind.i32.wrap (u.tdiv m))) = b + u / m := by
  have h1 : 0 ≤ u / m := Int.ediv_nonneg hu (by omega)
  rw [Int.tdiv_eq_ediv_of_nonneg hu, w32 (u / m) (by omega) (by omega), w32 _ (by omega) (by omega), wrap_u8', Int.emod_eq_of_lt (by omega) h]
theorem bm (u : Int) (hu : 0 ≤ u) (hu2 : u ≤ 1114111) : IntKind.u8.wrap (IntKind.i32.wrap (128 + u.tmod 64)) = 128 + u % 64 := by
  rw [Int.tmod_eq_emod_of_nonneg hu, w32 _ (by omega) (by omega), wrap_u8', Int.emod_eq_of_lt (by omega) (by omega)]
theorem bqm (u m : Int) (hu : 0 ≤ u) (hu2 : u ≤ 1114111) (hm : 0 < m) : IntKind.u8.wrap (IntKind.i32.wrap (128 + (IntKind.i32.wrap (u.tdiv m)).tmod 64)) = 128 + u / m % 64 := by
  have h1 : 0 ≤ u / m := Int.ediv_nonneg hu (by omega)
  have h2 : u / m ≤ u := Int.ediv_le_self _ hu
  rw [Int.tdiv_eq_ediv_of_nonneg hu, w32 (u / m) (by omega) (by omega), bm _ h1 (by omega)]
theorem strOf_byt (xs : List Int) : AV.d (.v (.string (strOf xs))) = sv (byt xs) := rfl
theorem Char_c (v : Int) (h0 : -2147483648 ≤ v) (h1 : v ≤ 2147483647) : Cv 103 [cv' v] (sv (byt (Lib.encodeRuneZ v))) := by
  by_cases hok : 0 ≤ v ∧ v ≤ 1114111 ∧ ¬ (55296 ≤ v ∧ v ≤ 57343)
  · obtain ⟨hU0, hU1, hUs⟩ := hok
    have hUe : Lib.encodeRuneZ v = Lib.encodeRuneZ v := rfl
    refine Ct.of_vc Tryd.f103 Tryd.func103 rfl rfl fun w H B g0 => ?_
    refine Spl.f (decide_eq_false (by omega)) ?_
    (repeat (first | refine Spl.t rfl ?_ | refine Spl.f rfl ?_))
    refine Spl.f (decide_eq_false (by omega)) ?_
    (repeat (first | refine Spl.t rfl ?_ | refine Spl.f rfl ?_))
    refine Spl.of (fun g => ?_) (fun g => ?_)
    · have g := of_decide_eq_true g
      (repeat (first | refine Spl.t rfl ?_ | refine Spl.f rfl ?_))
      refine Spl.f (decide_eq_false (by omega)) ?_
      (repeat (first | refine Spl.t rfl ?_ | refine Spl.f rfl ?_))
      (have q1 := bq 192 v 64; have q2 := bq 224 v 4096; have q3 := bq 240 v 262144; have m0 := bm v hU0 hU1; have m1 := bqm v 64 hU0 hU1 (by decide); have m2 := bqm v 4096 hU0 hU1 (by decide); refine Spl.of (fun g1 => ?_) (fun g1 => ?_); (have g1 := of_decide_eq_true g1; (repeat (first | refine Spl.t rfl ?_ | refine Spl.f rfl ?_)); refine OpJ.qu (O.bytesStr (ns := [IntKind.u8.wrap v]) rfl rfl rfl rfl rfl rfl) rfl ?_; refine FinP.open rfl ?_; show AV.d (.v (.string (strOf [IntKind.u8.wrap v]))) = _; rw [hUe, Lib.encodeRuneZ_one hU0 (by omega), wrap_u8', Int.emod_eq_of_lt hU0 (by omega)]; rfl); (have g1 := of_decide_eq_false g1; (repeat (first | refine Spl.t rfl ?_ | refine Spl.f rfl ?_)); refine Spl.of (fun g2 => ?_) (fun g2 => ?_); (have g2 := of_decide_eq_true g2; (repeat (first | refine Spl.t rfl ?_ | refine Spl.f rfl ?_)); refine Req.of (by decide) ?_; refine Req.of (by decide) ?_; refine OpJ.qu (O.bytesStr (ns := [IntKind.u8.wrap (IntKind.i32.wrap (192 + IntKind.i32.wrap (v.tdiv 64))), IntKind.u8.wrap (IntKind.i32.wrap (128 + v.tmod 64))]) rfl rfl rfl rfl rfl rfl) rfl ?_; refine FinP.open rfl ?_; show AV.d (.v (.string (strOf [_, _]))) = _; rw [hUe, Lib.encodeRuneZ_two (by omega) (by omega), q1 (by omega) hU0 hU1 (by decide) (by omega), m0]; rfl); (have g2 := of_decide_eq_false g2; (repeat (first | refine Spl.t rfl ?_ | refine Spl.f rfl ?_)); refine Spl.of (fun g3 => ?_) (fun g3 => ?_); (have g3 := of_decide_eq_true g3; (repeat (first | refine Spl.t rfl ?_ | refine Spl.f rfl ?_)); refine Req.of (by decide) ?_; refine Req.of (by decide) ?_; refine Req.of (by decide) ?_; refine Req.of (by decide) ?_; refine OpJ.qu (O.bytesStr (ns := [IntKind.u8.wrap (IntKind.i32.wrap (224 + IntKind.i32.wrap (v.tdiv 4096))), IntKind.u8.wrap (IntKind.i32.wrap (128 + (IntKind.i32.wrap (v.tdiv 64)).tmod 64)), IntKind.u8.wrap (IntKind.i32.wrap (128 + v.tmod 64))]) rfl rfl rfl rfl rfl rfl) rfl ?_; refine FinP.open rfl ?_; show AV.d (.v (.string (strOf [_, _, _]))) = _; rw [hUe, Lib.encodeRuneZ_three (by omega), q2 (by omega) hU0 hU1 (by decide) (by omega), m0, m1]; rfl); (have g3 := of_decide_eq_false g3; (repeat (first | refine Spl.t rfl ?_ | refine Spl.f rfl ?_)); refine Req.of (by decide) ?_; refine Req.of (by decide) ?_; refine Req.of (by decide) ?_; refine Req.of (by decide) ?_; refine Req.of (by decide) ?_; refine Req.of (by decide) ?_; refine OpJ.qu (O.bytesStr (ns := [IntKind.u8.wrap (IntKind.i32.wrap (240 + IntKind.i32.wrap (v.tdiv 262144))), IntKind.u8.wrap (IntKind.i32.wrap (128 + (IntKind.i32.wrap (v.tdiv 4096)).tmod 64)), IntKind.u8.wrap (IntKind.i32.wrap (128 + (IntKind.i32.wrap (v.tdiv 64)).tmod 64)), IntKind.u8.wrap (IntKind.i32.wrap (128 + v.tmod 64))]) rfl rfl rfl rfl rfl rfl) rfl ?_; refine FinP.open rfl ?_; show AV.d (.v (.string (strOf [_, _, _, _]))) = _; rw [hUe, Lib.encodeRuneZ_four (by omega) (by omega), q3 (by omega) hU0 hU1 (by decide) (by omega), m0, m1, m2]; rfl))))
    · (repeat (first | refine Spl.t rfl ?_ | refine Spl.f rfl ?_))
      (have q1 := bq 192 v 64; have q2 := bq 224 v 4096; have q3 := bq 240 v 262144; have m0 := bm v hU0 hU1; have m1 := bqm v 64 hU0 hU1 (by decide); have m2 := bqm v 4096 hU0 hU1 (by decide); refine Spl.of (fun g1 => ?_) (fun g1 => ?_); (have g1 := of_decide_eq_true g1; (repeat (first | refine Spl.t rfl ?_ | refine Spl.f rfl ?_)); refine OpJ.qu (O.bytesStr (ns := [IntKind.u8.wrap v]) rfl rfl rfl rfl rfl rfl) rfl ?_; refine FinP.open rfl ?_; show AV.d (.v (.string (strOf [IntKind.u8.wrap v]))) = _; rw [hUe, Lib.encodeRuneZ_one hU0 (by omega), wrap_u8', Int.emod_eq_of_lt hU0 (by omega)]; rfl); (have g1 := of_decide_eq_false g1; (repeat (first | refine Spl.t rfl ?_ | refine Spl.f rfl ?_)); refine Spl.of (fun g2 => ?_) (fun g2 => ?_); (have g2 := of_decide_eq_true g2; (repeat (first | refine Spl.t rfl ?_ | refine Spl.f rfl ?_)); refine Req.of (by decide) ?_; refine Req.of (by decide) ?_; refine OpJ.qu (O.bytesStr (ns := [IntKind.u8.wrap (IntKind.i32.wrap (192 + IntKind.i32.wrap (v.tdiv 64))), IntKind.u8.wrap (IntKind.i32.wrap (128 + v.tmod 64))]) rfl rfl rfl rfl rfl rfl) rfl ?_; refine FinP.open rfl ?_; show AV.d (.v (.string (strOf [_, _]))) = _; rw [hUe, Lib.encodeRuneZ_two (by omega) (by omega), q1 (by omega) hU0 hU1 (by decide) (by omega), m0]; rfl); (have g2 := of_decide_eq_false g2; (repeat (first | refine Spl.t rfl ?_ | refine Spl.f rfl ?_)); refine Spl.of (fun g3 => ?_) (fun g3 => ?_); (have g3 := of_decide_eq_true g3; (repeat (first | refine Spl.t rfl ?_ | refine Spl.f rfl ?_)); refine Req.of (by decide) ?_; refine Req.of (by decide) ?_; refine Req.of (by decide) ?_; refine Req.of (by decide) ?_; refine OpJ.qu (O.bytesStr (ns := [IntKind.u8.wrap (IntKind.i32.wrap (224 + IntKind.i32.wrap (v.tdiv 4096))), IntKind.u8.wrap (IntKind.i32.wrap (128 + (IntKind.i32.wrap (v.tdiv 64)).tmod 64)), IntKind.u8.wrap (IntKind.i32.wrap (128 + v.tmod 64))]) rfl rfl rfl rfl rfl rfl) rfl ?_; refine FinP.open rfl ?_; show AV.d (.v (.string (strOf [_, _, _]))) = _; rw [hUe, Lib.encodeRuneZ_three (by omega), q2 (by omega) hU0 hU1 (by decide) (by omega), m0, m1]; rfl); (have g3 := of_decide_eq_false g3; (repeat (first | refine Spl.t rfl ?_ | refine Spl.f rfl ?_)); refine Req.of (by decide) ?_; refine Req.of (by decide) ?_; refine Req.of (by decide) ?_; refine Req.of (by decide) ?_; refine Req.of (by decide) ?_; refine Req.of (by decide) ?_; refine OpJ.qu (O.bytesStr (ns := [IntKind.u8.wrap (IntKind.i32.wrap (240 + IntKind.i32.wrap (v.tdiv 262144))), IntKind.u8.wrap (IntKind.i32.wrap (128 + (IntKind.i32.wrap (v.tdiv 4096)).tmod 64)), IntKind.u8.wrap (IntKind.i32.wrap (128 + (IntKind.i32.wrap (v.tdiv 64)).tmod 64)), IntKind.u8.wrap (IntKind.i32.wrap (128 + v.tmod 64))]) rfl rfl rfl rfl rfl rfl) rfl ?_; refine FinP.open rfl ?_; show AV.d (.v (.string (strOf [_, _, _, _]))) = _; rw [hUe, Lib.encodeRuneZ_four (by omega) (by omega), q3 (by omega) hU0 hU1 (by decide) (by omega), m0, m1, m2]; rfl))))
  · refine Ct.of_vc Tryd.f103 Tryd.func103 rfl rfl fun w H B g0 => ?_
    refine Spl.of (fun g => ?_) (fun g => ?_)
    · (repeat (first | refine Spl.t rfl ?_ | refine Spl.f rfl ?_))
      ((repeat (first | refine Spl.t rfl ?_ | refine Spl.f rfl ?_)); refine Req.of (by decide) ?_; refine Req.of (by decide) ?_; refine Req.of (by decide) ?_; refine Req.of (by decide) ?_; refine OpJ.qu (O.bytesStr (ns := [239, 191, 189]) rfl rfl rfl rfl rfl rfl) rfl ?_; refine FinP.open rfl ?_; show AV.d (.v (.string (strOf [239, 191, 189]))) = _; rw [Lib.encodeRuneZ_bad (by omega)]; rfl)
    · have g := of_decide_eq_false g
      (repeat (first | refine Spl.t rfl ?_ | refine Spl.f rfl ?_))
      refine Spl.of (fun g4 => ?_) (fun g4 => ?_)
      · (repeat (first | refine Spl.t rfl ?_ | refine Spl.f rfl ?_))
        ((repeat (first | refine Spl.t rfl ?_ | refine Spl.f rfl ?_)); refine Req.of (by decide) ?_; refine Req.of (by decide) ?_; refine Req.of (by decide) ?_; refine Req.of (by decide) ?_; refine OpJ.qu (O.bytesStr (ns := [239, 191, 189]) rfl rfl rfl rfl rfl rfl) rfl ?_; refine FinP.open rfl ?_; show AV.d (.v (.string (strOf [239, 191, 189]))) = _; rw [Lib.encodeRuneZ_bad (by omega)]; rfl)
      · have g4 := of_decide_eq_false g4
        (repeat (first | refine Spl.t rfl ?_ | refine Spl.f rfl ?_))
        refine Spl.t (decide_eq_true (by omega)) ?_
        (repeat (first | refine Spl.t rfl ?_ | refine Spl.f rfl ?_))
        refine Spl.t (decide_eq_true (by omega)) ?_
        (repeat (first | refine Spl.t rfl ?_ | refine Spl.f rfl ?_))
        ((repeat (first | refine Spl.t rfl ?_ | refine Spl.f rfl ?_)); refine Req.of (by decide) ?_; refine Req.of (by decide) ?_; refine Req.of (by decide) ?_; refine Req.of (by decide) ?_; refine OpJ.qu (O.bytesStr (ns := [239, 191, 189]) rfl rfl rfl rfl rfl rfl) rfl ?_; refine FinP.open rfl ?_; show AV.d (.v (.string (strOf [239, 191, 189]))) = _; rw [Lib.encodeRuneZ_bad (by omega)]; rfl)
theorem rank_snoc {L : List EL} {i : Nat} {e : EL} (h : L[i]? = some e) : rankL L ((i + 1 : Nat) : Int) = rankL L (i : Int) + TR.one e := by
  unfold rankL
  rw [Int.toNat_natCast, Int.toNat_natCast, take_snoc h, List.filter_append, List.length_append, List.filter_cons, one_le]
  cases e.dead <;> simp
theorem rank_le (L : List EL) (i : Int) : rankL L i ≤ L.length := by
  unfold rankL
  exact Nat.le_trans (List.length_filter_le _ _) (by rw [List.length_take]; omega)
theorem RRank_c (L : List EL) (i : Int) (hL : L.length ≤ 1000000) : Cv 81 [.d (.sl 4 (L.map elD)), iv i] (iv (rankL L i)) := by
  have fin : ∀ k : Nat, k ≤ L.length → ¬ ((k : Int) < L.length ∧ (k : Int) < i) → (k = 0 ∨ (k : Int) ≤ i) → (rankL L (k : Int) : Int) = (rankL L i : Int) := fun k hk hn hi => by
    have : rankL L (k : Int) = rankL L i := by
      unfold rankL
      rw [Int.toNat_natCast]
      by_cases h : k = L.length
      · rw [h, List.take_length, List.take_of_length_le (by omega)]
      · have : i.toNat = k := by omega
        rw [this]
    rw [this]
  refine Ct.of_vc Tryd.f81 Tryd.func81 rfl rfl fun w H B g0 => ?_
  refine WJ.loopK (V := Nat) (fun k => [(6, iv k), (5, iv (rankL L (k : Int)))]) (fun _ => []) [] (fun k => L.length - k) (fun k => k ≤ L.length ∧ (k = 0 ∨ (k : Int) ≤ i)) 0 ⟨by omega, .inl rfl⟩ ⟨rfl, some_iv (by simp [rankL]), trivial⟩ (by repeat' (first | exact trivial | exact rfl | refine And.intro ?_ ?_)) ?_
  rintro k ⟨hk, hki⟩
  have hr := rank_le L (k : Int)
  refine Spl.of (fun h1 => ?_) (fun h1 => ?_)
  · have hlt : k < L.length := by have := of_decide_eq_true h1; simp at this; omega
    have hx : L[k]? = some L[k] := by simp
    (repeat (first | refine Spl.t rfl ?_ | refine Spl.f rfl ?_))
    refine Spl.of (fun h2 => ?_) (fun h2 => ?_)
    · have h2 := of_decide_eq_true h2
      have hsn := rank_snoc hx
      rw [one_le] at hsn
      (repeat (first | refine Spl.t rfl ?_ | refine Spl.f rfl ?_))
      refine IdxP.of (elD L[k]) (by omega) (by simp [hx]) ?_
      refine Spl.of (fun h3 => ?_) (fun h3 => ?_)
      · have h3 : L[k].dead = false := by simpa using h3
        rw [if_neg (by rw [h3]; decide)] at hsn
        (repeat (first | refine Spl.t rfl ?_ | refine Spl.f rfl ?_))
        exact ⟨k + 1, ⟨by omega, .inr (by omega)⟩, by omega, ⟨some_iv (wrap_id _ (by omega) (by omega)), some_iv (by rw [wrap_id _ (by omega) (by omega), hsn]; omega), trivial⟩, (by repeat' (first | exact trivial | exact rfl | refine And.intro ?_ ?_)), (by repeat' (first | exact trivial | exact rfl | refine And.intro ?_ ?_)), (by repeat' (first | exact trivial | exact rfl | refine And.intro ?_ ?_))⟩
      · have h3 : L[k].dead = true := by simpa using h3
        rw [if_pos h3] at hsn
        (repeat (first | refine Spl.t rfl ?_ | refine Spl.f rfl ?_))
        exact ⟨k + 1, ⟨by omega, .inr (by omega)⟩, by omega, ⟨some_iv (wrap_id _ (by omega) (by omega)), some_iv (by rw [hsn]; rfl), trivial⟩, (by repeat' (first | exact trivial | exact rfl | refine And.intro ?_ ?_)), (by repeat' (first | exact trivial | exact rfl | refine And.intro ?_ ?_)), (by repeat' (first | exact trivial | exact rfl | refine And.intro ?_ ?_))⟩
    · have h2 := of_decide_eq_false h2
      (repeat (first | refine Spl.t rfl ?_ | refine Spl.f rfl ?_))
      exact FinP.open rfl (congrArg iv (fin k hk (by omega) hki))
  · have h1 := of_decide_eq_false h1
    simp at h1
    (repeat (first | refine Spl.t rfl ?_ | refine Spl.f rfl ?_))
    exact FinP.open rfl (congrArg iv (fin k hk (by omega) hki))
theorem RText3_c (L : List EL) (hL : L.length ≤ 1000000) (hok : ∀ e, e ∈ L → okE e) : Cv 82 [.d (.sl 4 (L.map elD))] (sv (byt (txtZ L))) := by
  have hb : ∀ a b : List Int, byt (a ++ b) = byt a ++ byt b := fun a b => by unfold byt; rw [List.map_append]
  refine Ct.of_vc Tryd.f82 Tryd.func82 rfl rfl fun w H B g0 => ?_
  refine WJ.loopK (V := Nat) (fun k => [(4, iv k), (3, sv (byt (txtZ (L.take k))))]) (fun _ => []) [] (fun k => L.length - k) (fun k => k ≤ L.length) 0 (by omega) ⟨rfl, rfl, trivial⟩ (by repeat' (first | exact trivial | exact rfl | refine And.intro ?_ ?_)) ?_
  intro k hk
  refine Spl.of (fun h1 => ?_) (fun h1 => ?_)
  · have hlt : k < L.length := by have := of_decide_eq_true h1; simp at this; omega
    have hx : L[k]? = some L[k] := by simp
    have hlen : (byt (txtZ (L.take k))).length ≤ 4 * L.length := by
      unfold byt
      rw [List.length_map]
      have := txtZ_len (L.take k)
      rw [List.length_take] at this
      omega
    have henc := Lib.encodeRuneZ_length L[k].ch
    have hsn : txtZ (L.take (k + 1)) = txtZ (L.take k) ++ (if L[k].dead = true then [] else Lib.encodeRuneZ L[k].ch) := by
      rw [take_snoc hx, txtZ_app]
      congr 1
      rw [txtZ]
      split <;> simp [txtZ]
    (repeat (first | refine Spl.t rfl ?_ | refine Spl.f rfl ?_))
    refine IdxP.of (elD L[k]) (by omega) (by simp [hx]) ?_
    refine Spl.of (fun h3 => ?_) (fun h3 => ?_)
    · have h3 : L[k].dead = false := by simpa using h3
      rw [if_neg (by rw [h3]; decide)] at hsn
      obtain ⟨o1, o2⟩ := hok L[k] (List.getElem_mem hlt)
      (repeat (first | refine Spl.t rfl ?_ | refine Spl.f rfl ?_))
      refine IdxP.of (elD L[k]) (by omega) (by simp [hx]) ?_
      refine OpJ.callV (Char_c L[k].ch o1 o2) (fun _ _ => rfl) rfl rfl rfl ?_
      refine Req.of (by show (byt (txtZ (L.take k))).length + (byt (Lib.encodeRuneZ L[k].ch)).length ≤ _; have : (byt (Lib.encodeRuneZ L[k].ch)).length ≤ 4 := (by unfold byt; rw [List.length_map]; omega); omega) ?_
      exact ⟨k + 1, by omega, by omega, ⟨some_iv (wrap_id _ (by omega) (by omega)), some_sv (by rw [hsn, hb]), trivial⟩, (by repeat' (first | exact trivial | exact rfl | refine And.intro ?_ ?_)), (by repeat' (first | exact trivial | exact rfl | refine And.intro ?_ ?_)), (by repeat' (first | exact trivial | exact rfl | refine And.intro ?_ ?_))⟩
    · have h3 : L[k].dead = true := by simpa using h3
      rw [if_pos h3, List.append_nil] at hsn
      (repeat (first | refine Spl.t rfl ?_ | refine Spl.f rfl ?_))
      exact ⟨k + 1, by omega, by omega, ⟨some_iv (wrap_id _ (by omega) (by omega)), some_sv (by rw [hsn]), trivial⟩, (by repeat' (first | exact trivial | exact rfl | refine And.intro ?_ ?_)), (by repeat' (first | exact trivial | exact rfl | refine And.intro ?_ ?_)), (by repeat' (first | exact trivial | exact rfl | refine And.intro ?_ ?_))⟩
  · have h1 := of_decide_eq_false h1
    simp at h1
    (repeat (first | refine Spl.t rfl ?_ | refine Spl.f rfl ?_))
    exact FinP.open rfl (by rw [List.take_of_length_le (by omega)]; rfl)
theorem Of3_c (e : EL) : Cv 84 [elv e] (elv e) := by
  refine Ct.of_vc Tryd.f84 Tryd.func84 rfl rfl fun w H B g0 => ?_
  refine RegP.of rfl (by decide +kernel) ?_
  refine QuietP.of (QJ.call (Of_c e.id) (fun _ _ => rfl) rfl rfl) ?_
  exact FinP.open rfl rfl
theorem eqRL (a b : EL) : eqT Tryd.prog 4 103 [.int .i64 a.id.c, .int .i64 a.id.s, .int .i32 a.ch, .bool a.dead] [.int .i64 b.id.c, .int .i64 b.id.s, .int .i32 b.ch, .bool b.dead] = some (decide (a = b)) := by
  show some ((decide (a.id.c = b.id.c) && (decide (a.id.s = b.id.s) && true)) && (decide (a.ch = b.ch) && ((a.dead == b.dead) && true))) = _
  obtain ⟨⟨a1, a2⟩, a3, a4⟩ := a
  obtain ⟨⟨b1, b2⟩, b3, b4⟩ := b
  simp [Bool.and_assoc, and_assoc]
  cases a4 <;> cases b4 <;> simp
theorem eqRL_ok : eqOk Tryd.prog 4 103 = true := by kernel_rfl
theorem eqRL_g : Tryd.prog.eqGuardType Tryd.prog.depth 103 = false := by kernel_rfl
end Go.Proofs.E
end
section
open Go Go.Gv
attribute [local irreducible] Go.Gv.WJ Go.Gv.OpJ Go.Gv.QJ Go.Gv.Spl Go.Gv.Req Go.Gv.IdxP Go.Gv.RegP Go.Gv.FinP Go.Gv.CellP Go.Gv.CellsP Go.Gv.ArrP Go.Gv.ArrsP Go.Gv.DropP Go.Gv.ByteP Go.Gv.StoreP
set_option maxRecDepth 100000
namespace Go.Proofs.E
theorem rank_all (L : List EL) : rankL L (L.length : Int) = liveL L := by unfold rankL liveL; rw [Int.toNat_natCast, List.take_length]
theorem Is3_c (t : TR) (hb : t.okb) (hs : t.size ≤ 800000) (hok : ∀ e, e ∈ t.els → okE e) : Cv 54 [tv t, .d (.sl 4 (t.els.map elD))] (bv true) := by
  have it := tall_iter t hs
  have tx := Text_c t hs hok
  have htl := TR.els_len t
  have rk := RRank_c t.els (t.els.length : Int) (by omega)
  have rt := RText3_c t.els (by omega) hok
  have hlv := live_els t
  have hml : ((t.els.map elD).length : Int) = (t.els.length : Int) := by simp
  refine Ct.of_wv Tryd.f54 Tryd.func54 rfl rfl fun w H B g0 => ?_
  try refine WJ.cut ?_
  (first | refine Sq.go ?_ | refine vL_nil (Sq.go ?_) | skip)
  try refine WJ.cut ?_
  refine RegP.of rfl (by decide +kernel) ?_
  refine QuietP.of (QJ.call (TLen_c t) (fun _ _ => rfl) rfl rfl) ?_
  refine Spl.f (by rw [hml, htl]; simp) ?_
  (repeat (first | refine Spl.t rfl ?_ | refine Spl.f rfl ?_))
  refine QuietP.of (QJ.call (TAlive_c t) (fun _ _ => rfl) rfl rfl) ?_
  (repeat (first | refine Spl.t rfl ?_ | refine Spl.f rfl ?_))
  refine QuietP.of (QJ.call rk (fun _ _ => rfl) (by rw [← hml]; rfl) rfl) ?_
  (repeat (first | refine Spl.t rfl ?_ | refine Spl.f rfl ?_))
  refine Spl.f (by rw [rank_all, hlv]; simp) ?_
  (repeat (first | refine Spl.t rfl ?_ | refine Spl.f rfl ?_))
  refine QuietP.of (QJ.call tx (fun _ _ => rfl) rfl rfl) ?_
  (repeat (first | refine Spl.t rfl ?_ | refine Spl.f rfl ?_))
  refine QuietP.of (QJ.call rt (fun _ _ => rfl) rfl rfl) ?_
  (repeat (first | refine Spl.t rfl ?_ | refine Spl.f rfl ?_))
  refine Spl.f (by simp) ?_
  (repeat (first | refine Spl.t rfl ?_ | refine Spl.f rfl ?_))
  (first | refine Sq.go ?_ | refine vL_nil (Sq.go ?_) | skip)
  try refine WJ.cut ?_
  (first | refine Sq.go ?_ | refine vL_nil (Sq.go ?_) | skip)
  try refine WJ.cut ?_
  refine OpJ.callV (TAll_c t) (fun _ _ => rfl) rfl rfl rfl ?_
  (repeat (first | refine Spl.t rfl ?_ | refine Spl.f rfl ?_))
  (first | refine Sq.go ?_ | refine vL_nil (Sq.go ?_) | skip)
  try refine WJ.cut ?_
  refine OpJ.callV (TAll_c t) (fun _ _ => rfl) rfl rfl rfl ?_
  refine WJ.rangeK itA (itsL 0 t.els) (V := Nat) (fun m => [(5, .cells [iv m]), (4, .cells [bv false])]) [5, 4] (fun pre m => m = pre.length) (fun _ _ _ => False) 0 it rfl rfl (.fn _ _) rfl (fun _ _ => rfl) rfl rfl (fun _ => rfl) (by repeat' (first | exact trivial | exact rfl | refine And.intro ?_ ?_)) rfl ?_ ?_ ?_
  · intro l0 pre x post m hL hI w0 H0 B0 g1
    intro w0 H0 B0 g1
    have hget : (itsL 0 t.els)[m]? = some x := by rw [hL, hI]; simp
    rw [itsL_get] at hget
    obtain ⟨e, he⟩ : ∃ e, t.els[m]? = some e := by
      cases hz : t.els[m]? with
      | none => rw [hz] at hget; cases hget
      | some e => exact ⟨e, rfl⟩
    rw [he] at hget
    have hxe : x = (m, e) := by simpa using hget.symm
    have hlt : m < t.els.length := (List.getElem?_eq_some_iff.1 he).1
    subst hxe
    have hat := At_c t (m : Int) hs
    rw [show atT t (m : Int) = some e by unfold atT; rw [if_pos (by omega), Int.toNat_natCast, he]] at hat
    refine OpJ.callV hat (fun _ _ => rfl) rfl rfl rfl ?_
    (repeat (first | refine Spl.t rfl ?_ | refine Spl.f rfl ?_))
    refine RegP.of rfl (by decide +kernel) ?_
    refine Spl.f (decide_eq_false (by rw [hml]; omega)) ?_
    (repeat (first | refine Spl.t rfl ?_ | refine Spl.f rfl ?_))
    refine Spl.f (by simp) ?_
    (repeat (first | refine Spl.t rfl ?_ | refine Spl.f rfl ?_))
    refine QuietP.of (QJ.call (Of3_c e) (fun _ _ => rfl) rfl rfl) ?_
    (repeat (first | refine Spl.t rfl ?_ | refine Spl.f rfl ?_))
    refine IdxP.of (elD e) (by omega) (by simp [he]) ?_
    (repeat (first | refine Spl.t rfl ?_ | refine Spl.f rfl ?_))
    refine QuietP.of (O.neT 4 rfl rfl rfl rfl rfl eqRL_ok eqRL_g (eqRL e e)) ?_
    (repeat (first | refine Spl.t rfl ?_ | refine Spl.f rfl ?_))
    refine Spl.f (by simp) ?_
    (repeat (first | refine Spl.t rfl ?_ | refine Spl.f rfl ?_))
    refine QuietP.of (O.neT 4 rfl rfl rfl rfl rfl eqEL_ok eqEL_g (eqEL e e)) ?_
    (repeat (first | refine Spl.t rfl ?_ | refine Spl.f rfl ?_))
    refine Spl.f (by simp) ?_
    (repeat (first | refine Spl.t rfl ?_ | refine Spl.f rfl ?_))
    exact ⟨m + 1, by show m + 1 = (pre ++ [(m, e)]).length; simp; exact hI, ⟨congrArg (fun z : Int => some (Ent.cells [iv z])) (wrap_id _ (by omega) (by omega)), (by repeat' (first | exact trivial | exact rfl | refine And.intro ?_ ?_))⟩⟩
  · intro m hI
    rw [itsL_len] at hI
    subst hI
    (first | refine Sq.go ?_ | refine vL_nil (Sq.go ?_) | skip)
    try refine vc_sound _ _ _ _ ?_
    refine RegP.of rfl (by decide +kernel) ?_
    refine Spl.t (decide_eq_true hml.symm) ?_
    (repeat (first | refine Spl.t rfl ?_ | refine Spl.f rfl ?_))
    refine QuietP.of (QJ.call (TDepth_c t) (fun _ _ => rfl) rfl rfl) ?_
    (repeat (first | refine Spl.t rfl ?_ | refine Spl.f rfl ?_))
    refine QuietP.of (QJ.call (Flat_c t.deep t.els.length (by have := t.deep_le; omega) (by omega) (fun h => ?_) (fun h => ?_) (by rw [htl]; exact TR.deep_flat hb)) (fun _ _ => rfl) (by rw [← hml]; rfl) rfl) ?_
    · have := t.deep_le; omega
    · exact TR.deep_pos (by omega)
    (repeat (first | refine Spl.t rfl ?_ | refine Spl.f rfl ?_))
    exact FinP.open rfl rfl
  · intro c p v h
    exact h.elim
end Go.Proofs.E
end
section
open Go Go.Gv
attribute [local irreducible] Go.Gv.WJ Go.Gv.OpJ Go.Gv.QJ Go.Gv.Spl Go.Gv.Req Go.Gv.IdxP Go.Gv.RegP Go.Gv.FinP Go.Gv.CellP Go.Gv.CellsP Go.Gv.ArrP Go.Gv.ArrsP Go.Gv.DropP Go.Gv.ByteP Go.Gv.StoreP
set_option maxRecDepth 100000
namespace Go.Proofs.E
/-- The place of the first operation of a kind and an id. -/
def hasIx (k : Int) (a : ID) : List OP → Int
  | [] => -1
  | o :: r => if o.k = k ∧ o.i = a then 0 else (if hasIx k a r < 0 then -1 else hasIx k a r + 1)
theorem hasIx_at {k : Int} {a : ID} : ∀ {l : List OP} {n : Nat} {o : OP}, l[n]? = some o → o.k = k ∧ o.i = a → (∀ j x, j < n → l[j]? = some x → ¬ (x.k = k ∧ x.i = a)) → hasIx k a l = n ∧ findO k a l = some o
  | [], n, o, h, _, _ => by simp at h
  | x :: r, 0, o, h, ho, _ => by
    simp at h; subst h
    rw [hasIx, if_pos ho, findO, if_pos ho]; exact ⟨rfl, rfl⟩
  | x :: r, n + 1, o, h, ho, hn => by
    have h0 := hn 0 x (by omega) rfl
    obtain ⟨h1, h2⟩ := hasIx_at (l := r) (n := n) (by simpa using h) ho fun j y hj hy => hn (j + 1) y (by omega) (by simpa using hy)
    rw [hasIx, if_neg h0, findO, if_neg h0, h1, if_neg (by omega), h2]
    exact ⟨by simp, rfl⟩
theorem hasIx_none {k : Int} {a : ID} : ∀ {l : List OP}, (∀ (j : Nat) (x : OP), l[j]? = some x → ¬ (x.k = k ∧ x.i = a)) → hasIx k a l = -1 ∧ findO k a l = none
  | [], _ => ⟨rfl, rfl⟩
  | x :: r, hn => by
    have h0 := hn 0 x rfl
    obtain ⟨h1, h2⟩ := hasIx_none (l := r) fun j y hy => hn (j + 1) y (by simpa using hy)
    rw [hasIx, if_neg h0, findO, if_neg h0, h1, h2]; exact ⟨rfl, rfl⟩
theorem hasIx_is (k : Int) (a : ID) (l : List OP) : (hasIx k a l = -1 ∧ findO k a l = none) ∨ ∃ (n : Nat) (o : OP), hasIx k a l = n ∧ l[n]? = some o ∧ findO k a l = some o := by
  by_cases h : ∃ (n : Nat) (o : OP), l[n]? = some o ∧ (o.k = k ∧ o.i = a)
  · right
    obtain ⟨n, o, h1, h2⟩ := h
    induction l generalizing n with
    | nil => simp at h1
    | cons x r ih =>
      by_cases hx : x.k = k ∧ x.i = a
      · exact ⟨0, x, by rw [hasIx, if_pos hx]; rfl, rfl, by rw [findO, if_pos hx]⟩
      · cases n with
        | zero => simp at h1; subst h1; exact absurd h2 hx
        | succ n =>
          obtain ⟨m, y, h3, h4, h5⟩ := ih n (by simpa using h1)
          exact ⟨m + 1, y, by rw [hasIx, if_neg hx, h3, if_neg (by omega)]; simp, by simpa using h4, by rw [findO, if_neg hx, h5]⟩
  · left
    exact hasIx_none fun j x hj hx => h ⟨j, x, hj, hx⟩
theorem RHas_c (l : List OP) (k : Int) (a : ID) (hl : l.length ≤ 1000000) : Cv 51 [.d (.sl 6 (l.map opD)), iv k, idv a] (iv (hasIx k a l)) := by
  refine Ct.of_vc Tryd.f51 Tryd.func51 rfl rfl fun w H B g0 => ?_
  refine WJ.loopK (V := Nat) (fun i => [(7, iv i)]) (fun _ => []) [] (fun i => l.length - i) (fun i => i ≤ l.length ∧ ∀ (j : Nat) (y : OP), j < i → l[j]? = some y → ¬ (y.k = k ∧ y.i = a)) 0 ⟨by omega, fun j y h => by omega⟩ (by repeat' (first | exact trivial | exact rfl | refine And.intro ?_ ?_)) (by repeat' (first | exact trivial | exact rfl | refine And.intro ?_ ?_)) ?_
  intro i ⟨hi, hne⟩
  refine Spl.of (fun h1 => ?_) (fun h1 => ?_)
  · have hlt : i < l.length := by have := of_decide_eq_true h1; simp at this; omega
    have hx : l[i]? = some l[i] := by simp
    have next : ¬ (l[i].k = k ∧ l[i].i = a) → ∀ (j : Nat) (y : OP), j < i + 1 → l[j]? = some y → ¬ (y.k = k ∧ y.i = a) := fun hn j y hj hy => by
      by_cases h : j = i
      · subst h; rw [hx] at hy; cases hy; exact hn
      · exact hne j y (by omega) hy
    (repeat (first | refine Spl.t rfl ?_ | refine Spl.f rfl ?_))
    refine RegP.of rfl (by decide +kernel) ?_
    refine IdxP.of (opD l[i]) (by omega) (by simp [hx]) ?_
    refine Spl.of (fun h2 => ?_) (fun h2 => ?_)
    · have h2 : l[i].k = k := of_decide_eq_true h2
      (repeat (first | refine Spl.t rfl ?_ | refine Spl.f rfl ?_))
      refine IdxP.of (opD l[i]) (by omega) (by simp [hx]) ?_
      (repeat (first | refine Spl.t rfl ?_ | refine Spl.f rfl ?_))
      refine QuietP.of (O.eqT 3 rfl rfl rfl rfl rfl eqR_ok eqR_g (eqR l[i].i a)) ?_
      (repeat (first | refine Spl.t rfl ?_ | refine Spl.f rfl ?_))
      refine Spl.of (fun h3 => ?_) (fun h3 => ?_)
      · have h3 : l[i].i = a := of_decide_eq_true h3
        (repeat (first | refine Spl.t rfl ?_ | refine Spl.f rfl ?_))
        refine FinP.open rfl (congrArg iv ?_)
        exact (hasIx_at hx ⟨h2, h3⟩ hne).1.symm
      · have h3 : ¬ l[i].i = a := of_decide_eq_false h3
        (repeat (first | refine Spl.t rfl ?_ | refine Spl.f rfl ?_))
        exact ⟨i + 1, ⟨by omega, next fun e => h3 e.2⟩, by omega, ⟨some_iv (wrap_id _ (by omega) (by omega)), trivial⟩, (by repeat' (first | exact trivial | exact rfl | refine And.intro ?_ ?_)), (by repeat' (first | exact trivial | exact rfl | refine And.intro ?_ ?_)), (by repeat' (first | exact trivial | exact rfl | refine And.intro ?_ ?_))⟩
    · have h2 : ¬ l[i].k = k := of_decide_eq_false h2
      (repeat (first | refine Spl.t rfl ?_ | refine Spl.f rfl ?_))
      exact ⟨i + 1, ⟨by omega, next fun e => h2 e.1⟩, by omega, ⟨some_iv (wrap_id _ (by omega) (by omega)), trivial⟩, (by repeat' (first | exact trivial | exact rfl | refine And.intro ?_ ?_)), (by repeat' (first | exact trivial | exact rfl | refine And.intro ?_ ?_)), (by repeat' (first | exact trivial | exact rfl | refine And.intro ?_ ?_))⟩
  · have h1 := of_decide_eq_false h1
    simp at h1
    (repeat (first | refine Spl.t rfl ?_ | refine Spl.f rfl ?_))
    refine FinP.open rfl (congrArg iv ?_)
    exact (hasIx_none fun j x hj => hne j x (by have := (List.getElem?_eq_some_iff.1 hj).1; omega) hj).1.symm
theorem RPlace_c (L : List EL) (a : ID) (hL : L.length ≤ 1000000) : Cv 19 [.d (.sl 4 (L.map elD)), idv a] (iv (placeL a L)) := by
  refine Ct.of_vc Tryd.f19 Tryd.func19 rfl rfl fun w H B g0 => ?_
  refine WJ.loopK (V := Nat) (fun i => [(5, iv i)]) (fun _ => []) [] (fun i => L.length - i) (fun i => i ≤ L.length ∧ ∀ (j : Nat) (y : EL), j < i → L[j]? = some y → y.id ≠ a) 0 ⟨by omega, fun j y h => by omega⟩ (by repeat' (first | exact trivial | exact rfl | refine And.intro ?_ ?_)) (by repeat' (first | exact trivial | exact rfl | refine And.intro ?_ ?_)) ?_
  intro i ⟨hi, hne⟩
  refine Spl.of (fun h1 => ?_) (fun h1 => ?_)
  · have hlt : i < L.length := by have := of_decide_eq_true h1; simp at this; omega
    have hx : L[i]? = some L[i] := by simp
    (repeat (first | refine Spl.t rfl ?_ | refine Spl.f rfl ?_))
    refine RegP.of rfl (by decide +kernel) ?_
    refine IdxP.of (elD L[i]) (by omega) (by simp [hx]) ?_
    refine QuietP.of (O.eqT 3 rfl rfl rfl rfl rfl eqR_ok eqR_g (eqR L[i].id a)) ?_
    refine Spl.of (fun h2 => ?_) (fun h2 => ?_)
    · have he : L[i].id = a := of_decide_eq_true h2
      (repeat (first | refine Spl.t rfl ?_ | refine Spl.f rfl ?_))
      refine FinP.open rfl (congrArg iv ?_)
      exact (placeL_at hx he hne).symm
    · have he : ¬ L[i].id = a := of_decide_eq_false h2
      (repeat (first | refine Spl.t rfl ?_ | refine Spl.f rfl ?_))
      exact ⟨i + 1, ⟨by omega, fun j y hj hy => by
        by_cases h : j = i
        · subst h; rw [hx] at hy; cases hy; exact he
        · exact hne j y (by omega) hy⟩, by omega, ⟨some_iv (wrap_id _ (by omega) (by omega)), trivial⟩, (by repeat' (first | exact trivial | exact rfl | refine And.intro ?_ ?_)), (by repeat' (first | exact trivial | exact rfl | refine And.intro ?_ ?_)), (by repeat' (first | exact trivial | exact rfl | refine And.intro ?_ ?_))⟩
  · have h1 := of_decide_eq_false h1
    simp at h1
    (repeat (first | refine Spl.t rfl ?_ | refine Spl.f rfl ?_))
    refine FinP.open rfl (congrArg iv ?_)
    exact (placeL_none fun e he => by obtain ⟨j, hj⟩ := List.getElem?_of_mem he; exact hne j e (by have := (List.getElem?_eq_some_iff.1 hj).1; omega) hj).symm
end Go.Proofs.E
end
section
open Go Go.Gv
attribute [local irreducible] Go.Gv.WJ Go.Gv.OpJ Go.Gv.QJ Go.Gv.Spl Go.Gv.Req Go.Gv.IdxP Go.Gv.RegP Go.Gv.FinP Go.Gv.CellP Go.Gv.CellsP Go.Gv.ArrP Go.Gv.ArrsP Go.Gv.DropP Go.Gv.ByteP Go.Gv.StoreP
set_option maxRecDepth 100000
namespace Go.Proofs.E
theorem eqRO (o p : OP) : eqT Tryd.prog 4 58 [.int .i64 o.k, .int .i64 o.i.c, .int .i64 o.i.s, .int .i64 o.a.c, .int .i64 o.a.s, .int .i32 o.ch] [.int .i64 p.k, .int .i64 p.i.c, .int .i64 p.i.s, .int .i64 p.a.c, .int .i64 p.a.s, .int .i32 p.ch] = some (decide (o = p)) := by
  show some (decide (o.k = p.k) && ((decide (o.i.c = p.i.c) && (decide (o.i.s = p.i.s) && true)) && ((decide (o.a.c = p.a.c) && (decide (o.a.s = p.a.s) && true)) && (decide (o.ch = p.ch) && true)))) = _
  obtain ⟨a, ⟨b, c⟩, ⟨d, e⟩, f⟩ := o
  obtain ⟨a', ⟨b', c'⟩, ⟨d', e'⟩, f'⟩ := p
  simp [Bool.and_assoc, and_assoc]
theorem eqRO_ok : eqOk Tryd.prog 4 58 = true := by kernel_rfl
theorem eqRO_g : Tryd.prog.eqGuardType Tryd.prog.depth 58 = false := by kernel_rfl
theorem insL_take {l : List OP} {i : Nat} {x : OP} (h : l[i]? = some x) : (insL (l.take (i + 1))).length = (insL (l.take i)).length + (if x.k = 0 then 1 else 0) := by
  rw [take_snoc h]
  by_cases hk : x.k = 0
  · rw [insL_snoc0 hk, if_pos hk, List.length_append]; rfl
  · rw [insL_snoc1 hk, if_neg hk]; rfl
theorem insL_le (l : List OP) : (insL l).length ≤ l.length := List.length_filter_le _ _
theorem RWrong_c (l : List OP) (o : OP) (hl : l.length ≤ 1000000) : Cv 18 [.d (.sl 6 (l.map opD)), opv o] (iv (wrongO l o)) := by
  have h00 := RHas_c l 0 o.i hl
  have h1i := RHas_c l 1 o.i hl
  have h0a := RHas_c l 0 o.a hl
  have isN : ∀ (k : Int) (a : ID), decide (hasIx k a l < 0) = !(findO k a l).isSome := fun k a => by
    rcases hasIx_is k a l with ⟨e1, e2⟩ | ⟨n, x, e1, _, e2⟩
    · rw [e1, e2]; rfl
    · rw [e1, e2, decide_eq_false (by omega)]; rfl
  have isG : ∀ (k : Int) (a : ID), decide (hasIx k a l ≥ 0) = (findO k a l).isSome := fun k a => by
    rcases hasIx_is k a l with ⟨e1, e2⟩ | ⟨n, x, e1, _, e2⟩
    · rw [e1, e2]; rfl
    · rw [e1, e2, decide_eq_true (by omega)]; rfl
  refine Ct.of_wv Tryd.f18 Tryd.func18 rfl rfl fun w H B g0 => ?_
  try refine WJ.cut ?_
  (first | refine Sq.go ?_ | refine vL_nil (Sq.go ?_) | skip)
  try refine WJ.cut ?_
  refine OpJ.callV (RCheck5_c o) (fun _ _ => rfl) rfl rfl rfl ?_
  (first | refine Sq.go ?_ | refine vL_nil (Sq.go ?_) | skip)
  try refine WJ.cut ?_
  refine Spl.of (fun h1 => ?_) (fun h1 => ?_)
  · have h1 : checkO o ≠ 0 := by simpa using h1
    (repeat (first | refine Spl.t rfl ?_ | refine Spl.f rfl ?_))
    refine .out (by simp) ?_
    refine FinP.open rfl (congrArg iv ?_)
    unfold wrongO; rw [if_pos h1]
  have h1 : checkO o = 0 := by simpa using h1
  (first | refine Sq.go ?_ | refine vL_nil (Sq.go ?_) | skip)
  try refine WJ.cut ?_
  refine OpJ.callV h00 (fun _ _ => rfl) rfl rfl rfl ?_
  (first | refine Sq.go ?_ | refine vL_nil (Sq.go ?_) | skip)
  try refine WJ.cut ?_
  refine Spl.of (fun h2 => ?_) (fun h2 => ?_)
  · have h2 : o.k = 1 := of_decide_eq_true h2
    have hw : wrongO l o = if (findO 0 o.i l).isSome = true then (if deadO l o.i = true then 4 else 0) else 6 := by unfold wrongO; rw [if_neg (fun e => e h1), if_pos h2]
    (repeat (first | refine Spl.t rfl ?_ | refine Spl.f rfl ?_))
    refine Spl.of (fun h3 => ?_) (fun h3 => ?_)
    · rw [isN] at h3
      have h3 : (findO 0 o.i l).isSome = false := by simpa using h3
      (repeat (first | refine Spl.t rfl ?_ | refine Spl.f rfl ?_))
      refine .out (by simp) ?_
      refine FinP.open rfl (congrArg iv ?_)
      rw [hw, h3]; rfl
    · rw [isN] at h3
      have h3 : (findO 0 o.i l).isSome = true := by simpa using h3
      rw [if_pos h3] at hw
      (repeat (first | refine Spl.t rfl ?_ | refine Spl.f rfl ?_))
      refine OpJ.callV h1i (fun _ _ => rfl) rfl rfl rfl ?_
      (repeat (first | refine Spl.t rfl ?_ | refine Spl.f rfl ?_))
      refine Spl.of (fun h4 => ?_) (fun h4 => ?_)
      · rw [isG] at h4
        (repeat (first | refine Spl.t rfl ?_ | refine Spl.f rfl ?_))
        refine .out (by simp) ?_
        refine FinP.open rfl (congrArg iv ?_)
        rw [hw, if_pos (show deadO l o.i = true from h4)]
      · rw [isG] at h4
        (repeat (first | refine Spl.t rfl ?_ | refine Spl.f rfl ?_))
        refine .out (by simp) ?_
        refine FinP.open rfl (congrArg iv ?_)
        rw [hw, if_neg (show ¬ deadO l o.i = true by unfold deadO; rw [h4]; decide)]
  have h2 : ¬ o.k = 1 := of_decide_eq_false h2
  have hw : wrongO l o = if findO 0 o.i l = some o then 4 else if (findO 0 o.i l).isSome = true then 5 else if o.a ≠ ⟨0, 0⟩ ∧ (findO 0 o.a l).isSome = false then 6 else if 4096 ≤ (insL l).length then 7 else 0 := by
    unfold wrongO; rw [if_neg (fun e => e h1), if_neg h2]
  (first | refine Sq.go ?_ | refine vL_nil (Sq.go ?_) | skip)
  try refine WJ.cut ?_
  refine RegP.of rfl (by decide +kernel) ?_
  refine Spl.of (fun h3 => ?_) (fun h3 => ?_)
  · -- there is one of that id
    have h3' : 0 ≤ hasIx 0 o.i l := of_decide_eq_true h3
    obtain ⟨n, x, e1, e2, e3⟩ : ∃ (n : Nat) (x : OP), hasIx 0 o.i l = n ∧ l[n]? = some x ∧ findO 0 o.i l = some x := by
      rcases hasIx_is 0 o.i l with ⟨e1, _⟩ | h
      · omega
      · exact h
    have hlt := (List.getElem?_eq_some_iff.1 e2).1
    rw [e3] at hw
    (repeat (first | refine Spl.t rfl ?_ | refine Spl.f rfl ?_))
    refine IdxP.of (opD x) (by rw [e1]; simp; try omega) (by rw [e1]; simp [e2]) ?_
    (repeat (first | refine Spl.t rfl ?_ | refine Spl.f rfl ?_))
    refine QuietP.of (O.eqT 4 rfl rfl rfl rfl rfl eqRO_ok eqRO_g (eqRO x o)) ?_
    refine Spl.of (fun h4 => ?_) (fun h4 => ?_)
    · have h4 : x = o := of_decide_eq_true h4
      (repeat (first | refine Spl.t rfl ?_ | refine Spl.f rfl ?_))
      refine .out (by simp) ?_
      refine FinP.open rfl (congrArg iv ?_)
      rw [hw, if_pos (by rw [h4])]
    · have h4 : ¬ x = o := of_decide_eq_false h4
      (repeat (first | refine Spl.t rfl ?_ | refine Spl.f rfl ?_))
      (first | refine Sq.go ?_ | refine vL_nil (Sq.go ?_) | skip)
      try refine WJ.cut ?_
      refine Spl.t h3 ?_
      (repeat (first | refine Spl.t rfl ?_ | refine Spl.f rfl ?_))
      refine .out (by simp) ?_
      refine FinP.open rfl (congrArg iv ?_)
      rw [hw, if_neg (fun e => h4 (Option.some.inj e))]; simp
  · have h3' : ¬ 0 ≤ hasIx 0 o.i l := of_decide_eq_false h3
    have e3 : findO 0 o.i l = none := by
      rcases hasIx_is 0 o.i l with ⟨_, e2⟩ | ⟨n, x, e1, _⟩
      · exact e2
      · omega
    rw [e3, if_neg (by simp), if_neg (by simp)] at hw
    (repeat (first | refine Spl.t rfl ?_ | refine Spl.f rfl ?_))
    (first | refine Sq.go ?_ | refine vL_nil (Sq.go ?_) | skip)
    try refine WJ.cut ?_
    refine Spl.f h3 ?_
    (first | refine Sq.go ?_ | refine vL_nil (Sq.go ?_) | skip)
    try refine WJ.cut ?_
    refine OpJ.qu (O.neT 3 rfl rfl rfl rfl rfl eqR_ok eqR_g (eqR o.a ⟨0, 0⟩)) rfl ?_
    refine Spl.of (fun h4 => ?_) (fun h4 => ?_)
    · have h4 : o.a ≠ ⟨0, 0⟩ := by simpa using h4
      (repeat (first | refine Spl.t rfl ?_ | refine Spl.f rfl ?_))
      refine OpJ.callV h0a (fun _ _ => rfl) rfl rfl rfl ?_
      (repeat (first | refine Spl.t rfl ?_ | refine Spl.f rfl ?_))
      refine Spl.of (fun h5 => ?_) (fun h5 => ?_)
      · rw [isN] at h5
        have h5 : (findO 0 o.a l).isSome = false := by simpa using h5
        (repeat (first | refine Spl.t rfl ?_ | refine Spl.f rfl ?_))
        refine .out (by simp) ?_
        refine FinP.open rfl (congrArg iv ?_)
        rw [hw, if_pos ⟨h4, h5⟩]
      · rw [isN] at h5
        have h5 : (findO 0 o.a l).isSome = true := by simpa using h5
        have hno : ¬ (o.a ≠ ⟨0, 0⟩ ∧ (findO 0 o.a l).isSome = false) := fun e => by rw [h5] at e; cases e.2
        (repeat (first | refine Spl.t rfl ?_ | refine Spl.f rfl ?_))
        ((first | refine Sq.go ?_ | refine vL_nil (Sq.go ?_) | skip); try refine WJ.cut ?_; (first | refine Sq.go ?_ | refine vL_nil (Sq.go ?_) | skip); try refine WJ.cut ?_; refine WJ.loopK (V := Nat) (fun i => [(8, iv i), (7, iv ((insL (l.take i)).length : Nat))]) (fun _ => []) [] (fun i => l.length - i) (fun i => i ≤ l.length) 0 (by omega) ⟨rfl, rfl, trivial⟩ (by repeat' (first | exact trivial | exact rfl | refine And.intro ?_ ?_)) ?_; intro i hi; have hci := insL_le (l.take i); have htl := List.length_take (i := i) (l := l); (refine Spl.of (fun g1 => ?_) (fun g1 => ?_); (have hlt : i < l.length := (by have := of_decide_eq_true g1; simp at this; omega); have hx : l[i]? = some l[i] := (by simp); have hsn := insL_take hx; (repeat (first | refine Spl.t rfl ?_ | refine Spl.f rfl ?_)); refine IdxP.of (opD l[i]) (by omega) (by simp [hx]) ?_; refine Spl.of (fun g2 => ?_) (fun g2 => ?_); (have g2 : l[i].k = 0 := of_decide_eq_true g2; rw [if_pos g2] at hsn; (repeat (first | refine Spl.t rfl ?_ | refine Spl.f rfl ?_)); exact ⟨i + 1, by omega, by omega, ⟨some_iv (wrap_id _ (by omega) (by omega)), some_iv (by rw [wrap_id _ (by omega) (by omega), hsn]; omega), trivial⟩, (by repeat' (first | exact trivial | exact rfl | refine And.intro ?_ ?_)), (by repeat' (first | exact trivial | exact rfl | refine And.intro ?_ ?_)), (by repeat' (first | exact trivial | exact rfl | refine And.intro ?_ ?_))⟩); (have g2 : ¬ l[i].k = 0 := of_decide_eq_false g2; rw [if_neg g2] at hsn; (repeat (first | refine Spl.t rfl ?_ | refine Spl.f rfl ?_)); exact ⟨i + 1, by omega, by omega, ⟨some_iv (wrap_id _ (by omega) (by omega)), some_iv (by rw [hsn]; rfl), trivial⟩, (by repeat' (first | exact trivial | exact rfl | refine And.intro ?_ ?_)), (by repeat' (first | exact trivial | exact rfl | refine And.intro ?_ ?_)), (by repeat' (first | exact trivial | exact rfl | refine And.intro ?_ ?_))⟩)); (have g1 := of_decide_eq_false g1; simp at g1; have hall : l.take i = l := List.take_of_length_le (by omega); rw [hall]; (repeat (first | refine Spl.t rfl ?_ | refine Spl.f rfl ?_)); (first | refine Sq.go ?_ | refine vL_nil (Sq.go ?_) | skip); try refine WJ.cut ?_; refine Spl.of (fun g3 => ?_) (fun g3 => ?_); (have g3 := of_decide_eq_true g3; (repeat (first | refine Spl.t rfl ?_ | refine Spl.f rfl ?_)); refine .out (by simp) ?_; refine FinP.open rfl (congrArg iv ?_); rw [hw, if_neg hno, if_pos (by omega)]); (have g3 := of_decide_eq_false g3; (first | refine Sq.go ?_ | refine vL_nil (Sq.go ?_) | skip); try refine vc_sound _ _ _ _ ?_; refine FinP.open rfl (congrArg iv ?_); rw [hw, if_neg hno, if_neg (by omega)]))))
    · have h4 : o.a = ⟨0, 0⟩ := by simpa using h4
      have hno : ¬ (o.a ≠ ⟨0, 0⟩ ∧ (findO 0 o.a l).isSome = false) := fun e => e.1 h4
      (repeat (first | refine Spl.t rfl ?_ | refine Spl.f rfl ?_))
      ((first | refine Sq.go ?_ | refine vL_nil (Sq.go ?_) | skip); try refine WJ.cut ?_; (first | refine Sq.go ?_ | refine vL_nil (Sq.go ?_) | skip); try refine WJ.cut ?_; refine WJ.loopK (V := Nat) (fun i => [(8, iv i), (7, iv ((insL (l.take i)).length : Nat))]) (fun _ => []) [] (fun i => l.length - i) (fun i => i ≤ l.length) 0 (by omega) ⟨rfl, rfl, trivial⟩ (by repeat' (first | exact trivial | exact rfl | refine And.intro ?_ ?_)) ?_; intro i hi; have hci := insL_le (l.take i); have htl := List.length_take (i := i) (l := l); (refine Spl.of (fun g1 => ?_) (fun g1 => ?_); (have hlt : i < l.length := (by have := of_decide_eq_true g1; simp at this; omega); have hx : l[i]? = some l[i] := (by simp); have hsn := insL_take hx; (repeat (first | refine Spl.t rfl ?_ | refine Spl.f rfl ?_)); refine IdxP.of (opD l[i]) (by omega) (by simp [hx]) ?_; refine Spl.of (fun g2 => ?_) (fun g2 => ?_); (have g2 : l[i].k = 0 := of_decide_eq_true g2; rw [if_pos g2] at hsn; (repeat (first | refine Spl.t rfl ?_ | refine Spl.f rfl ?_)); exact ⟨i + 1, by omega, by omega, ⟨some_iv (wrap_id _ (by omega) (by omega)), some_iv (by rw [wrap_id _ (by omega) (by omega), hsn]; omega), trivial⟩, (by repeat' (first | exact trivial | exact rfl | refine And.intro ?_ ?_)), (by repeat' (first | exact trivial | exact rfl | refine And.intro ?_ ?_)), (by repeat' (first | exact trivial | exact rfl | refine And.intro ?_ ?_))⟩); (have g2 : ¬ l[i].k = 0 := of_decide_eq_false g2; rw [if_neg g2] at hsn; (repeat (first | refine Spl.t rfl ?_ | refine Spl.f rfl ?_)); exact ⟨i + 1, by omega, by omega, ⟨some_iv (wrap_id _ (by omega) (by omega)), some_iv (by rw [hsn]; rfl), trivial⟩, (by repeat' (first | exact trivial | exact rfl | refine And.intro ?_ ?_)), (by repeat' (first | exact trivial | exact rfl | refine And.intro ?_ ?_)), (by repeat' (first | exact trivial | exact rfl | refine And.intro ?_ ?_))⟩)); (have g1 := of_decide_eq_false g1; simp at g1; have hall : l.take i = l := List.take_of_length_le (by omega); rw [hall]; (repeat (first | refine Spl.t rfl ?_ | refine Spl.f rfl ?_)); (first | refine Sq.go ?_ | refine vL_nil (Sq.go ?_) | skip); try refine WJ.cut ?_; refine Spl.of (fun g3 => ?_) (fun g3 => ?_); (have g3 := of_decide_eq_true g3; (repeat (first | refine Spl.t rfl ?_ | refine Spl.f rfl ?_)); refine .out (by simp) ?_; refine FinP.open rfl (congrArg iv ?_); rw [hw, if_neg hno, if_pos (by omega)]); (have g3 := of_decide_eq_false g3; (first | refine Sq.go ?_ | refine vL_nil (Sq.go ?_) | skip); try refine vc_sound _ _ _ _ ?_; refine FinP.open rfl (congrArg iv ?_); rw [hw, if_neg hno, if_neg (by omega)]))))
end Go.Proofs.E
end
