/- Laws that the claim's text stands on: Private rows cut; append of a private row's end onto data that has no room; The reference: the row of operations; The law PmapPlays; Is a state the document's?; The law CorePlays; A room of operations that wait; A region that draws its order whose tail waits on all of the head but on its last operation (a late load); A room of operations that wait: the next that can be done; A room of operations that wait: the law's comparison; A room of operations that wait: the law's example; A room of operations that wait: the law PendPlays; A room of operations that wait: the law PendStays. -/
import Derived.Test.YtgphompfellloaaDoorM1
import Derived.Test.YtgphompfellloaaDoorM2
import Derived.Test.YtgphompfellloaaDoorM3
import Derived.Test.YtgphompfellloaaDoorDShelf
import Derived.Test.YtgphompfellloaaDoorM4
import Derived.Test.YtgphompfellloaaDoorM5
import Derived.Test.YtgphompfellloaaDoorM6
set_option linter.unusedVariables false
set_option linter.unusedSimpArgs false
section
namespace Go.Gv
open Go.RowKit
theorem add_zero' (A : Addr) : A.add 0 = A := by simp [Addr.add]
section cut
variable {X : Cx} {d : Option Nat} {ty : TypeId} {pos : String} {aft : Array Edge} {g : Option (Nat × Bool)} {t : T} {σ : Sg} {K : T → Sg → Prop}
/-- The first of a private row. -/
theorem O.cutPre {st e : TypeId} {x ho : Operand} {i k n : Nat} {kk : IntKind} {m : Int} (hx : ge t x = some (.arr i k n)) (hho : ge t ho = some (.d (.v (.int kk m)))) (hu : X.P.underlying st = some (.slice e)) (hs : szOf X.P e = some k) (h0 : 0 ≤ m) (h1 : m ≤ (n : Int)) :
    QJ X ⟨d, .slice st x none (some ho) none, ty, pos, aft, g⟩ t σ (.suf i k 0 m.toNat) :=
  QJ.value (by simp) (fun γ H ac w so sm => by
    have hr := so x (by simp [Op.operands]) _ hx
    generalize hq : ac.eval x = q at hr
    cases hr with
    | arr _ _ _ A hn hA =>
      have hb := bounds_run (P := X.P) (w := w) (γ := γ) (H := H) (a := ac) (isS := true) (lo := none) (hi := some ho) (len := n) (cap := (γ i).n) (t := t) (l := 0) (h := m) rfl (by simp [hiV, hho]) (by omega) h0 h1 hn (fun y hy v hv => so y (by
        rcases hy with hy | hy
        · cases hy
        · cases hy; simp [Op.operands]) v hv)
      refine ⟨.slice A m.toNat (γ i).n, ?_, .suf i k 0 m.toNat A (by omega) (fun h => by rw [hA h, Nat.zero_mul])⟩
      simp only [Option.map_none, Option.map_some] at hb
      simp only [execOp, hq, Instr.sliceAt, Instr.slice, Sem.run_bind, run_underlying hu, Result.andThen_ok, Option.map_none, Option.map_some, hb, szOf_run hs, Sem.run_pure]
      simp only [Int.toNat_zero, Nat.zero_mul, Nat.sub_zero]
      have : (A.map fun x => x.add 0) = A := by cases A <;> simp [add_zero']
      simp [this])
/-- A private row from a place on. -/
theorem O.cutSuf {st e : TypeId} {x lo : Operand} {i k n : Nat} {kk : IntKind} {m : Int} (hx : ge t x = some (.arr i k n)) (hlo : ge t lo = some (.d (.v (.int kk m)))) (hu : X.P.underlying st = some (.slice e)) (hs : szOf X.P e = some k) (h0 : 0 ≤ m) (h1 : m ≤ (n : Int)) :
    QJ X ⟨d, .slice st x (some lo) none none, ty, pos, aft, g⟩ t σ (.suf i k m.toNat (n - m.toNat)) :=
  QJ.value (by simp) (fun γ H ac w so sm => by
    have hr := so x (by simp [Op.operands]) _ hx
    generalize hq : ac.eval x = q at hr
    cases hr with
    | arr _ _ _ A hn hA =>
      have hb := bounds_run (P := X.P) (w := w) (γ := γ) (H := H) (a := ac) (isS := true) (lo := some lo) (hi := none) (len := n) (cap := (γ i).n) (t := t) (l := m) (h := n) (by simp [loV, hlo]) rfl h0 h1 (by omega) hn (fun y hy v hv => so y (by
        rcases hy with hy | hy
        · cases hy; simp [Op.operands]
        · cases hy) v hv)
      refine ⟨.slice (if (γ i).n = m.toNat then A else A.map (·.add (m.toNat * k))) (n - m.toNat) ((γ i).n - m.toNat), ?_, .suf i k m.toNat (n - m.toNat) _ (by omega) (fun h => ?_)⟩
      · simp only [Option.map_none, Option.map_some] at hb
        simp only [execOp, hq, Instr.sliceAt, Instr.slice, Sem.run_bind, run_underlying hu, Result.andThen_ok, Option.map_none, Option.map_some, hb, szOf_run hs, Sem.run_pure]
        simp
      · rw [if_neg (by omega), hA (by omega)]
        simp only [Option.map_some, Addr.add]
        split
        · next e => rw [e]
        · simp)
/-- The rows that an operand holds, as they can be copied. -/
structure Flat (X : Cx) (H : HF) (w : World) (u : Value) (k : Nat) (ys : List (List D)) (vs : List Value) : Prop where
  fc : ∀ w' : World, w'.heap = w.heap → (Builtin.firstCells k ys.length u).run X.P w' = .ok vs.toArray w'
  ln : ∀ w' : World, (Builtin.lenOf u).run X.P w' = .ok ys.length w'
  vl : vs.length = ys.length * k
  yk : ∀ cs, cs ∈ ys → cs.length = k
  rp : ∀ (j l : Nat) (cs : List D) (a : D) (u : Value), ys[j]? = some cs → cs[l]? = some a → vs[j * k + l]? = some u → RepD H a u
def FlatQ (X : Cx) (t : T) (σ : Sg) (y : Operand) (k : Nat) (ys : List (List D)) : Prop := ∀ γ H (a : Act) w, (∀ v, ge t y = some v → Rep γ H v (a.eval y)) → Mem X.w0 X.H0 X.B γ H σ w → ∃ vs, Flat X H w (a.eval y) k ys vs
theorem FlatQ.suf {y : Operand} {i k l n : Nat} {xs : List (List D)} (hy : ge t y = some (.suf i k l n)) (hi : look i σ = some (.arr k xs)) (hl : l + n ≤ xs.length) : FlatQ X t σ y k ((xs.drop l).take n) := by
  intro γ H a w so sm
  have hr := so _ hy
  generalize hq : a.eval y = q at hr
  cases hr with
  | suf _ _ _ _ A hn hA =>
  obtain ⟨hle, hxk, hreal⟩ := sm.ent i _ hi
  have hlen : ((xs.drop l).take n).length = n := by simp; omega
  have hget : ∀ j cs, ((xs.drop l).take n)[j]? = some cs → xs[l + j]? = some cs ∧ j < n := fun j cs hj => by
    rw [List.getElem?_take] at hj
    split at hj
    · rw [List.getElem?_drop] at hj; exact ⟨hj, by assumption⟩
    · cases hj
  by_cases h0 : n = 0
  · subst h0
    refine ⟨[], fun w' _ => ?_, fun w' => ?_, by simp, fun cs hcs => by simp at hcs, fun j l' cs a' u h => by simp at h⟩
    · rw [hlen]; cases A <;> simp [Builtin.firstCells, loadCells, loadCellsFrom]
    · rw [hlen]; exact lenOf_sl
  · have hA' := hA (by omega)
    subst hA'
    obtain ⟨tt, us, h3, h4, h5⟩ := hreal (by omega)
    have hfit : l * k + n * k ≤ us.length := by rw [h4, ← Nat.add_mul]; exact Nat.mul_le_mul_right _ hn
    refine ⟨(us.drop (l * k)).take (n * k), fun w' hw' => ?_, fun w' => ?_, ?_, fun cs hcs => hxk cs (List.mem_of_mem_drop (List.mem_of_mem_take hcs)), fun j l' cs a' u hj hl' hu => ?_⟩
    · rw [hlen]
      have := load_cells (P := X.P) (w := w') (b := (γ i).b) (vs := fun p => us.getD (l * k + p) undef) (n * k) (l * k) 0 #[] (fun p hp => by
        have h6 : w'.heap[(γ i).b]? = some (.cells us.toArray tt (0, 0)) := by rw [hw']; exact h3
        rw [cell_of_block h6]
        simp [List.getElem?_eq_getElem (show l * k + p < us.length by omega)])
      simp only [Builtin.firstCells, loadCells]
      rw [this]
      congr 1
      apply Array.toList_inj.1
      simp only [List.nil_append, List.append_toArray, List.toList_toArray, Array.toList_append]
      apply List.ext_getElem?
      intro p
      simp only [List.getElem?_map, List.getElem?_take, List.getElem?_drop]
      by_cases hp : p < n * k
      · rw [if_pos hp, List.getElem?_range' (by omega)]
        simp [List.getElem?_eq_getElem (show l * k + p < us.length by omega)]
      · rw [if_neg hp, List.getElem?_eq_none (by simp; omega)]; rfl
    · rw [hlen]; exact lenOf_sl
    · rw [List.length_take, List.length_drop, hlen]; omega
    · obtain ⟨h6, h7⟩ := hget j cs hj
      rw [List.getElem?_take] at hu
      split at hu
      · rw [List.getElem?_drop] at hu
        refine h5 (l + j) l' cs a' u h6 hl' ?_
        rw [Nat.add_mul, Nat.add_assoc]; exact hu
      · cases hu
/-- What is data can be copied. -/
theorem FlatQ.data {y : Operand} {k : Nat} {ys : List (List D)} {av : AV} (hy : ge t y = some av) (hel : elems av = some (k, ys)) : FlatQ X t σ y k ys := by
  intro γ H a w so sm
  have hry := rep_elems (so _ hy) hel
  obtain ⟨hyk, hylen⟩ := repd_sl_len hry
  obtain ⟨B, cy, vs, hqy, hfc, hvl, hvone, hvrep⟩ := repd_flat (P := X.P) hry
  refine ⟨vs, fun w' hw' => hfc w' fun b o v h => ?_, fun w' => by rw [hqy]; exact lenOf_sl, hvl, hyk, hvrep⟩
  have := sm.hok.c b o v h
  simp only [World.cell?, hw'] at this ⊢; exact this
/-- append onto data that has no room, of what can be copied: given to all at once; it turns nothing that is there. -/
theorem QJ.appendG {x y : Operand} {st xt el : TypeId} {k bytes : Nat} {z : Value} {xs ys : List (List D)} {av0 : AV} (hx : ge t x = some av0) (hfu : FullIs av0 k xs) (hy : FlatQ X t σ y k ys)
    (hu : X.P.underlying st = some (.slice el)) (hxu : X.P.underlying xt = some (.slice el)) (hz : ∀ w, (sizeOf el).run X.P w = .ok k w) (hzv : ∀ w, (zeroValue el).run X.P w = .ok z w) (hzl : z.cells.size = k)
    (hb : ∀ w, ((fun i : TypeInfo => i.bytes) <$> typeInfo el).run X.P w = .ok bytes w) (hb0 : bytes ≠ 0) (hbytes : (3 * (xs.length + ys.length) + 4096) * bytes ≤ 281474976710656)
    (hm : xs.length + ys.length ≤ 9223372036854775807) :
    QJ X ⟨d, .call { callee := .builtin .append, args := #[x, y], argTypes := #[st, xt] }, ty, pos, aft, g⟩ t σ (.d (.sl k (xs ++ ys))) := by
  intro γ H a w hl so sm next Q' hk
  obtain ⟨A, hq, hrx⟩ := hfu.rep (so x (by simp [Op.operands, Call.operands]) _ hx)
  obtain ⟨hxk, _⟩ := repd_sl_len hrx
  obtain ⟨vs, hfv⟩ := hy γ H a w (fun v hv => so y (by simp [Op.operands, Call.operands]) v hv) sm
  obtain ⟨Bx, cx, us, hqx, hfx, hul, huone, hurep⟩ := repd_flat (P := X.P) hrx
  have hexec : ∀ r : Result Value, (Builtin.append_ #[st, xt] ty #[.slice A xs.length xs.length, a.eval y]).run X.P w = r → (execOp a.eval ⟨d, .call { callee := .builtin .append, args := #[x, y], argTypes := #[st, xt] }, ty, pos, aft, g⟩).run X.P w =
      r.andThen fun v w => .ok (.value v) w := fun r h => by
    simp only [execOp, resolve, invoke, builtin, List.map_toArray, List.map_cons, List.map_nil, Sem.run_bind, Sem.run_pure, Result.andThen_ok, hq, h]
  by_cases hroom : xs.length + ys.length ≤ xs.length
  · have hy0 : ys = [] := List.length_eq_zero_iff.1 (by omega)
    subst hy0
    have hrun := append_room (P := X.P) (w := w) (ty := ty) (A := A) (n := xs.length) (c := xs.length) hu hxu hz hfv.ln (hfv.fc w rfl) (Nat.le_refl _)
    have hv0 : vs = [] := List.length_eq_zero_iff.1 (by rw [hfv.vl]; simp)
    subst hv0
    have hrun' : (Builtin.append_ #[st, xt] ty #[.slice A xs.length xs.length, a.eval y]).run X.P w = .ok (.slice A xs.length xs.length) w := by
      rw [hrun]; cases A <;> simp [storeCells]
    rw [semAt_of (by simp), hexec _ hrun', Result.andThen_ok, Oper.uponIn_value]
    refine hk _ γ [] H w (sm.refl γ) (.d _ _ ?_)
    rw [List.append_nil]
    rw [hq] at hrx; exact hrx
  · have hus : ∀ w' : World, w'.heap = w.heap → (Builtin.firstCells k xs.length (.slice A xs.length xs.length)).run X.P w' = .ok us.toArray w' := fun w' hw' => by
      rw [← hq]
      exact hfx w' fun b o v h => by
        have := sm.hok.c b o v h
        simp only [World.cell?, hw'] at this ⊢; exact this
    obtain ⟨cap, hcap, hrun⟩ := append_grow (P := X.P) (w := w) (ty := ty) (A := A) (n := xs.length) (c := xs.length) (us := us) (vs := vs) hu hxu hz hzv hb hfv.ln hfv.fc hus (by omega) hbytes hb0
    rw [semAt_of (by simp), hexec _ hrun, Result.andThen_ok, Oper.uponIn_value]
    have hzc : (Builtin.zeroCells z.cells (cap - (xs.length + ys.length))).toList.length = (cap - (xs.length + ys.length)) * k := by
      simp [Builtin.zeroCells, hzl]
    have hm0 := sm.drew.new 0 (.arr k (xs ++ ys)) (.cells (us ++ vs ++ (Builtin.zeroCells z.cells (cap - (xs.length + ys.length))).toList).toArray el) cap
      ⟨by rw [upd_same, List.length_append]; exact hcap, fun cs hcs => by rcases List.mem_append.1 hcs with h | h; exact hxk cs h; exact hfv.yk cs h, fun _ => by
        rw [upd_same]
        refine ⟨el, _, World.alloc_heap_new _ _, ?_, ?_⟩
        · rw [List.length_append, List.length_append, hzc, hul, hfv.vl, ← Nat.add_mul, ← Nat.add_mul]
          congr 1
          show xs.length + ys.length + (cap - (xs.length + ys.length)) = cap
          omega
        · have hvl := hfv.vl
          refine arr_snoc hxk hfv.yk hurep hfv.rp (fun p hp => ?_) (fun p hp => ?_)
          · rw [List.append_assoc, List.getElem?_append_left (by omega)]
          · rw [List.append_assoc, List.getElem?_append_right (by omega), hul, show xs.length * k + p - xs.length * k = p from by omega, List.getElem?_append_left (by omega)]⟩ (fun _ _ h => by cases h)
    have hm' : Mem w H (fun _ => False) (upd γ 0 ⟨w.heap.size, cap, fun _ => False⟩) H [(0, .arr k (xs ++ ys))] (w.drew.alloc (.cells (us ++ vs ++ (Builtin.zeroCells z.cells (cap - (xs.length + ys.length))).toList).toArray el)) :=
      ⟨⟨hm0.keep.os, hm0.keep.tape, hm0.keep.output, hm0.keep.size, hm0.keep.block⟩, hm0.hle, ⟨hm0.hnew.c, hm0.hnew.m⟩, hm0.hok, hm0.ent, hm0.free, hm0.fresh, hm0.apart⟩
    have hl0 : look 0 ([(0, Ent.arr k (xs ++ ys))] : Sg) = some (.arr k (xs ++ ys)) := by rw [look_cons, if_pos rfl]
    obtain ⟨H', ok, hk2⟩ := hm'.pub hl0 rfl
    have hj := hm'.join (σr := []) hk2 (fun b hb => ⟨0, _, hl0, rfl, hb⟩) (Wk.nil _) (fun i e h => by cases h) (fun i e h => by cases h)
    refine hk _ _ _ H' _ hj (.d _ _ ?_)
    have h3 := ok (xs.length + ys.length) (some ⟨w.heap.size, 0, none⟩) (by simp) (by rw [upd_same]; exact hcap) (fun _ => by rw [upd_same]) hm
    rw [List.take_of_length_le (by simp), upd_same] at h3
    exact h3
theorem QJ.appG {x y : Operand} {st xt : TypeId} {k : Nat} {xs ys : List (List D)} {av0 : AV} (hx : ge t x = some av0) (hfu : FullIs av0 k xs) (hy : FlatQ X t σ y k ys) (hI : elInfo X.P st xt = some k) (hb : xs.length + ys.length ≤ 1000000000) :
    QJ X ⟨d, .call { callee := .builtin .append, args := #[x, y], argTypes := #[st, xt] }, ty, pos, aft, g⟩ t σ (.d (.sl k (xs ++ ys))) := by
  obtain ⟨el, z, bytes, h1, h2, h3, h4, h5, h6, h7, h8⟩ := elInfo_out hI
  exact QJ.appendG hx hfu hy h1 h2 h3 h4 h5 h6 h7 (bytes_fit hb h8) (by omega)
/-- The first of a private row, as a row. -/
theorem SJ.sufArr (j : Nat) {i k n : Nat} (hj : look j t = some (.suf i k 0 n)) : SJ X t σ ((j, .arr i k n) :: t) σ :=
  SJ.view j hj fun γ H u r => by
    cases r with
    | suf _ _ _ _ A hn hA =>
      rw [Nat.sub_zero]
      exact .arr i k n A (by omega) (fun h => by rw [hA h, Nat.zero_mul])
/-- Less is known of a private row. -/
theorem SJ.cutA (i m : Nat) {k : Nat} {xs : List (List D)} (hi : look i σ = some (.arr k xs)) : SJ X t σ t ((i, .arr k (xs.take m)) :: σ) := fun γ H a w s => by
  have g : ∀ j f, look j ((i, Ent.arr k (xs.take m)) :: σ) = some f → ∀ b, blk γ j f b → ∃ f', look j σ = some f' ∧ blk γ j f' b := fun j f hj b hb => by
    rw [look_cons] at hj
    split at hj
    · next e => subst e; cases hj; exact ⟨_, hi, hb⟩
    · exact ⟨f, hj, hb⟩
  refine ⟨γ, H, s.lam, s.round, let ⟨ms, h1, h2⟩ := s.defers; ⟨ms, h1, h2.1, fun b hb => ⟨(h2.2 b hb).1, (h2.2 b hb).2.1, fun ⟨j, f, hj, hbb⟩ => (h2.2 b hb).2.2 (let ⟨f', h3, h4⟩ := g j f hj b hbb; ⟨j, f', h3, h4⟩)⟩⟩, s.size, s.pinned, s.tmp,
    s.mem.keep, s.mem.hle, s.mem.hnew, s.mem.hok, fun j f hj => ?_, fun j f hj b hb => let ⟨f', h3, h4⟩ := g j f hj b hb; s.mem.free j f' h3 b h4, fun j f hj b hb => let ⟨f', h3, h4⟩ := g j f hj b hb; s.mem.fresh j f' h3 b h4,
    fun j f k f2 b hj hk hb hb' => let ⟨f', h3, h4⟩ := g j f hj b hb; let ⟨f2', h5, h6⟩ := g k f2 hk b hb'; s.mem.apart j f' k f2' b h3 h5 h4 h6⟩
  rw [look_cons] at hj
  split at hj
  · next e =>
    subst e; cases hj
    obtain ⟨h1, h2, h3⟩ := s.mem.ent j _ hi
    refine ⟨Nat.le_trans (by rw [List.length_take]; omega) h1, fun cs hcs => h2 cs (List.mem_of_mem_take hcs), fun hc => ?_⟩
    obtain ⟨tt, us, h4, h5, h6⟩ := h3 hc
    refine ⟨tt, us, h4, h5, fun j l cs a u hj hl hu => ?_⟩
    rw [List.getElem?_take] at hj
    split at hj
    · exact h6 j l cs a u hj hl hu
    · cases hj
  · exact s.mem.ent j f hj
end cut
end Go.Gv
namespace Go.Gv
open Go.RowKit
/-! ### A call that reads a private row, and hands back rows of another kind -/
def HF.cut (H : HF) (b : Nat) : HF := ⟨fun c o => if c = b then none else H.c c o, fun c => if c = b then none else H.m c⟩
theorem RepD.avoid {H : HF} {b k : Nat} {ys : List (List D)} {v : Value} (p : Value → Bool) (hb : ∀ o u, H.c b o = some u → p u = true) (hs : ∀ cs, cs ∈ ys → ∀ a, a ∈ cs → ∃ u, a = .v u)
    (hy : ∀ cs, cs ∈ ys → ∃ (j : Nat) (u : Value), cs[j]? = some (.v u) ∧ p u = false) (r : RepD H (.sl k ys) v) : RepD (H.cut b) (.sl k ys) v := by
  cases r with
  | sl _ _ A c b' o us hk hn hc hA hH hr =>
    refine .sl k ys A c b' o us hk hn hc hA (fun j i hj hi => ?_) (fun j i cs a h1 h2 => ?_)
    · show (if b' = b then none else H.c b' (o + j * k + i)) = _
      have hne : b' ≠ b := fun e => by
        subst e
        have hcs : ys[j]? = some ys[j] := by simp [hj]
        obtain ⟨l, u, h1, h2⟩ := hy ys[j] (List.getElem_mem hj)
        have hl : l < k := by rw [← hk ys[j] (List.getElem_mem hj)]; exact (List.getElem?_eq_some_iff.1 h1).1
        have h3 := hr j l ys[j] _ hcs h1
        have h4 := hb _ _ (hH j l hj hl)
        cases h3
        rw [h2] at h4; cases h4
      rw [if_neg hne]; exact hH j i hj hi
    · obtain ⟨u, rfl⟩ := hs cs (mem_of_get h1) a (mem_of_get h2)
      have := hr j i cs _ h1 h2
      cases this with
      | v _ h => exact .v _ h
/-- An argument, as a reader of the row i takes it. -/
inductive Rd (i k n : Nat) (xs : List (List D)) : List AV → List AV → Prop where
  | nil : Rd i k n xs [] []
  | same (a : AV) {l m : List AV} (h : a.open = true) (r : Rd i k n xs l m) : Rd i k n xs (a :: l) (a :: m)
  | row {l m : List AV} (r : Rd i k n xs l m) : Rd i k n xs (.arr i k n :: l) (.d (.sl k xs) :: m)
theorem Rd.get {i k n : Nat} {xs : List (List D)} {l m : List AV} (h : Rd i k n xs l m) : l.length = m.length ∧ ∀ (j : Nat) (b : AV), m[j]? = some b → ∃ a, l[j]? = some a ∧ ((a = b ∧ a.open = true) ∨ (a = .arr i k n ∧ b = .d (.sl k xs))) := by
  induction h with
  | nil => exact ⟨rfl, fun j b h => by simp at h⟩
  | same a ho _ ih =>
    refine ⟨by simp [ih.1], fun j b hb => ?_⟩
    cases j with
    | zero => simp at hb; exact ⟨a, rfl, .inl ⟨hb, ho⟩⟩
    | succ j => exact ih.2 j b (by simpa using hb)
  | row _ ih =>
    refine ⟨by simp [ih.1], fun j b hb => ?_⟩
    cases j with
    | zero => simp at hb; exact ⟨_, rfl, .inr ⟨rfl, hb.symm⟩⟩
    | succ j => exact ih.2 j b (by simpa using hb)
theorem QJ.callRead {X : Cx} {d : Option Nat} {ty : TypeId} {pos : String} {aft : Array Edge} {g : Option (Nat × Bool)} {t : T} {σ : Sg} {f : FuncId} {args : Array Operand} {tys : Array TypeId} {avs bvs : List AV} {k2 : Nat} {ys : List (List D)}
    (hc : Ct X.Λ X.P f bvs [] (fun q _ => q = .d (.sl k2 ys))) (hok : callOk X.P f) (ha : geAll t args.toList = some avs) {i k n : Nat} {xs : List (List D)} (hi : look i σ = some (.arr k xs)) (hn : xs.length = n) (hm : n ≤ 9223372036854775807) (hv : Rd i k n xs avs bvs)
    (p : Value → Bool) (hx : ∀ cs, cs ∈ xs → ∀ a, a ∈ cs → ∃ u, a = .v u ∧ p u = true) (hs : ∀ cs, cs ∈ ys → ∀ a, a ∈ cs → ∃ u, a = .v u)
    (hy : ∀ cs, cs ∈ ys → ∃ (j : Nat) (u : Value), cs[j]? = some (.v u) ∧ p u = false) : QJ X ⟨d, .call { callee := .value (.func f), args := args, argTypes := tys }, ty, pos, aft, g⟩ t σ (.d (.sl k2 ys)) := by
  intro γ H a w hl so sm next Q' hk
  rw [semAt_of (by simp), call_run hok, Oper.uponIn_enter]
  refine ⟨fun h => by simp [Fr] at h, ?_⟩
  have hso : ∀ x, x ∈ args.toList → ∀ v, ge t x = some v → Rep γ H v (a.eval x) := fun x hx => so x (by simp [Op.operands, Call.operands] at hx ⊢; exact .inr hx)
  obtain ⟨vl, vg⟩ := hv.get
  obtain ⟨hle, hxk, hreal⟩ := sm.ent i _ hi
  -- the row is read as if it were given to all
  obtain ⟨H1, l1, ok1, h1b, n1, n2, h1c⟩ : ∃ H1 : HF, HLe H H1 ∧ HOk H1 w ∧ (∀ o u, H1.c (γ i).b o = some u → H.c (γ i).b o = some u ∨ p u = true) ∧ (∀ c o u, H1.c c o = some u → c ≠ (γ i).b ∨ (γ i).n = 0 → H.c c o = some u) ∧ (∀ c x, H1.m c = some x → H.m c = some x) ∧
      ∀ A, (0 < (γ i).n → A = some ⟨(γ i).b, 0, none⟩) → RepD H1 (.sl k xs) (.slice A n (γ i).n) := by
    by_cases h0 : 0 < (γ i).n
    · obtain ⟨tt, us, h4, h5, h6⟩ := hreal h0
      have hfree := sm.free i _ hi _ ⟨rfl, h0⟩
      have hlen : xs.length * k ≤ us.length := by rw [h5]; exact Nat.mul_le_mul_right _ hle
      refine ⟨⟨fun c o => if c = (γ i).b then (us.take (xs.length * k))[o]? else H.c c o, H.m⟩, ⟨fun c o v hv => ?_, fun _ _ h => h⟩, ⟨fun c o v hv => ?_, sm.hok.m⟩, fun o u hu => ?_, fun c o u hu hne => ?_, fun _ _ h => h, fun A hA => ?_⟩
      · by_cases e : c = (γ i).b
        · subst e; rw [hfree.c] at hv; cases hv
        · show (if c = (γ i).b then _ else H.c c o) = some v
          rw [if_neg e]; exact hv
      · by_cases e : c = (γ i).b
        · subst e
          simp only [if_true] at hv
          rw [List.getElem?_take] at hv
          split at hv
          · rw [cell_of_block h4]; exact hv
          · cases hv
        · simp only [if_neg e] at hv; exact sm.hok.c c o v hv
      · right
        simp only [if_true] at hu
        rw [List.getElem?_take] at hu
        split at hu
        · next ho =>
          have hk0 : 0 < k := by
            rcases Nat.eq_zero_or_pos k with h | h
            · rw [h] at ho; simp at ho
            · exact h
          have hj : o / k < xs.length := Nat.div_lt_of_lt_mul (by rw [Nat.mul_comm]; exact ho)
          have hcs : xs[o / k]? = some xs[o / k] := by simp [hj]
          have hlt : o % k < (xs[o / k]).length := by rw [hxk _ (List.getElem_mem hj)]; exact Nat.mod_lt _ hk0
          obtain ⟨u', h7, h8⟩ := hx xs[o / k] (List.getElem_mem hj) (xs[o / k][o % k]) (List.getElem_mem hlt)
          have h9 := h6 (o / k) (o % k) xs[o / k] (xs[o / k][o % k]) u hcs (by simp [hlt]) (by rw [Nat.div_add_mod']; exact hu)
          rw [h7] at h9
          cases h9; exact h8
        · cases hu
      · rcases hne with hne | hne
        · simp only [if_neg hne] at hu; exact hu
        · omega
      · have hA' := hA h0
        subst hA'
        rw [← hn]
        refine .sl k xs _ _ (γ i).b 0 (fun j l => us.getD (j * k + l) .nilIface) hxk hle (by omega) (fun _ => rfl) (fun j l hj hl => ?_) (fun j l cs a hj hl => ?_)
        · have hlt : j * k + l < xs.length * k := by
            calc j * k + l < j * k + k := by omega
              _ = (j + 1) * k := by rw [Nat.succ_mul]
              _ ≤ xs.length * k := Nat.mul_le_mul_right _ (by omega)
          simp only [if_true, Nat.zero_add]
          rw [List.getElem?_take, if_pos hlt]
          simp [List.getD, show j * k + l < us.length by omega]
        · have hjl := (List.getElem?_eq_some_iff.1 hj).1
          have hll : l < k := by rw [← hxk cs (mem_of_get hj)]; exact (List.getElem?_eq_some_iff.1 hl).1
          have hlt : j * k + l < xs.length * k := by
            calc j * k + l < j * k + k := by omega
              _ = (j + 1) * k := by rw [Nat.succ_mul]
              _ ≤ xs.length * k := Nat.mul_le_mul_right _ (by omega)
          have h9 := h6 j l cs a _ hj hl (show us[j * k + l]? = some (us.getD (j * k + l) .nilIface) by simp [List.getD, show j * k + l < us.length by omega])
          obtain ⟨u', h7, h8⟩ := hx cs (mem_of_get hj) a (mem_of_get hl)
          rw [h7] at h9 ⊢
          cases h9 with
          | v _ h => exact .v _ h
    · have hx0 : xs = [] := List.length_eq_zero_iff.1 (by omega)
      subst hx0
      refine ⟨H, HLe.refl _, sm.hok, fun o u h => .inl h, fun c o u h _ => h, fun _ _ h => h, fun A _ => ?_⟩
      have : n = 0 := by simpa using hn.symm
      subst this
      exact .sl k [] A _ 0 0 (fun _ _ => undef) (fun _ h => by simp at h) (Nat.zero_le _) (by simp) (fun h => by simp at h) (fun _ _ h => by simp at h) (fun _ _ _ _ h => by simp at h)
  have he : blks γ [] = fun _ => False := by funext b; simp [blks, look]
  have hmem : Mem w H1 (fun _ => False) γ H1 [] w := ⟨Keeps.refl _ _, HLe.refl _, HNew.refl _ _ _, ok1, fun i e h => by simp [look] at h, fun i e h => by simp [look] at h, fun i e h => by simp [look] at h, fun i e j e' b h => by simp [look] at h⟩
  have := hc X.ro γ H1 w (args.map a.eval).toList (hl.keep sm.keep (by rw [he]; exact fun b h => h.elim)) (by rw [he]; exact hmem) (by have := congrArg List.length (geAll_map ha); simp at this; simp; omega) (by
    have hg := ge_list hso (geAll_map ha)
    intro j b u hj hu
    obtain ⟨x, hx', hcase⟩ := vg j b hj
    have hr := hg j x u hx' (by simpa using hu)
    rcases hcase with ⟨rfl, _⟩ | ⟨rfl, rfl⟩
    · exact hr.mono l1
    · cases hr with
      | arr _ _ _ A h1 hA => exact .d _ _ (h1c A hA))
  simp only [Array.toArray_toList] at this
  refine this.mono ?_
  rintro e w' ⟨v, r', σ', γ', H2, rfl, rfl, hr, _, _, hm2⟩
  rw [he] at hm2
  by_cases h0 : 0 < (γ i).n
  · have hfree := sm.free i _ hi _ ⟨rfl, h0⟩
    have hblt : (γ i).b < w.heap.size := (sm.ent i _ hi).lt (b := (γ i).b) ⟨rfl, h0⟩
    have hb2 : ∀ o u, H2.c (γ i).b o = some u → p u = true := fun o u hu => by
      rcases hm2.hnew.c _ o u hu with h | h | h
      · rcases h1b o u h with h | h
        · rw [hfree.c] at h; cases h
        · exact h
      · omega
      · exact h.elim
    have hmC : Mem w H (fun _ => False) γ' (H2.cut (γ i).b) [] w' := by
      refine ⟨hm2.keep, ⟨fun c o u h => ?_, fun c x h => ?_⟩, ⟨fun c o u h => ?_, fun c x h => ?_⟩, ⟨fun c o u h => ?_, fun c es cl h => ?_⟩, fun i e h => by simp [look] at h, fun i e h => by simp [look] at h, fun i e h => by simp [look] at h, fun i e j e' b h => by simp [look] at h⟩
      · have hne : c ≠ (γ i).b := fun e => by subst e; rw [hfree.c] at h; cases h
        show (if c = (γ i).b then none else H2.c c o) = some u
        rw [if_neg hne]; exact hm2.hle.c _ _ _ (l1.c _ _ _ h)
      · have hne : c ≠ (γ i).b := fun e => by subst e; rw [hfree.m] at h; cases h
        show (if c = (γ i).b then none else H2.m c) = some x
        rw [if_neg hne]; exact hm2.hle.m _ _ (l1.m _ _ h)
      · by_cases e : c = (γ i).b
        · simp only [HF.cut, if_pos e] at h; cases h
        · simp only [HF.cut, if_neg e] at h
          rcases hm2.hnew.c c o u h with h1 | h1 | h1
          · exact .inl (n1 c o u h1 (.inl e))
          · exact .inr (.inl h1)
          · exact .inr (.inr h1)
      · by_cases e : c = (γ i).b
        · simp only [HF.cut, if_pos e] at h; cases h
        · simp only [HF.cut, if_neg e] at h
          rcases hm2.hnew.m c x h with h1 | h1 | h1
          · exact .inl (n2 c x h1)
          · exact .inr (.inl h1)
          · exact .inr (.inr h1)
      · by_cases e : c = (γ i).b
        · simp only [HF.cut, if_pos e] at h; cases h
        · simp only [HF.cut, if_neg e] at h; exact hm2.hok.c c o u h
      · by_cases e : c = (γ i).b
        · simp only [HF.cut, if_pos e] at h; cases h
        · simp only [HF.cut, if_neg e] at h; exact hm2.hok.m c es cl h
    exact hk v γ' [] _ w' hmC (.d _ _ ((rep_d hr).avoid p hb2 hs hy))
  · have hH : Mem w H (fun _ => False) γ' H2 [] w' := by
      refine ⟨hm2.keep, l1.trans hm2.hle, ⟨fun c o u h => ?_, fun c x h => ?_⟩, hm2.hok, fun i e h => by simp [look] at h, fun i e h => by simp [look] at h, fun i e h => by simp [look] at h, fun i e j e' b h => by simp [look] at h⟩
      · rcases hm2.hnew.c c o u h with h1 | h1 | h1
        · exact .inl (n1 c o u h1 (.inr (by omega)))
        · exact .inr (.inl h1)
        · exact .inr (.inr h1)
      · rcases hm2.hnew.m c x h with h1 | h1 | h1
        · exact .inl (n2 c x h1)
        · exact .inr (.inl h1)
        · exact .inr (.inr h1)
    exact hk v γ' [] _ w' hH (hr.free rfl)
end Go.Gv
namespace Go.Gv
open Go.RowKit
section nilsl
variable {X : Cx} {d : Option Nat} {ty : TypeId} {pos : String} {aft : Array Edge} {g : Option (Nat × Bool)} {t : T} {σ : Sg} {K : T → Sg → Prop}
theorem eqn_slice' {P : Program} {tt e : TypeId} {w : World} (n : Nat) {A : Option Addr} {a b : Nat} (hu : P.underlying tt = some (.slice e)) : (Op.equalIn (n + 1) tt (.slice A a b) (.slice none 0 0)).run P w = .ok A.isNone w := by cases A <;> simp [Op.equalIn, underlying, hu]
/-- Is a slice nil? One that is not empty isn't. -/
theorem O.eqNil {x y : Operand} {ot yt e : TypeId} {k : Nat} {xs : List (List D)} (hx : ge t x = some (.d (.sl k xs))) (hy : ge t y = some (.d (.v (.slice none 0 0)))) (hu : X.P.underlying ot = some (.slice e)) (hN : dOk d X.N = true)
    (kk : ∀ b : Bool, (b = true → xs = []) → K (putT d (.d (.v (.bool b))) t) σ) : OpJ X ⟨d, .binOp .eql ot x y yt, ty, pos, aft, g⟩ t σ K := by
  intro γ H a w s next Q' hk
  have hr := rep_d (ge_sound s.tmp hx)
  have e2 := rep_v (ge_sound s.tmp hy)
  generalize hq : a.eval x = q at hr
  cases hr with
  | sl _ _ A c b o us hkk hn hc hA hH hrr =>
  have hexec : (execOp a.eval ⟨d, .binOp .eql ot x y yt, ty, pos, aft, g⟩).run X.P w = .ok (.value (.bool A.isNone)) w := by
    have h9 : (Op.equal ot (.slice A xs.length c) (.slice none 0 0)).run X.P w = .ok A.isNone w := equal_at.trans (eqn_slice' 9999 hu)
    simp [execOp, hq, e2, eqGuard, binOp, h9]
  rw [semAt_of (by simp), hexec, Oper.uponIn_value]
  refine hk γ H _ _ _ w (s.calm (d := d) (V := .d (.v (.bool A.isNone))) (s.mem.refl γ) hN (.d _ _ (.v _ rfl))) (kk _ fun hb => ?_)
  rcases Nat.eq_zero_or_pos xs.length with h | h
  · exact List.length_eq_zero_iff.1 h
  · rw [hA h] at hb; cases hb
end nilsl
/-- A contract, its arguments told otherwise. -/
theorem Ct.view {Λ : Amb} {P : Program} {f : FuncId} {avs bvs : List AV} {σ : Sg} {Q : AV → Sg → Prop} (h : Ct Λ P f avs σ Q) (hl : bvs.length = avs.length)
    (hv : ∀ (j : Nat) (a b : AV), avs[j]? = some a → bvs[j]? = some b → ∀ γ H u, Rep γ H b u → Rep γ H a u) : Ct Λ P f bvs σ Q :=
  fun ro γ H w vs h1 h2 h3 h4 => h ro γ H w vs h1 h2 (h3.trans hl) fun j a u ha hu => by
    have hj : j < bvs.length := by rw [hl]; exact (List.getElem?_eq_some_iff.1 ha).1
    exact hv j a bvs[j] ha (by simp [hj]) γ H u (h4 j bvs[j] u (by simp [hj]) hu)
end Go.Gv
namespace Go.Gv
open Go.RowKit
section birth
variable {X : Cx} {d : Option Nat} {ty : TypeId} {pos : String} {aft : Array Edge} {g : Option (Nat × Bool)} {t : T} {σ : Sg}
/-- append onto data that has no room: the birth of a private row. -/
theorem B.appendF {i : Nat} {x y : Operand} {st xt el : TypeId} {k bytes : Nat} {z : Value} {xs ys : List (List D)} {av0 : AV} (hx : ge t x = some av0) (hfu : FullIs av0 k xs) (hy : FlatQ X t σ y k ys)
    (hu : X.P.underlying st = some (.slice el)) (hxu : X.P.underlying xt = some (.slice el)) (hz : ∀ w, (sizeOf el).run X.P w = .ok k w) (hzv : ∀ w, (zeroValue el).run X.P w = .ok z w) (hzl : z.cells.size = k)
    (hb : ∀ w, ((fun i : TypeInfo => i.bytes) <$> typeInfo el).run X.P w = .ok bytes w) (hb0 : bytes ≠ 0) (hbytes : (3 * (xs.length + ys.length) + 4096) * bytes ≤ 281474976710656) (hne : ys ≠ [] ∨ xs = []) :
    BirthJ X ⟨d, .call { callee := .builtin .append, args := #[x, y], argTypes := #[st, xt] }, ty, pos, aft, g⟩ t σ i (.arr i k (xs.length + ys.length)) (.arr k (xs ++ ys)) := by
  intro γ H a w so sm
  obtain ⟨A, hq, hrx⟩ := hfu.rep (so x (by simp [Op.operands, Call.operands]) _ hx)
  obtain ⟨hxk, _⟩ := repd_sl_len hrx
  obtain ⟨vs, hfv⟩ := hy γ H a w (fun v hv => so y (by simp [Op.operands, Call.operands]) v hv) sm
  obtain ⟨Bx, cx, us, hqx, hfx, hul, huone, hurep⟩ := repd_flat (P := X.P) hrx
  have hexec : ∀ (v : Value) (w' : World), (Builtin.append_ #[st, xt] ty #[.slice A xs.length xs.length, a.eval y]).run X.P w = .ok v w' → ((⟨d, .call { callee := .builtin .append, args := #[x, y], argTypes := #[st, xt] }, ty, pos, aft, g⟩ : Oper).semAt X.ro a.eval).run X.P w = .ok (.value v) w' := fun v w' h => by
    rw [semAt_of (by simp)]
    simp only [execOp, resolve, invoke, builtin, List.map_toArray, List.map_cons, List.map_nil, Sem.run_bind, Sem.run_pure, Result.andThen_ok, hq, h]
  by_cases hroom : xs.length + ys.length ≤ xs.length
  · have hy0 : ys = [] := List.length_eq_zero_iff.1 (by omega)
    have hx0 : xs = [] := by rcases hne with h | h; exact absurd hy0 h; exact h
    subst hx0; subst hy0
    have hrun := append_room (P := X.P) (w := w) (ty := ty) (A := A) (n := 0) (c := 0) hu hxu hz hfv.ln (hfv.fc w rfl) (Nat.le_refl _)
    have hv0 : vs = [] := List.length_eq_zero_iff.1 (by rw [hfv.vl]; simp)
    subst hv0
    have hrun' : (Builtin.append_ #[st, xt] ty #[.slice A ([] : List (List D)).length ([] : List (List D)).length, a.eval y]).run X.P w = .ok (.slice A 0 0) w := by
      simp only [List.length_nil] at hrun ⊢
      rw [hrun]; cases A <;> simp [storeCells]
    refine ⟨_, 0, w, hexec _ _ hrun', mem_arr0 sm.hok γ i k, ?_⟩
    have := Rep.arr (γ := upd γ i ⟨w.heap.size, 0, fun _ => False⟩) (H := H) i k 0 A
    rw [upd_same] at this
    exact this (Nat.zero_le _) (fun h => by simp at h)
  · have hus : ∀ w' : World, w'.heap = w.heap → (Builtin.firstCells k xs.length (.slice A xs.length xs.length)).run X.P w' = .ok us.toArray w' := fun w' hw' => by
      rw [← hq]
      exact hfx w' fun b o v h => by
        have := sm.hok.c b o v h
        simp only [World.cell?, hw'] at this ⊢; exact this
    obtain ⟨cap, hcap, hrun⟩ := append_grow (P := X.P) (w := w) (ty := ty) (A := A) (n := xs.length) (c := xs.length) (us := us) (vs := vs) hu hxu hz hzv hb hfv.ln hfv.fc hus (by omega) hbytes hb0
    have hzc : (Builtin.zeroCells z.cells (cap - (xs.length + ys.length))).toList.length = (cap - (xs.length + ys.length)) * k := by
      simp [Builtin.zeroCells, hzl]
    have hm0 := sm.drew.new i (.arr k (xs ++ ys)) (.cells (us ++ vs ++ (Builtin.zeroCells z.cells (cap - (xs.length + ys.length))).toList).toArray el) cap
      ⟨by rw [upd_same, List.length_append]; exact hcap, fun cs hcs => by rcases List.mem_append.1 hcs with h | h; exact hxk cs h; exact hfv.yk cs h, fun _ => by
        rw [upd_same]
        refine ⟨el, _, World.alloc_heap_new _ _, ?_, ?_⟩
        · rw [List.length_append, List.length_append, hzc, hul, hfv.vl, ← Nat.add_mul, ← Nat.add_mul]
          congr 1
          show xs.length + ys.length + (cap - (xs.length + ys.length)) = cap
          omega
        · have hvl := hfv.vl
          refine arr_snoc hxk hfv.yk hurep hfv.rp (fun p hp => ?_) (fun p hp => ?_)
          · rw [List.append_assoc, List.getElem?_append_left (by omega)]
          · rw [List.append_assoc, List.getElem?_append_right (by omega), hul, show xs.length * k + p - xs.length * k = p from by omega, List.getElem?_append_left (by omega)]⟩ (fun _ _ h => by cases h)
    have hm' : Mem w H (fun _ => False) (upd γ i ⟨w.heap.size, cap, fun _ => False⟩) H [(i, .arr k (xs ++ ys))] (w.drew.alloc (.cells (us ++ vs ++ (Builtin.zeroCells z.cells (cap - (xs.length + ys.length))).toList).toArray el)) :=
      ⟨⟨hm0.keep.os, hm0.keep.tape, hm0.keep.output, hm0.keep.size, hm0.keep.block⟩, hm0.hle, ⟨hm0.hnew.c, hm0.hnew.m⟩, hm0.hok, hm0.ent, hm0.free, hm0.fresh, hm0.apart⟩
    refine ⟨_, cap, _, hexec _ _ hrun, hm', ?_⟩
    have := Rep.arr (γ := upd γ i ⟨w.heap.size, cap, fun _ => False⟩) (H := H) i k (xs.length + ys.length) (some ⟨w.heap.size, 0, none⟩)
    rw [upd_same] at this
    exact this hcap (fun _ => rfl)
theorem B.appF {i : Nat} {x y : Operand} {st xt : TypeId} {k : Nat} {xs ys : List (List D)} {av0 : AV} (hx : ge t x = some av0) (hfu : FullIs av0 k xs) (hy : FlatQ X t σ y k ys) (hI : elInfo X.P st xt = some k) (hb : xs.length + ys.length ≤ 1000000000) (hne : ys ≠ [] ∨ xs = []) :
    BirthJ X ⟨d, .call { callee := .builtin .append, args := #[x, y], argTypes := #[st, xt] }, ty, pos, aft, g⟩ t σ i (.arr i k (xs.length + ys.length)) (.arr k (xs ++ ys)) := by
  obtain ⟨el, z, bytes, h1, h2, h3, h4, h5, h6, h7, h8⟩ := elInfo_out hI
  exact B.appendF hx hfu hy h1 h2 h3 h4 h5 h6 h7 (bytes_fit hb h8) hne
end birth
end Go.Gv
end
section
open Go Go.Gv
attribute [local irreducible] Go.Gv.WJ Go.Gv.OpJ Go.Gv.QJ Go.Gv.Spl Go.Gv.Req Go.Gv.IdxP Go.Gv.RegP Go.Gv.FinP Go.Gv.CellP Go.Gv.CellsP Go.Gv.ArrP Go.Gv.ArrsP Go.Gv.DropP Go.Gv.ByteP Go.Gv.StoreP
set_option maxRecDepth 100000
namespace Go.Proofs.E
theorem insO_at (o : OP) : ∀ ks : List OP, insO o ks = ks.take (pos1 o ks) ++ o :: ks.drop (pos1 o ks)
  | [] => rfl
  | k :: r => by
    rw [insO, pos1]
    split
    · rw [List.take_succ_cons, List.drop_succ_cons, insO_at o r]; rfl
    · rfl
theorem kids_take {l : List OP} {i : Nat} {x : OP} (h : l[i]? = some x) (a : ID) : kids (insL (l.take (i + 1))) a = if x.k = 0 ∧ x.a = a then insO x (kids (insL (l.take i)) a) else kids (insL (l.take i)) a := by
  rw [take_snoc h]
  by_cases hk : x.k = 0
  · rw [insL_snoc0 hk, kids_snoc]
    by_cases ha : x.a = a
    · rw [if_pos ha, if_pos ⟨hk, ha⟩]
    · rw [if_neg ha, if_neg (fun e => ha e.2)]
  · rw [insL_snoc1 hk, if_neg (fun e => hk e.1)]
theorem kidsO_len (I : List OP) (a : ID) : (kids I a).length ≤ I.length := by
  have : ∀ (J ks : List OP), (kidsL a J ks).length ≤ J.length + ks.length := fun J => by
    induction J with
    | nil => intro ks; simp [kidsL]
    | cons o J ih =>
      intro ks
      rw [kidsL, List.length_cons]
      have hins : ∀ ks : List OP, (insO o ks).length = ks.length + 1 := fun ks => by
        rw [insO_at, List.length_append, List.length_cons, List.length_take, List.length_drop]
        have := pos1_le o ks; omega
      split
      · have := ih (insO o ks); rw [hins] at this; omega
      · have := ih ks; omega
  unfold kids; simpa using this I []
theorem ins_row (x : OP) (ks : List OP) (m : Nat) (h : m = pos1 x ks) : (ks.map opD).take m ++ ([opD x] ++ ((ks.map opD).drop ((m : Int).toNat)).take (ks.length - ((m : Int).toNat))) = (insO x ks).map opD := by
  rw [insO_at, ← h, Int.toNat_natCast, List.map_append, List.map_cons, List.map_take, List.map_drop, List.take_of_length_le (l := List.drop m _) (by rw [List.length_drop, List.length_map]; exact Nat.le_refl _)]; rfl
theorem ins_len (x : OP) (ks : List OP) (m : Nat) (hm : m ≤ ks.length) (h : m = pos1 x ks) : ((m : Int).toNat) + ([opD x] ++ ((ks.map opD).drop ((m : Int).toNat)).take (ks.length - ((m : Int).toNat))).length = (insO x ks).length := by
  have h2 := congrArg List.length (ins_row x ks m h)
  rw [List.length_append, List.length_map, List.length_take, List.length_map] at h2
  rw [← h2, Int.toNat_natCast]; omega
theorem flat_take (F : ID → List OP) (ks : List OP) (j : Nat) {k : OP} (h : ks[j]? = some k) : (ks.take (j + 1)).flatMap (fun k => k :: F k.i) = (ks.take j).flatMap (fun k => k :: F k.i) ++ (k :: F k.i) := by
  rw [take_snoc h, List.flatMap_append]; simp
theorem flat_take_le (F : ID → List OP) (ks : List OP) (j : Nat) : ((ks.take j).flatMap (fun k => k :: F k.i)).length ≤ (ks.flatMap (fun k => k :: F k.i)).length := by
  have := congrArg (fun l : List OP => (l.flatMap (fun k => k :: F k.i)).length) (List.take_append_drop j ks)
  simp only [List.flatMap_append, List.length_append] at this
  omega
theorem row_appE (f : OP → EL) (A : List OP) (k : OP) (B : List OP) : ((A.map f).map elD ++ [elD (f k)]) ++ (B.map f).map elD = ((A ++ (k :: B)).map f).map elD := by simp
theorem row_appL (f : OP → EL) (A : List OP) (k : OP) (B : List OP) : ((A.map f).length + 1) + ((B.map f).map elD).length = ((A ++ (k :: B)).map f).length := by simp; omega
theorem follow_step (l : List OP) (hl : l.length ≤ 1000000) (a : ID) (F : ID → List OP) (hF : ((kids (insL l) a).flatMap fun k => k :: F k.i).length ≤ 1000000)
    (ih : ∀ k, k ∈ kids (insL l) a → Cv 52 [.d (.sl 6 (l.map opD)), idv k.i] (.d (.sl 4 (((F k.i).map (elO l)).map elD)))) :
    Cv 52 [.d (.sl 6 (l.map opD)), idv a] (.d (.sl 4 ((((kids (insL l) a).flatMap fun k => k :: F k.i).map (elO l)).map elD))) := by
  refine Ct.of_wv Tryd.f52 Tryd.func52 rfl rfl fun w H B g0 => ?_
  try refine WJ.cut ?_
  (first | refine Sq.go ?_ | refine vL_nil (Sq.go ?_) | skip)
  try refine WJ.cut ?_
  (first | refine Sq.go ?_ | refine vL_nil (Sq.go ?_) | skip)
  try refine WJ.cut ?_
  refine WJ.shift (SJ.nilArr 1000 5 6 rfl rfl) ?_
  refine WJ.loopK (V := Nat) (fun i => [(6, iv i), (5, .arr 1000 6 (kids (insL (l.take i)) a).length)]) (fun i => [(1000, .arr 6 ((kids (insL (l.take i)) a).map opD))]) [1000] (fun i => l.length - i) (fun i => i ≤ l.length) 0 (by omega) (by repeat' (first | exact trivial | exact rfl | refine And.intro ?_ ?_)) (by repeat' (first | exact trivial | exact rfl | refine And.intro ?_ ?_)) ?_
  intro i hi
  have hkl := kidsO_len (insL (l.take i)) a
  have hil := insL_le (l.take i)
  have htl := List.length_take (i := i) (l := l)
  refine Spl.of (fun h1 => ?_) (fun h1 => ?_)
  · have hlt : i < l.length := by have := of_decide_eq_true h1; simp at this; omega
    have hx : l[i]? = some l[i] := by simp
    have hk := kids_take hx a
    generalize l[i] = x at hx hk
    generalize kids (insL (l.take i)) a = ks at hk hkl
    (repeat (first | refine Spl.t rfl ?_ | refine Spl.f rfl ?_))
    refine RegP.of rfl (by decide +kernel) ?_
    refine IdxP.of (opD x) (by omega) (by simp [hx]) ?_
    refine Spl.of (fun h2 => ?_) (fun h2 => ?_)
    · have h2 : x.k ≠ 0 := by simpa using h2
      rw [if_neg (fun e => h2 e.1)] at hk
      (repeat (first | refine Spl.t rfl ?_ | refine Spl.f rfl ?_))
      exact ⟨i + 1, by omega, by omega, ⟨some_iv (wrap_id _ (by omega) (by omega)), some_arr (by rw [hk]), trivial⟩, (by repeat' (first | exact trivial | exact rfl | refine And.intro ?_ ?_)), ⟨some_ear (by rw [hk]), trivial⟩, (by repeat' (first | exact trivial | exact rfl | refine And.intro ?_ ?_))⟩
    · have h2 : x.k = 0 := by simpa using h2
      (repeat (first | refine Spl.t rfl ?_ | refine Spl.f rfl ?_))
      refine IdxP.of (opD x) (by omega) (by simp [hx]) ?_
      (repeat (first | refine Spl.t rfl ?_ | refine Spl.f rfl ?_))
      refine QuietP.of (O.neT 3 rfl rfl rfl rfl rfl eqR_ok eqR_g (eqR x.a a)) ?_
      (repeat (first | refine Spl.t rfl ?_ | refine Spl.f rfl ?_))
      refine Spl.of (fun h3 => ?_) (fun h3 => ?_)
      · have h3 : x.a ≠ a := by simpa using h3
        rw [if_neg (fun e => h3 e.2)] at hk
        (repeat (first | refine Spl.t rfl ?_ | refine Spl.f rfl ?_))
        exact ⟨i + 1, by omega, by omega, ⟨some_iv (wrap_id _ (by omega) (by omega)), some_arr (by rw [hk]), trivial⟩, (by repeat' (first | exact trivial | exact rfl | refine And.intro ?_ ?_)), ⟨some_ear (by rw [hk]), trivial⟩, (by repeat' (first | exact trivial | exact rfl | refine And.intro ?_ ?_))⟩
      · have h3 : x.a = a := by simpa using h3
        rw [if_pos ⟨h2, h3⟩] at hk
        have hp1 := pos1_le x ks
        (repeat (first | refine Spl.t rfl ?_ | refine Spl.f rfl ?_))
        refine WJ.loopK (V := Nat) (fun m => [(7, iv m)]) (fun _ => []) [] (fun m => ks.length - m) (fun m => m ≤ ks.length ∧ m + pos1 x (ks.drop m) = pos1 x ks) 0 ⟨by omega, by simp⟩ (by repeat' (first | exact trivial | exact rfl | refine And.intro ?_ ?_)) (by repeat' (first | exact trivial | exact rfl | refine And.intro ?_ ?_)) ?_
        have hsz : ∀ m : Nat, [opD x].length + (((ks.map opD).drop ((m : Int).toNat)).take (ks.length - ((m : Int).toNat))).length ≤ 1000000000 := fun m => by
          rw [List.length_take, List.length_drop, List.length_map]; simp only [List.length_singleton]; omega
        rintro m ⟨hm, hmp⟩
        refine RegP.of rfl (by decide +kernel) ?_
        refine Spl.of (fun h4 => ?_) (fun h4 => ?_)
        · have h4 : m < ks.length := by have := of_decide_eq_true h4; omega
          have hy : ks[m]? = some ks[m] := by simp
          (repeat (first | refine Spl.t rfl ?_ | refine Spl.f rfl ?_))
          refine IdxP.of (opD x) (by omega) (by simp [hx]) ?_
          (repeat (first | refine Spl.t rfl ?_ | refine Spl.f rfl ?_))
          refine Req.of ⟨by omega, by omega⟩ ?_
          (repeat (first | refine Spl.t rfl ?_ | refine Spl.f rfl ?_))
          refine ArrsP.of m 1 (opD ks[m]) [.v (.int .i64 ks[m].i.c), .v (.int .i64 ks[m].i.s)] rfl (by simp [hy]) (show 1 + 2 ≤ 6 by decide) rfl ?_
          (repeat (first | refine Spl.t rfl ?_ | refine Spl.f rfl ?_))
          refine QuietP.of (QJ.call (RLess_c x.i ks[m].i) (fun _ _ => rfl) rfl rfl) ?_
          rw [List.drop_eq_getElem_cons h4, pos1] at hmp
          refine Spl.of (fun h5 => ?_) (fun h5 => ?_)
          · rw [if_pos h5] at hmp
            (repeat (first | refine Spl.t rfl ?_ | refine Spl.f rfl ?_))
            exact ⟨m + 1, ⟨by omega, by omega⟩, by omega, ⟨some_iv (wrap_id _ (by omega) (by omega)), trivial⟩, (by repeat' (first | exact trivial | exact rfl | refine And.intro ?_ ?_)), (by repeat' (first | exact trivial | exact rfl | refine And.intro ?_ ?_)), (by repeat' (first | exact trivial | exact rfl | refine And.intro ?_ ?_))⟩
          · rw [if_neg (by rw [h5]; decide)] at hmp
            (repeat (first | refine Spl.t rfl ?_ | refine Spl.f rfl ?_))
            have hmeq : m = pos1 x ks := by omega
            have hsz := hsz m
            (refine RegP.mix 12 rfl (by decide +kernel) ?_; refine QuietP.of (O.cutPre rfl rfl rfl rfl (by omega) (by omega)) ?_; refine IdxP.of (opD x) (by omega) (by simp [hx]) ?_; refine QuietP.of (O.cutSuf rfl rfl rfl rfl (by omega) (by omega)) ?_; refine QuietP.of (QJ.appG rfl (.full _ _) (FlatQ.suf rfl rfl (by rw [List.length_map]; omega)) rfl hsz) ?_; (repeat' (refine And.intro ?_ ?_)); refine OpJ.shift (SJ.sufArr 52 rfl) (OpJ.shift (SJ.cutA 1000 m rfl) (eff_sound ?_)); refine Req.of ⟨?_, ?_⟩ ?_; (rw [List.length_take, List.length_map]; omega); (rw [List.length_append, List.length_take, List.length_drop, List.length_map]; show _ + (1 + _) ≤ _; omega); (repeat' (refine And.intro ?_ ?_)); exact ⟨i + 1, by omega, by omega, ⟨some_iv (wrap_id _ (by omega) (by omega)), some_arr (by rw [hk]; exact ins_len x ks m hm hmeq), trivial⟩, (by repeat' (first | exact trivial | exact rfl | refine And.intro ?_ ?_)), ⟨some_ear (by rw [hk]; exact ins_row x ks m hmeq), trivial⟩, (by repeat' (first | exact trivial | exact rfl | refine And.intro ?_ ?_))⟩)
        · have h4 : ¬ m < ks.length := by have := of_decide_eq_false h4; omega
          rw [List.drop_eq_nil_of_le (by omega), pos1] at hmp
          have hmeq : m = pos1 x ks := by omega
          have hsz := hsz m
          (repeat (first | refine Spl.t rfl ?_ | refine Spl.f rfl ?_))
          (refine RegP.mix 12 rfl (by decide +kernel) ?_; refine QuietP.of (O.cutPre rfl rfl rfl rfl (by omega) (by omega)) ?_; refine IdxP.of (opD x) (by omega) (by simp [hx]) ?_; refine QuietP.of (O.cutSuf rfl rfl rfl rfl (by omega) (by omega)) ?_; refine QuietP.of (QJ.appG rfl (.full _ _) (FlatQ.suf rfl rfl (by rw [List.length_map]; omega)) rfl hsz) ?_; (repeat' (refine And.intro ?_ ?_)); refine OpJ.shift (SJ.sufArr 52 rfl) (OpJ.shift (SJ.cutA 1000 m rfl) (eff_sound ?_)); refine Req.of ⟨?_, ?_⟩ ?_; (rw [List.length_take, List.length_map]; omega); (rw [List.length_append, List.length_take, List.length_drop, List.length_map]; show _ + (1 + _) ≤ _; omega); (repeat' (refine And.intro ?_ ?_)); exact ⟨i + 1, by omega, by omega, ⟨some_iv (wrap_id _ (by omega) (by omega)), some_arr (by rw [hk]; exact ins_len x ks m hm hmeq), trivial⟩, (by repeat' (first | exact trivial | exact rfl | refine And.intro ?_ ?_)), ⟨some_ear (by rw [hk]; exact ins_row x ks m hmeq), trivial⟩, (by repeat' (first | exact trivial | exact rfl | refine And.intro ?_ ?_))⟩)
  · have h1 := of_decide_eq_false h1
    simp at h1
    have hall : l.take i = l := List.take_of_length_le (by omega)
    rw [hall] at hkl
    rw [hall]
    generalize kids (insL l) a = ks at hF ih hkl
    have hll := insL_le l
    (repeat (first | refine Spl.t rfl ?_ | refine Spl.f rfl ?_))
    (first | refine Sq.go ?_ | refine vL_nil (Sq.go ?_) | skip)
    try refine WJ.cut ?_
    (first | refine Sq.go ?_ | refine vL_nil (Sq.go ?_) | skip)
    try refine WJ.cut ?_
    refine WJ.shift (SJ.nilArr 1001 8 4 rfl rfl) ?_
    refine WJ.loopK (V := Nat) (fun j => [(9, iv j), (8, .arr 1001 4 (((ks.take j).flatMap fun k => k :: F k.i).map (elO l)).length)]) (fun j => [(1001, .arr 4 ((((ks.take j).flatMap fun k => k :: F k.i).map (elO l)).map elD))]) [1001] (fun j => ks.length - j) (fun j => j ≤ ks.length) 0 (by omega) (by repeat' (first | exact trivial | exact rfl | refine And.intro ?_ ?_)) (by repeat' (first | exact trivial | exact rfl | refine And.intro ?_ ?_)) ?_
    intro j hj
    have hle := flat_take_le F ks j
    have htj := flat_take_le F ks (j + 1)
    refine Spl.of (fun h2 => ?_) (fun h2 => ?_)
    · have hlt : j < ks.length := by have := of_decide_eq_true h2; omega
      have hx : ks[j]? = some ks[j] := by simp
      have hih := ih ks[j] (List.getElem_mem hlt)
      have hsn := flat_take F ks j hx
      generalize ks[j] = k at hx hih hsn
      rw [hsn, List.length_append, List.length_cons] at htj
      have hdead : decide (hasIx 1 k.i l ≥ 0) = deadO l k.i := by
        unfold deadO
        rcases hasIx_is 1 k.i l with ⟨e1, e2⟩ | ⟨n, x, e1, _, e2⟩
        · rw [e1, e2]; rfl
        · rw [e1, e2, decide_eq_true (by omega)]; rfl
      (repeat (first | refine Spl.t rfl ?_ | refine Spl.f rfl ?_))
      refine RegP.mix 21 rfl (by decide +kernel) ?_
      refine Req.of ⟨by omega, by omega⟩ ?_
      (repeat (first | refine Spl.t rfl ?_ | refine Spl.f rfl ?_))
      refine ArrsP.of j 1 (opD k) [.v (.int .i64 k.i.c), .v (.int .i64 k.i.s)] rfl (by simp [hx]) (show 1 + 2 ≤ 6 by decide) rfl ?_
      (repeat (first | refine Spl.t rfl ?_ | refine Spl.f rfl ?_))
      refine Req.of ⟨by omega, by omega⟩ ?_
      (repeat (first | refine Spl.t rfl ?_ | refine Spl.f rfl ?_))
      refine ArrP.of j 5 (opD k) (.v (.int .i32 k.ch)) rfl (by simp [hx]) rfl ?_
      (repeat (first | refine Spl.t rfl ?_ | refine Spl.f rfl ?_))
      refine Req.of ⟨by omega, by omega⟩ ?_
      (repeat (first | refine Spl.t rfl ?_ | refine Spl.f rfl ?_))
      refine ArrsP.of j 1 (opD k) [.v (.int .i64 k.i.c), .v (.int .i64 k.i.s)] rfl (by simp [hx]) (show 1 + 2 ≤ 6 by decide) rfl ?_
      (repeat (first | refine Spl.t rfl ?_ | refine Spl.f rfl ?_))
      refine QuietP.of (QJ.call (RHas_c l 1 k.i hl) (fun _ _ => rfl) rfl rfl) ?_
      (repeat' (refine And.intro ?_ ?_))
      refine Req.of ⟨by simp, ?_⟩ ?_
      · show _ + 1 ≤ 1000000000
        rw [List.length_map]; omega
      (repeat' (refine And.intro ?_ ?_))
      (repeat (first | refine Spl.t rfl ?_ | refine Spl.f rfl ?_))
      refine Req.of ⟨by omega, by omega⟩ ?_
      (repeat (first | refine Spl.t rfl ?_ | refine Spl.f rfl ?_))
      refine ArrsP.of j 1 (opD k) [.v (.int .i64 k.i.c), .v (.int .i64 k.i.s)] rfl (by simp [hx]) (show 1 + 2 ≤ 6 by decide) rfl ?_
      (repeat (first | refine Spl.t rfl ?_ | refine Spl.f rfl ?_))
      refine OpJ.callV hih (fun _ _ => rfl) rfl rfl rfl ?_
      refine Req.of ⟨by simp; try rfl, ?_⟩ ?_
      · rw [List.length_map, List.length_map, List.length_map]
        show _ + 1 + _ ≤ 1000000000
        omega
      refine ⟨j + 1, by omega, by omega, ⟨some_iv (wrap_id _ (by omega) (by omega)), some_arr ?_, trivial⟩, (by repeat' (first | exact trivial | exact rfl | refine And.intro ?_ ?_)), ⟨some_ear ?_, trivial⟩, (by repeat' (first | exact trivial | exact rfl | refine And.intro ?_ ?_))⟩
      · rw [hsn]; exact row_appL (elO l) _ k _
      · rw [hsn, hdead]; exact row_appE (elO l) _ k _
    · have h2 := of_decide_eq_false h2
      have hall2 : ks.take j = ks := List.take_of_length_le (by omega)
      rw [hall2]
      (repeat (first | refine Spl.t rfl ?_ | refine Spl.f rfl ?_))
      (first | refine Sq.go ?_ | refine vL_nil (Sq.go ?_) | skip)
      try refine vc_sound _ _ _ _ ?_
      refine FinP.pubA 1001 rfl (by simp) (by rw [List.length_map]; omega) (FinP.open rfl ?_)
      rw [List.take_of_length_le (by simp)]
end Go.Proofs.E
end
section
open Go Go.Gv
attribute [local irreducible] Go.Gv.WJ Go.Gv.OpJ Go.Gv.QJ Go.Gv.Spl Go.Gv.Req Go.Gv.IdxP Go.Gv.RegP Go.Gv.FinP Go.Gv.CellP Go.Gv.CellsP Go.Gv.ArrP Go.Gv.ArrsP Go.Gv.DropP Go.Gv.ByteP Go.Gv.StoreP
set_option maxRecDepth 100000
namespace Go.Proofs.E
attribute [local irreducible] elems
theorem getIx_none {a : ID} : ∀ {N : List IE}, alook a N = none → getIx a N = -1
  | [], _ => rfl
  | y :: l, h => by
    rw [alook] at h
    split at h
    · cases h
    · next hn => rw [getIx, if_neg (fun e => hn e.symm), getIx_none h]; rfl
theorem getIx_some {a : ID} {e : EN} : ∀ {N : List IE}, alook a N = some e → 0 ≤ getIx a N ∧ N[(getIx a N).toNat]? = some (a, e)
  | [], h => by cases h
  | y :: l, h => by
    rw [alook] at h
    split at h
    · next hy => cases h; rw [getIx, if_pos hy.symm]; exact ⟨by decide, by cases y; simp_all⟩
    · next hn =>
      obtain ⟨h1, h2⟩ := getIx_some h
      rw [getIx, if_neg (fun e => hn e.symm), if_neg (by omega)]
      refine ⟨by omega, ?_⟩
      rw [show (getIx a l + 1).toNat = (getIx a l).toNat + 1 by omega]
      simpa using h2
theorem rfold_done {a : ID} {e : EN} : ∀ (N out : List IE), (∀ y, y ∈ N → y.1 ≠ a) → N.foldl (rstep a e) (out, true) = (out ++ N, true)
  | [], out, _ => by simp
  | y :: l, out, h => by
    have : rstep a e (out, true) y = (out ++ [y], true) := by simp [rstep, h y (by simp)]
    rw [List.foldl_cons, this, rfold_done l _ fun z hz => h z (List.mem_cons_of_mem _ hz), List.append_assoc]; rfl
theorem rfold_ins {a : ID} {e : EN} : ∀ (N out : List IE), upM N → (if (N.foldl (rstep a e) (out, false)).2 = true then (N.foldl (rstep a e) (out, false)).1 else (N.foldl (rstep a e) (out, false)).1 ++ [(a, e)]) = out ++ insM a e N
  | [], out, _ => by simp [insM]
  | y :: l, out, h => by
    obtain ⟨h1, h2⟩ := List.pairwise_cons.1 h
    rw [List.foldl_cons, insM]
    by_cases hl : lessI y.1 a = true
    · have hne : ¬ a = y.1 := fun e => less_irr a (by rw [← e] at hl; exact hl)
      have hnl : ¬ lessI a y.1 = true := fun x => less_irr a (less_tr x hl)
      have : rstep a e (out, false) y = (out ++ [y], false) := by
        have hne' : ¬ y.1 = a := fun h => hne h.symm
        simp [rstep, hl, hne']
      rw [this, rfold_ins l _ h2, if_neg hnl, if_neg hne, List.append_assoc]; rfl
    · by_cases he : a = y.1
      · have hd : ∀ z, z ∈ l → z.1 ≠ a := fun z hz e => less_irr a (by have := h1 z hz; rw [e, ← he] at this; exact this)
        have : rstep a e (out, false) y = (out ++ [(a, e)], true) := by
          have h0 : lessI y.1 a = false := by simpa using hl
          simp only [rstep, h0]; simp [he]
        rw [this, rfold_done l _ hd, if_pos rfl, if_neg (by rw [he]; exact less_irr _), if_pos he, List.append_assoc]; rfl
      · have hl' := less_tot hl (fun e => he e.symm)
        have hd : ∀ z, z ∈ l → z.1 ≠ a := fun z hz e => less_irr a (by have := less_tr hl' (h1 z hz); rw [e] at this; exact this)
        have : rstep a e (out, false) y = (out ++ [(a, e)] ++ [y], true) := by
          have h0 : lessI y.1 a = false := by simpa using hl
          have hne' : ¬ y.1 = a := fun h => he h.symm
          simp only [rstep, h0]; simp [hne']
        rw [this, rfold_done l _ hd, if_pos rfl, if_pos hl']; simp
theorem refPut_ins {a : ID} {e : EN} {N : List IE} (h : upM N) : refPut a e N = insM a e N := by
  have := rfold_ins (e := e) (a := a) N [] h
  rw [List.nil_append] at this
  exact this
theorem RPutIs_c (N : List IE) (h : upM N) (a : ID) (e : EN) (hN : N.length ≤ 1000000) (hm : mayI a = true) : Cv 53 [.d (.sl 6 (N.map reD)), reV (a, e)] (.tup [.d (.sl 6 ((insM a e N).map reD)), bv true]) := by
  have := RPut_c N a e hN
  rw [if_pos hm, refPut_ins h] at this
  exact this
theorem RPutNo_c (N : List IE) (a : ID) (e : EN) (hN : N.length ≤ 1000000) (hm : ¬ mayI a = true) : Cv 53 [.d (.sl 6 (N.map reD)), reV (a, e)] (.tup [.d (.sl 6 (N.map reD)), bv false]) := by
  have := RPut_c N a e hN
  rw [if_neg hm] at this
  exact this
theorem len_ins_le {a : ID} {e : EN} {M : List IE} (h : upM M) : (insM a e M).length ≤ M.length + 1 := by
  rw [len_insM h]; split <;> omega
theorem ieRow (cs : List D) (h : (Ty.st [.st [.int .i64, .int .i64], .st [.st [.int .i64, .int .i64], .int .i32, .bool]]).ok cs) : ∃ x : IE, cs = reD x ∧ True := by
  obtain ⟨_, _, rfl, ⟨_, _, rfl, ⟨a0, rfl, _⟩, ⟨_, _, rfl, ⟨a1, rfl, _⟩, rfl⟩⟩, ⟨_, _, rfl, ⟨_, _, rfl, ⟨_, _, rfl, ⟨a2, rfl, _⟩, ⟨_, _, rfl, ⟨a3, rfl, _⟩, rfl⟩⟩, ⟨_, _, rfl, ⟨a4, rfl, _⟩, ⟨_, _, rfl, ⟨a5, rfl⟩, rfl⟩⟩⟩, rfl⟩⟩ := h
  exact ⟨(⟨a0, a1⟩, ⟨⟨a2, a3⟩, a4, a5⟩), rfl, trivial⟩
end Go.Proofs.E
end
section
open Go Go.Gv
attribute [local irreducible] Go.Gv.WJ Go.Gv.OpJ Go.Gv.QJ Go.Gv.Spl Go.Gv.Req Go.Gv.IdxP Go.Gv.RegP Go.Gv.FinP Go.Gv.CellP Go.Gv.CellsP Go.Gv.ArrP Go.Gv.ArrsP Go.Gv.DropP Go.Gv.ByteP Go.Gv.StoreP
set_option maxRecDepth 100000
namespace Go.Proofs.E
attribute [local irreducible] elems
theorem fol_sub {I : List OP} {n : Nat} {a : ID} {k : OP} (hk : k ∈ kids I a) : (fol n I k.i).length ≤ (fol (n + 1) I a).length := by
  rw [fol]
  have : ∀ ks : List OP, k ∈ ks → (fol n I k.i).length ≤ (ks.flatMap fun k => k :: fol n I k.i).length := fun ks => by
    induction ks with
    | nil => intro h; simp at h
    | cons x r ih =>
      intro h
      rw [List.flatMap_cons, List.length_append, List.length_cons]
      rcases List.mem_cons.1 h with rfl | h
      · omega
      · have := ih h; omega
  exact this _ hk
theorem follow_c {l : List OP} (hd : Dn l) (hl : l.length ≤ 1000000) : ∀ (n : Nat) (a : ID), 1048576 < (n : Int) + a.c → (fol n (insL l) a).length ≤ 1000000 →
    Cv 52 [.d (.sl 6 (l.map opD)), idv a] (.d (.sl 4 (((fol n (insL l) a).map (elO l)).map elD)))
  | 0, a, hn, _ => by
    have hk : kids (insL l) a = [] := List.eq_nil_iff_forall_not_mem.2 fun k hk => by
      obtain ⟨h1, h2⟩ := mem_kids.1 hk
      have := hd.is.tk.is.ok.cl k h1
      rw [h2] at this; omega
    have := follow_step l hl a (fun _ => []) (by rw [hk]; simp) (fun k hk' => by rw [hk] at hk'; simp at hk')
    rw [hk] at this
    exact this
  | n + 1, a, hn, hlen => by
    rw [fol] at hlen ⊢
    refine follow_step l hl a (fun i => fol n (insL l) i) hlen fun k hk => ?_
    obtain ⟨h1, h2⟩ := mem_kids.1 hk
    have := hd.is.tk.is.ok.cl k h1
    rw [h2] at this
    exact follow_c hd hl n k.i (by omega) (Nat.le_trans (fol_sub hk) (by rw [fol]; exact hlen))
theorem List_c {l : List OP} (hd : Dn l) (hl : l.length ≤ 1000000) : Cv 20 [.d (.sl 6 (l.map opD))] (.d (.sl 4 ((rowE l).map elD))) := by
  have hi := insL_le l
  have hf := follow_c hd hl 1048577 ⟨0, 0⟩ (by decide) (by rw [show (fol 1048577 (insL l) ⟨0, 0⟩) = folR (insL l) from rfl, hd.is.tk.is.len]; omega)
  refine Ct.of_vc Tryd.f20 Tryd.func20 rfl rfl fun w H B g0 => ?_
  refine OpJ.callV hf (fun _ _ => rfl) rfl rfl rfl ?_
  (repeat (first | refine Spl.t rfl ?_ | refine Spl.f rfl ?_))
  exact FinP.open rfl rfl
/-- The entries of the first operations, by what all say of deletes. -/
def entsN (l : List OP) : Nat → List IE
  | 0 => []
  | i + 1 => match l[i]? with
    | some o => if o.k = 0 then insM o.i ⟨o.a, o.ch, deadO l o.i⟩ (entsN l i) else entsN l i
    | none => entsN l i
theorem entsN_is {l : List OP} (hd : Dn l) : ∀ i, i ≤ l.length → upM (entsN l i) ∧ (entsN l i).length ≤ i ∧ ∀ a, alook a (entsN l i) = (findO 0 a (l.take i)).map fun x => ⟨x.a, x.ch, deadO l a⟩
  | 0, _ => ⟨List.Pairwise.nil, by simp [entsN], fun a => by simp [entsN, alook, findO]⟩
  | i + 1, h => by
    obtain ⟨h1, h2, h3⟩ := entsN_is hd i (by omega)
    have hx : l[i]? = some l[i] := by simp [show i < l.length by omega]
    have hmem : l[i] ∈ l := List.getElem_mem (by omega)
    have ht := take_snoc hx
    generalize l[i] = o at hx hmem ht
    simp only [entsN, hx]
    by_cases hk : o.k = 0
    · rw [if_pos hk]
      refine ⟨up_insM h1, by have := len_ins_le (a := o.i) (e := ⟨o.a, o.ch, deadO l o.i⟩) h1; omega, fun a => ?_⟩
      rw [alook_insM h1, h3, ht, findO_app]
      by_cases e : a = o.i
      · subst e
        rw [if_pos rfl]
        have hu := find_unique hd (mem_insL.2 ⟨hmem, hk⟩)
        cases hf : findO 0 o.i (l.take i) with
        | none => rw [findO, if_pos ⟨hk, rfl⟩]; rfl
        | some y =>
          obtain ⟨y1, y2, y3⟩ := findO_some hf
          have hy := find_unique hd (mem_insL.2 ⟨List.mem_of_mem_take y1, y2⟩)
          rw [y3, hu] at hy
          cases hy; rfl
      · rw [if_neg e]
        have : findO 0 a [o] = none := by rw [findO, if_neg (fun h => e h.2.symm)]; rfl
        rw [this, Option.or_none]
    · rw [if_neg hk]
      refine ⟨h1, by omega, fun a => ?_⟩
      rw [h3, ht, findO_app]
      have : findO 0 a [o] = none := by rw [findO, if_neg (fun h => hk h.1)]; rfl
      rw [this, Option.or_none]
theorem entsN_succ {l : List OP} {i : Nat} {o : OP} (h : l[i]? = some o) : entsN l (i + 1) = if o.k = 0 then insM o.i ⟨o.a, o.ch, deadO l o.i⟩ (entsN l i) else entsN l i := by
  simp only [entsN, h]
theorem Is6_c {s : SS} {l : List OP} (h : isS s l) (hl : l.length ≤ 100000) : Cv 21 [stv s, .d (.sl 6 (l.map opD))] (bv true) := by
  obtain ⟨M, m1, m2, m3⟩ := h.mp
  have hsm := h.small
  have hi3 := Is3_c s.t h.bal (by omega) (by rw [h.els]; exact okE_of h.dn)
  rw [h.els] at hi3
  have hN := entsN_is h.dn l.length (Nat.le_refl _)
  have hMN : M = entsN l l.length := up_ext m1.up hN.1 fun a => by
    rw [m2, hN.2.2, List.take_length]; rfl
  have hli := h.dn.is.len
  have hi4 := Is4_c m1 (by omega) (entsN l l.length) (by have := hN.2.1; omega)
  rw [hMN, decide_eq_true rfl] at hi4
  refine Ct.of_wv Tryd.f21 Tryd.func21 rfl rfl fun w H B g0 => ?_
  try refine WJ.cut ?_
  (first | refine Sq.go ?_ | refine vL_nil (Sq.go ?_) | skip)
  try refine WJ.cut ?_
  (first | refine Sq.go ?_ | refine vL_nil (Sq.go ?_) | skip)
  try refine WJ.cut ?_
  refine WJ.shift (SJ.nilD 5 6 rfl) ?_
  refine WJ.loopK (V := Nat) (fun i => [(10, iv i), (5, .d (.sl 6 ((entsN l i).map reD)))]) (fun _ => []) [] (fun i => l.length - i) (fun i => i ≤ l.length) 0 (by omega) (by repeat' (first | exact trivial | exact rfl | refine And.intro ?_ ?_)) (by repeat' (first | exact trivial | exact rfl | refine And.intro ?_ ?_)) ?_
  intro i hi
  refine Spl.of (fun h1 => ?_) (fun h1 => ?_)
  · have hlt : i < l.length := by have := of_decide_eq_true h1; simp at this; omega
    have hx : l[i]? = some l[i] := by simp
    have hmem : l[i] ∈ l := List.getElem_mem hlt
    have hsn := entsN_succ hx
    generalize l[i] = x at hx hmem hsn
    obtain ⟨hu, hlen, _⟩ := entsN_is h.dn i hi
    have hm := (checkO_0 (h.dn.is.ok x hmem)).1
    have hput := RPutIs_c (entsN l i) hu x.i ⟨x.a, x.ch, deadO l x.i⟩ (by omega) hm
    have hdead : decide (hasIx 1 x.i l ≥ 0) = deadO l x.i := by
      unfold deadO
      rcases hasIx_is 1 x.i l with ⟨e1, e2⟩ | ⟨n, y, e1, _, e2⟩
      · rw [e1, e2]; rfl
      · rw [e1, e2, decide_eq_true (by omega)]; rfl
    (repeat (first | refine Spl.t rfl ?_ | refine Spl.f rfl ?_))
    refine IdxP.of (opD x) (by omega) (by simp [hx]) ?_
    refine Spl.of (fun h2 => ?_) (fun h2 => ?_)
    · have h2 : x.k = 0 := of_decide_eq_true h2
      rw [if_pos h2] at hsn
      (repeat (first | refine Spl.t rfl ?_ | refine Spl.f rfl ?_))
      refine RegP.mix 14 rfl (by decide +kernel) ?_
      refine QuietP.of (QJ.call (RHas_c l 1 x.i (by omega)) (fun _ _ => rfl) rfl rfl) ?_
      refine QuietP.of (QJ.call hput (fun _ _ => rfl) (by rw [← hdead]; rfl) rfl) ?_
      (repeat' (first | exact trivial | refine And.intro ?_ ?_ | exact ⟨i + 1, by omega, by omega, ⟨some_iv (wrap_id _ (by omega) (by omega)), by rw [hsn]; rfl, trivial⟩, (by repeat' (first | exact trivial | exact rfl | refine And.intro ?_ ?_)), (by repeat' (first | exact trivial | exact rfl | refine And.intro ?_ ?_)), (by repeat' (first | exact trivial | exact rfl | refine And.intro ?_ ?_))⟩))
    · have h2 : ¬ x.k = 0 := of_decide_eq_false h2
      rw [if_neg h2] at hsn
      (repeat (first | refine Spl.t rfl ?_ | refine Spl.f rfl ?_))
      exact ⟨i + 1, by omega, by omega, ⟨some_iv (wrap_id _ (by omega) (by omega)), by rw [hsn]; rfl, trivial⟩, (by repeat' (first | exact trivial | exact rfl | refine And.intro ?_ ?_)), (by repeat' (first | exact trivial | exact rfl | refine And.intro ?_ ?_)), (by repeat' (first | exact trivial | exact rfl | refine And.intro ?_ ?_))⟩
  · have h1 := of_decide_eq_false h1
    simp at h1
    have he : i = l.length := by omega
    subst he
    (repeat (first | refine Spl.t rfl ?_ | refine Spl.f rfl ?_))
    (first | refine Sq.go ?_ | refine vL_nil (Sq.go ?_) | skip)
    try refine vc_sound _ _ _ _ ?_
    refine RegP.of rfl (by decide +kernel) ?_
    refine QuietP.of (QJ.call (List_c h.dn (by omega)) (fun _ _ => rfl) rfl rfl) ?_
    refine QuietP.of (QJ.call hi3 (fun _ _ => rfl) rfl rfl) ?_
    (repeat (first | refine Spl.t rfl ?_ | refine Spl.f rfl ?_))
    refine QuietP.of (QJ.call hi4 (fun _ _ => rfl) rfl rfl) ?_
    (repeat (first | refine Spl.t rfl ?_ | refine Spl.f rfl ?_))
    exact FinP.open rfl rfl
end Go.Proofs.E
end
section
open Go Go.Gv
attribute [local irreducible] Go.Gv.WJ Go.Gv.OpJ Go.Gv.QJ Go.Gv.Spl Go.Gv.Req Go.Gv.IdxP Go.Gv.RegP Go.Gv.FinP Go.Gv.CellP Go.Gv.CellsP Go.Gv.ArrP Go.Gv.ArrsP Go.Gv.DropP Go.Gv.ByteP Go.Gv.StoreP
set_option maxRecDepth 100000
namespace Go.Proofs.E
attribute [local irreducible] elems
def isBool : Value → Bool
  | .bool _ => true
  | _ => false
theorem opD_sc {l : List OP} : ∀ cs, cs ∈ l.map opD → ∀ a, a ∈ cs → ∃ u, a = .v u ∧ (!isBool u) = true := fun cs hcs a ha => by
  obtain ⟨o, _, rfl⟩ := List.mem_map.1 hcs
  simp only [opD, List.mem_cons, List.not_mem_nil, or_false] at ha
  rcases ha with rfl | rfl | rfl | rfl | rfl | rfl <;> exact ⟨_, rfl, rfl⟩
theorem elD_sc {L : List EL} : ∀ cs, cs ∈ L.map elD → ∀ a, a ∈ cs → ∃ u, a = .v u := fun cs hcs a ha => by
  obtain ⟨o, _, rfl⟩ := List.mem_map.1 hcs
  simp only [elD, List.mem_cons, List.not_mem_nil, or_false] at ha
  rcases ha with rfl | rfl | rfl | rfl <;> exact ⟨_, rfl⟩
theorem elD_bl {L : List EL} : ∀ cs, cs ∈ L.map elD → ∃ (j : Nat) (u : Value), cs[j]? = some (.v u) ∧ (!isBool u) = false := fun cs hcs => by
  obtain ⟨o, _, rfl⟩ := List.mem_map.1 hcs
  exact ⟨3, _, rfl, rfl⟩
theorem RPlaceM_c (L : List EL) (a : ID) (hL : L.length ≤ 1000000) : Cv 19 [.d (.sl 4 (L.map elD)), idv a] (iv (placeL a L)) := RPlace_c L a hL
theorem CorePlays_c (l : List OP) (a : ID) : Cv 5 [.d (.sl 6 (l.map opD)), idv a] (bv true) := by
  refine Ct.of_wv Tryd.f5 Tryd.func5 rfl rfl fun w H B g0 => ?_
  try refine WJ.cut ?_
  (first | refine Sq.go ?_ | refine vL_nil (Sq.go ?_) | skip)
  try refine WJ.cut ?_
  refine Spl.of (fun h => ?_) (fun h => ?_)
  · (repeat (first | refine Spl.t rfl ?_ | refine Spl.f rfl ?_))
    refine OpJ.callV Awake6_c (fun _ _ => rfl) rfl rfl rfl ?_
    (repeat (first | refine Spl.t rfl ?_ | refine Spl.f rfl ?_))
    refine .out (by simp) ?_
    exact FinP.open rfl rfl
  have hlen : l.length ≤ 50 := by have := of_decide_eq_false h; simp at this; omega
  (first | refine Sq.go ?_ | refine vL_nil (Sq.go ?_) | skip)
  try refine WJ.cut ?_
  (first | refine Sq.go ?_ | refine vL_nil (Sq.go ?_) | skip)
  try refine WJ.cut ?_
  (first | refine Sq.go ?_ | refine vL_nil (Sq.go ?_) | skip)
  try refine WJ.cut ?_
  refine WJ.shift (SJ.nilArr 1000 6 6 rfl rfl) ?_
  refine WJ.loopK (V := Nat × SS × List OP) (fun v => [(23, iv v.1), (6, .arr 1000 6 v.2.2.length)]) (fun v => [(5, .cells [.d v.2.1.t.d, .d v.2.1.p.d, iv v.2.1.n]), (1000, .arr 6 (v.2.2.map opD))]) [5, 1000] (fun v => l.length - v.1) (fun v => v.1 ≤ l.length ∧ isS v.2.1 v.2.2 ∧ v.2.2.length ≤ v.1) (0, ⟨.nil, .nil, 0⟩, []) ⟨by simp, isS_nil, by simp⟩ (by repeat' (first | exact trivial | exact rfl | refine And.intro ?_ ?_)) (by repeat' (first | exact trivial | exact rfl | refine And.intro ?_ ?_)) ?_
  rintro ⟨i, s, m⟩ ⟨hi, hs, hm⟩
  simp only at hi hs hm
  refine Spl.of (fun h1 => ?_) (fun h1 => ?_)
  · have hlt : i < l.length := by have := of_decide_eq_true h1; simp at this; omega
    have hx : l[i]? = some l[i] := by simp
    generalize l[i] = x at hx
    have hap := Apply_c hs x
    have his := appS_is hs x
    have hrw := RWrong_c m x (by omega)
    (repeat (first | refine Spl.t rfl ?_ | refine Spl.f rfl ?_))
    refine IdxP.of (opD x) (by omega) (by simp [hx]) ?_
    refine OpJ.callV hap (fun _ _ => rfl) rfl rfl rfl ?_
    (repeat (first | refine Spl.t rfl ?_ | refine Spl.f rfl ?_))
    refine OpJ.callV (Of5_c x) (fun _ _ => rfl) rfl rfl rfl ?_
    (repeat (first | refine Spl.t rfl ?_ | refine Spl.f rfl ?_))
    refine OpJ.qu (QJ.callB hrw (fun _ _ => rfl) rfl ⟨.arr 1000 6 m.length (m.map opD) rfl (by simp) (by omega), .same _ rfl, trivial⟩ rfl) rfl ?_
    (repeat (first | refine Spl.t rfl ?_ | refine Spl.f rfl ?_))
    refine Spl.f (by simp) ?_
    (repeat (first | refine Spl.t rfl ?_ | refine Spl.f rfl ?_))
    refine Spl.of (fun h2 => ?_) (fun h2 => ?_)
    · have hw : wrongO m x = 0 := of_decide_eq_true h2
      have hat : atO m x = placeL x.i (rowE (m ++ [x])) := by unfold atO; rw [if_pos hw]
      have hal : appL m x = m ++ [x] := by unfold appL; rw [if_pos hw]
      rw [hal] at his
      have hlc := List_c his.dn (by simp; omega)
      have hmm : (m ++ [x]).map opD = m.map opD ++ [opD x] := by rw [List.map_append]; rfl
      have hsc := opD_sc (l := m ++ [x])
      rw [hmm] at hlc hsc
      have hrl := row_len his.dn
      have hil := insL_le (m ++ [x])
      (repeat (first | refine Spl.t rfl ?_ | refine Spl.f rfl ?_))
      refine Req.of ⟨by simp, (show m.length + 1 ≤ 1000000000 by omega)⟩ ?_
      (repeat (first | refine Spl.t rfl ?_ | refine Spl.f rfl ?_))
      refine RegP.of rfl (by decide +kernel) ?_
      refine QuietP.of (QJ.callRead hlc (fun _ _ => rfl) rfl (i := 1000) (k := 6) (n := m.length + 1) (xs := m.map opD ++ [opD x]) rfl (by simp) (by omega) (.row .nil) (fun u => !isBool u) hsc elD_sc elD_bl) ?_
      refine QuietP.of (QJ.call (RPlace_c (rowE (m ++ [x])) x.i (by simp at hil; omega)) (fun _ _ => rfl) rfl rfl) ?_
      refine Spl.f (by rw [hat]; simp) ?_
      (repeat (first | refine Spl.t rfl ?_ | refine Spl.f rfl ?_))
      have hi6 := Is6_c his (by simp; omega)
      rw [hmm] at hi6
      refine OpJ.qu (QJ.callB hi6 (fun _ _ => rfl) rfl ⟨.same _ rfl, .arr 1000 6 (m.length + 1) (m.map opD ++ [opD x]) rfl (by simp) (by omega), trivial⟩ rfl) rfl ?_
      (repeat (first | refine Spl.t rfl ?_ | refine Spl.f rfl ?_))
      exact ⟨(i + 1, appS s m x, m ++ [x]), ⟨by simp only; omega, his, by simp; omega⟩, by simp only; omega, ⟨some_iv (wrap_id _ (by omega) (by omega)), some_arr (by simp; rfl), trivial⟩, (by repeat' (first | exact trivial | exact rfl | refine And.intro ?_ ?_)), ⟨rfl, some_ear hmm.symm, trivial⟩, (by repeat' (first | exact trivial | exact rfl | refine And.intro ?_ ?_))⟩
    · have hw : ¬ wrongO m x = 0 := of_decide_eq_false h2
      have hat : atO m x = -1 := by unfold atO; rw [if_neg hw]
      have hal : appL m x = m := by unfold appL; rw [if_neg hw]
      rw [hal] at his
      have hi6 := Is6_c his (by omega)
      (repeat (first | refine Spl.t rfl ?_ | refine Spl.f rfl ?_))
      refine Spl.f (by rw [hat]; rfl) ?_
      (repeat (first | refine Spl.t rfl ?_ | refine Spl.f rfl ?_))
      refine OpJ.qu (QJ.callB hi6 (fun _ _ => rfl) rfl ⟨.same _ rfl, .arr 1000 6 m.length (m.map opD) rfl (by simp) (by omega), trivial⟩ rfl) rfl ?_
      (repeat (first | refine Spl.t rfl ?_ | refine Spl.f rfl ?_))
      exact ⟨(i + 1, appS s m x, m), ⟨by simp only; omega, his, by simp only; omega⟩, by simp only; omega, ⟨some_iv (wrap_id _ (by omega) (by omega)), rfl, trivial⟩, (by repeat' (first | exact trivial | exact rfl | refine And.intro ?_ ?_)), ⟨rfl, rfl, trivial⟩, (by repeat' (first | exact trivial | exact rfl | refine And.intro ?_ ?_))⟩
  · have hlc := List_c hs.dn (by omega)
    have hrl := row_len hs.dn
    have hil := insL_le m
    have hpg := place_has hs.dn a
    (repeat (first | refine Spl.t rfl ?_ | refine Spl.f rfl ?_))
    (first | refine Sq.go ?_ | refine vL_nil (Sq.go ?_) | skip)
    try refine WJ.cut ?_
    refine OpJ.callV (Find_c hs a) (fun _ _ => rfl) rfl rfl rfl ?_
    (first | refine Sq.go ?_ | refine vL_nil (Sq.go ?_) | skip)
    try refine WJ.cut ?_
    refine RegP.of rfl (by decide +kernel) ?_
    refine QuietP.of (QJ.callRead hlc (fun _ _ => rfl) rfl (i := 1000) (k := 6) (n := m.length) (xs := m.map opD) rfl (by simp) (by omega) (.row .nil) (fun u => !isBool u) opD_sc elD_sc elD_bl) ?_
    refine QuietP.of (QJ.call (Of_c a) (fun _ _ => rfl) rfl rfl) ?_
    refine QuietP.of (QJ.call (RPlace_c (rowE m) a (by omega)) (fun _ _ => rfl) rfl rfl) ?_
    (first | refine Sq.go ?_ | refine vL_nil (Sq.go ?_) | skip)
    try refine WJ.cut ?_
    refine OpJ.callV Awake6_c (fun _ _ => rfl) rfl rfl rfl ?_
    (repeat (first | refine Spl.t rfl ?_ | refine Spl.f rfl ?_))
    refine Spl.t (by simp) ?_
    (repeat (first | refine Spl.t rfl ?_ | refine Spl.f rfl ?_))
    refine Spl.t (by simp) ?_
    (repeat (first | refine Spl.t rfl ?_ | refine Spl.f rfl ?_))
    refine OpJ.callV (Has_c hs a) (fun _ _ => rfl) rfl rfl rfl ?_
    (repeat (first | refine Spl.t rfl ?_ | refine Spl.f rfl ?_))
    (first | refine Sq.go ?_ | refine vL_nil (Sq.go ?_) | skip)
    try refine vc_sound _ _ _ _ ?_
    refine FinP.open rfl (congrArg bv ?_)
    rw [hpg]; simp
theorem opRow (cs : List D) (h : (Ty.st [.int .i64, .st [.int .i64, .int .i64], .st [.int .i64, .int .i64], .int .i32]).ok cs) : ∃ x : OP, cs = opD x ∧ True := by
  obtain ⟨_, _, rfl, ⟨a0, rfl, _⟩, ⟨_, _, rfl, ⟨_, _, rfl, ⟨a1, rfl, _⟩, ⟨_, _, rfl, ⟨a2, rfl, _⟩, rfl⟩⟩, ⟨_, _, rfl, ⟨_, _, rfl, ⟨a3, rfl, _⟩, ⟨_, _, rfl, ⟨a4, rfl, _⟩, rfl⟩⟩, ⟨_, _, rfl, ⟨a5, rfl, _⟩, rfl⟩⟩⟩⟩ := h
  exact ⟨⟨a0, ⟨a1, a2⟩, ⟨a3, a4⟩, a5⟩, rfl, trivial⟩
end Go.Proofs.E
end
section
open Go Go.Gv
attribute [local irreducible] Go.Gv.WJ Go.Gv.OpJ Go.Gv.QJ Go.Gv.Spl Go.Gv.Req Go.Gv.IdxP Go.Gv.RegP Go.Gv.FinP Go.Gv.CellP Go.Gv.CellsP Go.Gv.ArrP Go.Gv.ArrsP Go.Gv.DropP Go.Gv.ByteP Go.Gv.StoreP
set_option maxRecDepth 100000
namespace Go.Proofs.E
attribute [local irreducible] elems
abbrev rmv (R : List OP) : AV := .agg [.d (.sl 6 (R.map opD))]
def dupR (R : List OP) (o : OP) : Bool := R.any fun x => decide (x = o)
def clashR (R : List OP) (o : OP) : Bool := R.any fun x => decide (x.k = 0 ∧ o.k = 0 ∧ x.i = o.i)
def addE (R : List OP) (o : OP) : Int := if checkO o ≠ 0 then checkO o else if dupR R o = true then 4 else if clashR R o = true then 5 else if 16 ≤ R.length then 7 else 0
def addR (R : List OP) (o : OP) : List OP := if addE R o = 0 then R ++ [o] else R
def nextIx (l : List OP) : List OP → Int
  | [] => -1
  | o :: r => if wrongO l o ≠ 6 then 0 else (if nextIx l r < 0 then -1 else nextIx l r + 1)
def OP0 : OP := ⟨0, ⟨0, 0⟩, ⟨0, 0⟩, 0⟩
def nextR (l R : List OP) : List OP := if nextIx l R < 0 then R else R.take (nextIx l R).toNat ++ R.drop ((nextIx l R).toNat + 1)
def nextO (l R : List OP) : OP := if nextIx l R < 0 then OP0 else R.getD (nextIx l R).toNat OP0
def topR (R : List OP) : Int := R.foldl (fun n o => if o.i.c > n then o.i.c else n) 0
theorem RLen_c (R : List OP) : Cv 57 [rmv R] (iv R.length) := by
  refine Ct.of_vc Tryd.f57 Tryd.func57 rfl rfl fun w H B g0 => ?_
  refine FinP.open rfl (congrArg iv ?_)
  rw [List.length_map]
theorem Clone5_c (R : List OP) (hR : R.length ≤ 1000000) : Cv 60 [.d (.sl 6 (R.map opD))] (.d (.sl 6 (R.map opD))) := by
  refine Ct.of_vc Tryd.f60 Tryd.func60 rfl rfl fun w H B g0 => ?_
  refine O.eqNil rfl rfl rfl rfl fun b hb => ?_
  cases b with
  | true =>
    have h0 := hb rfl
    (repeat (first | refine Spl.t rfl ?_ | refine Spl.f rfl ?_))
    rw [h0]
    exact FinP.view (fun _ _ _ h => nil_sl 6 h) (FinP.open rfl rfl)
  | false =>
    (repeat (first | refine Spl.t rfl ?_ | refine Spl.f rfl ?_))
    refine OpJ.qu (QJ.appG rfl (.full _ _) (FlatQ.data rfl rfl) rfl (by show 0 + _ ≤ _; rw [List.length_map]; omega)) rfl ?_
    exact FinP.open rfl rfl
theorem RAll_c (R : List OP) (hR : R.length ≤ 1000000) : Cv 32 [rmv R] (.d (.sl 6 (R.map opD))) := by
  refine Ct.of_vc Tryd.f32 Tryd.func32 rfl rfl fun w H B g0 => ?_
  refine OpJ.callV (Clone5_c R hR) (fun _ _ => rfl) rfl rfl rfl ?_
  exact FinP.open rfl rfl
/-- .. as a row of one's own, if there is anything. -/
theorem CloneP_c (R : List OP) (hR : R.length ≤ 1000000) (h0 : 0 < R.length) : Ct tab Tryd.prog 60 [.d (.sl 6 (R.map opD))] [] (fun q σ' => q = .arr 7 6 R.length ∧ σ' = [(7, .arr 6 (R.map opD))]) := by
  refine Ct.of_vc Tryd.f60 Tryd.func60 rfl rfl fun w H B g0 => ?_
  refine O.eqNil rfl rfl rfl rfl fun b hb => ?_
  cases b with
  | true =>
    have h1 := congrArg List.length (hb rfl)
    rw [List.length_map] at h1; rw [h1] at h0; exact absurd h0 (by decide)
  | false =>
    (repeat (first | refine Spl.t rfl ?_ | refine Spl.f rfl ?_))
    refine O.appF rfl rfl (.full _ _) rfl rfl rfl rfl (by show 0 + _ ≤ _; rw [List.length_map]; omega) (.inr rfl) ?_
    (repeat (first | refine Spl.t rfl ?_ | refine Spl.f rfl ?_))
    refine FinP.priv [(7, .arr 6 (R.map opD))] (Wk.cons rfl (Wk.nil _)) rfl ⟨?_, rfl⟩
    show AV.arr 7 6 (0 + _) = _
    rw [List.length_map, Nat.zero_add]
theorem RAllP_c (R : List OP) (hR : R.length ≤ 1000000) (h0 : 0 < R.length) : Ct tab Tryd.prog 32 [rmv R] [] (fun q σ' => q = .arr 7 6 R.length ∧ σ' = [(7, .arr 6 (R.map opD))]) := by
  refine Ct.of_vc Tryd.f32 Tryd.func32 rfl rfl fun w H B g0 => ?_
  refine OpJ.call (CloneP_c R hR h0) (fun _ _ => rfl) rfl rfl (Wk.nil _) ?_
  rintro q σ' ⟨rfl, rfl⟩
  refine ⟨rfl, ?_⟩
  exact FinP.priv [(7, .arr 6 (R.map opD))] (Wk.cons rfl (Wk.nil _)) rfl ⟨rfl, rfl⟩
theorem top_snoc (R : List OP) (o : OP) : topR (R ++ [o]) = if o.i.c > topR R then o.i.c else topR R := by unfold topR; rw [List.foldl_append]; rfl
theorem Top_c (R : List OP) (hR : R.length ≤ 1000000) : Cv 58 [rmv R] (iv (topR R)) := by
  refine Ct.of_vc Tryd.f58 Tryd.func58 rfl rfl fun w H B g0 => ?_
  refine WJ.loopK (V := Nat) (fun i => [(9, iv i), (3, iv (topR (R.take i)))]) (fun _ => []) [] (fun i => R.length - i) (fun i => i ≤ R.length) 0 (by omega) (by repeat' (first | exact trivial | exact rfl | refine And.intro ?_ ?_)) (by repeat' (first | exact trivial | exact rfl | refine And.intro ?_ ?_)) ?_
  intro i hi
  refine Spl.of (fun h1 => ?_) (fun h1 => ?_)
  · have hlt : i < R.length := by have := of_decide_eq_true h1; simp at this; omega
    have hx : R[i]? = some R[i] := by simp
    have hsn := take_snoc hx
    have htp := top_snoc (R.take i) R[i]
    rw [← hsn] at htp
    (repeat (first | refine Spl.t rfl ?_ | refine Spl.f rfl ?_))
    refine IdxP.of (opD R[i]) (by omega) (by simp [hx]) ?_
    exact ⟨i + 1, by omega, by omega, ⟨some_iv (wrap_id _ (by omega) (by omega)), some_iv htp.symm, trivial⟩, (by repeat' (first | exact trivial | exact rfl | refine And.intro ?_ ?_)), (by repeat' (first | exact trivial | exact rfl | refine And.intro ?_ ?_)), (by repeat' (first | exact trivial | exact rfl | refine And.intro ?_ ?_))⟩
  · have h1 := of_decide_eq_false h1
    simp at h1
    (repeat (first | refine Spl.t rfl ?_ | refine Spl.f rfl ?_))
    exact FinP.open rfl (congrArg iv (by rw [List.take_of_length_le (by omega)]))
theorem RTop_c (R : List OP) (hR : R.length ≤ 1000000) : Cv 59 [.d (.sl 6 (R.map opD))] (iv (topR R)) := by
  refine Ct.of_vc Tryd.f59 Tryd.func59 rfl rfl fun w H B g0 => ?_
  refine WJ.loopK (V := Nat) (fun i => [(4, iv i), (3, iv (topR (R.take i)))]) (fun _ => []) [] (fun i => R.length - i) (fun i => i ≤ R.length) 0 (by omega) (by repeat' (first | exact trivial | exact rfl | refine And.intro ?_ ?_)) (by repeat' (first | exact trivial | exact rfl | refine And.intro ?_ ?_)) ?_
  intro i hi
  refine Spl.of (fun h1 => ?_) (fun h1 => ?_)
  · have hlt : i < R.length := by have := of_decide_eq_true h1; simp at this; omega
    have hx : R[i]? = some R[i] := by simp
    have hsn := take_snoc hx
    have htp := top_snoc (R.take i) R[i]
    rw [← hsn] at htp
    (repeat (first | refine Spl.t rfl ?_ | refine Spl.f rfl ?_))
    refine IdxP.of (opD R[i]) (by omega) (by simp [hx]) ?_
    refine Spl.of (fun h2 => ?_) (fun h2 => ?_)
    · have h2 := of_decide_eq_true h2
      rw [if_pos h2] at htp
      (repeat (first | refine Spl.t rfl ?_ | refine Spl.f rfl ?_))
      refine IdxP.of (opD R[i]) (by omega) (by simp [hx]) ?_
      exact ⟨i + 1, by omega, by omega, ⟨some_iv (wrap_id _ (by omega) (by omega)), some_iv htp.symm, trivial⟩, (by repeat' (first | exact trivial | exact rfl | refine And.intro ?_ ?_)), (by repeat' (first | exact trivial | exact rfl | refine And.intro ?_ ?_)), (by repeat' (first | exact trivial | exact rfl | refine And.intro ?_ ?_))⟩
    · have h2 := of_decide_eq_false h2
      rw [if_neg h2] at htp
      (repeat (first | refine Spl.t rfl ?_ | refine Spl.f rfl ?_))
      exact ⟨i + 1, by omega, by omega, ⟨some_iv (wrap_id _ (by omega) (by omega)), some_iv htp.symm, trivial⟩, (by repeat' (first | exact trivial | exact rfl | refine And.intro ?_ ?_)), (by repeat' (first | exact trivial | exact rfl | refine And.intro ?_ ?_)), (by repeat' (first | exact trivial | exact rfl | refine And.intro ?_ ?_))⟩
  · have h1 := of_decide_eq_false h1
    simp at h1
    (repeat (first | refine Spl.t rfl ?_ | refine Spl.f rfl ?_))
    exact FinP.open rfl (congrArg iv (by rw [List.take_of_length_le (by omega)]))
theorem dup_snoc (R : List OP) (x o : OP) : dupR (R ++ [x]) o = (dupR R o || decide (x = o)) := by unfold dupR; rw [List.any_append]; simp
theorem clash_snoc (R : List OP) (x o : OP) : clashR (R ++ [x]) o = (clashR R o || decide (x.k = 0 ∧ o.k = 0 ∧ x.i = o.i)) := by unfold clashR; rw [List.any_append]; simp
theorem dup_take {R : List OP} {o : OP} {i : Nat} (h : dupR (R.take i) o = true) : dupR R o = true := by
  unfold dupR at h ⊢
  obtain ⟨x, hx, hd⟩ := List.any_eq_true.1 h
  exact List.any_eq_true.2 ⟨x, List.mem_of_mem_take hx, hd⟩
theorem clash_take {R : List OP} {o : OP} {i : Nat} (h : clashR (R.take i) o = true) : clashR R o = true := by
  unfold clashR at h ⊢
  obtain ⟨x, hx, hd⟩ := List.any_eq_true.1 h
  exact List.any_eq_true.2 ⟨x, List.mem_of_mem_take hx, hd⟩
theorem dup_at {R : List OP} {o : OP} {i : Nat} (h : R[i]? = some o) : dupR R o = true := List.any_eq_true.2 ⟨o, List.mem_of_getElem? h, by simp⟩
theorem take_all6 (R : List OP) (o : OP) : List.drop (Int.toNat 0) (List.take ((R.map opD).length : Int).toNat (R.map opD)) ++ [opD o] = (R ++ [o]).map opD := by
  rw [Int.toNat_natCast, List.take_length, List.map_append]; rfl
theorem Add_c (R : List OP) (o : OP) (hR : R.length ≤ 1000000) : Cv 29 [rmv R, opv o] (.tup [rmv (addR R o), iv (addE R o)]) := by
  refine Ct.of_wv Tryd.f29 Tryd.func29 rfl rfl fun w H B g0 => ?_
  try refine WJ.cut ?_
  (first | refine Sq.go ?_ | refine vL_nil (Sq.go ?_) | skip)
  try refine WJ.cut ?_
  refine OpJ.callV (Check5_c o) (fun _ _ => rfl) rfl rfl rfl ?_
  (first | refine Sq.go ?_ | refine vL_nil (Sq.go ?_) | skip)
  try refine WJ.cut ?_
  refine Spl.of (fun h1 => ?_) (fun h1 => ?_)
  · have h1 : checkO o ≠ 0 := by simpa using h1
    have hE : addE R o = checkO o := by unfold addE; rw [if_pos h1]
    (repeat (first | refine Spl.t rfl ?_ | refine Spl.f rfl ?_))
    refine .out (by simp) ?_
    refine FinP.open rfl ?_
    unfold addR
    rw [hE, if_neg h1]; rfl
  have h1 : checkO o = 0 := by simpa using h1
  have hE : addE R o = if dupR R o = true then 4 else if clashR R o = true then 5 else if 16 ≤ R.length then 7 else 0 := by unfold addE; rw [if_neg (fun e => e h1)]
  (first | refine Sq.go ?_ | refine vL_nil (Sq.go ?_) | skip)
  try refine WJ.cut ?_
  (first | refine Sq.go ?_ | refine vL_nil (Sq.go ?_) | skip)
  try refine WJ.cut ?_
  refine WJ.loopK (V := Nat) (fun i => [(20, iv i), (7, bv (clashR (R.take i) o))]) (fun _ => []) [] (fun i => R.length - i) (fun i => i ≤ R.length ∧ dupR (R.take i) o = false) 0 ⟨by omega, rfl⟩ (by repeat' (first | exact trivial | exact rfl | refine And.intro ?_ ?_)) (by repeat' (first | exact trivial | exact rfl | refine And.intro ?_ ?_)) ?_
  rintro i ⟨hi, hdup⟩
  refine Spl.of (fun h2 => ?_) (fun h2 => ?_)
  · have hlt : i < R.length := by have := of_decide_eq_true h2; simp at this; omega
    have hx : R[i]? = some R[i] := by simp
    have hsn := take_snoc hx
    have hds := dup_snoc (R.take i) R[i] o
    have hcs := clash_snoc (R.take i) R[i] o
    rw [← hsn] at hds hcs
    generalize R[i] = x at hx hds hcs
    (repeat (first | refine Spl.t rfl ?_ | refine Spl.f rfl ?_))
    refine IdxP.of (opD x) (by omega) (by simp [hx]) ?_
    (repeat (first | refine Spl.t rfl ?_ | refine Spl.f rfl ?_))
    refine OpJ.qu (O.eqT 4 rfl rfl rfl rfl rfl eqO_ok eqO_g (eqO x o)) rfl ?_
    refine Spl.of (fun h3 => ?_) (fun h3 => ?_)
    · have h3 : x = o := of_decide_eq_true h3
      rw [h3] at hx
      have hd := dup_at hx
      rw [if_pos hd] at hE
      (repeat (first | refine Spl.t rfl ?_ | refine Spl.f rfl ?_))
      refine .out (by simp) ?_
      refine FinP.open rfl ?_
      unfold addR
      rw [hE]; rfl
    · have h3 : ¬ x = o := of_decide_eq_false h3
      rw [hdup, decide_eq_false h3] at hds
      refine Spl.of (fun h4 => ?_) (fun h4 => ?_)
      · rw [h4, Bool.true_or] at hcs
        (repeat (first | refine Spl.t rfl ?_ | refine Spl.f rfl ?_))
        exact ⟨i + 1, ⟨by omega, hds⟩, by omega, ⟨some_iv (wrap_id _ (by omega) (by omega)), some_bv hcs.symm, trivial⟩, (by repeat' (first | exact trivial | exact rfl | refine And.intro ?_ ?_)), (by repeat' (first | exact trivial | exact rfl | refine And.intro ?_ ?_)), (by repeat' (first | exact trivial | exact rfl | refine And.intro ?_ ?_))⟩
      · rw [h4, Bool.false_or] at hcs
        (repeat (first | refine Spl.t rfl ?_ | refine Spl.f rfl ?_))
        refine Spl.of (fun h5 => ?_) (fun h5 => ?_)
        · have h5 : x.k = 0 := of_decide_eq_true h5
          (repeat (first | refine Spl.t rfl ?_ | refine Spl.f rfl ?_))
          refine Spl.of (fun h6 => ?_) (fun h6 => ?_)
          · have h6 : o.k = 0 := of_decide_eq_true h6
            have e : decide (x.k = 0 ∧ o.k = 0 ∧ x.i = o.i) = decide (x.i = o.i) := decide_eq_decide.2 ⟨fun h => h.2.2, fun h => ⟨h5, h6, h⟩⟩
            rw [e] at hcs
            (repeat (first | refine Spl.t rfl ?_ | refine Spl.f rfl ?_))
            refine OpJ.qu (O.eqT 3 rfl rfl rfl rfl rfl eqI_ok eqI_g (eqI x.i o.i)) rfl ?_
            (repeat (first | refine Spl.t rfl ?_ | refine Spl.f rfl ?_))
            exact ⟨i + 1, ⟨by omega, hds⟩, by omega, ⟨some_iv (wrap_id _ (by omega) (by omega)), some_bv hcs.symm, trivial⟩, (by repeat' (first | exact trivial | exact rfl | refine And.intro ?_ ?_)), (by repeat' (first | exact trivial | exact rfl | refine And.intro ?_ ?_)), (by repeat' (first | exact trivial | exact rfl | refine And.intro ?_ ?_))⟩
          · have h6 : ¬ o.k = 0 := of_decide_eq_false h6
            rw [decide_eq_false (fun h => h6 h.2.1)] at hcs
            (repeat (first | refine Spl.t rfl ?_ | refine Spl.f rfl ?_))
            exact ⟨i + 1, ⟨by omega, hds⟩, by omega, ⟨some_iv (wrap_id _ (by omega) (by omega)), some_bv hcs.symm, trivial⟩, (by repeat' (first | exact trivial | exact rfl | refine And.intro ?_ ?_)), (by repeat' (first | exact trivial | exact rfl | refine And.intro ?_ ?_)), (by repeat' (first | exact trivial | exact rfl | refine And.intro ?_ ?_))⟩
        · have h5 : ¬ x.k = 0 := of_decide_eq_false h5
          rw [decide_eq_false (fun h => h5 h.1)] at hcs
          (repeat (first | refine Spl.t rfl ?_ | refine Spl.f rfl ?_))
          exact ⟨i + 1, ⟨by omega, hds⟩, by omega, ⟨some_iv (wrap_id _ (by omega) (by omega)), some_bv hcs.symm, trivial⟩, (by repeat' (first | exact trivial | exact rfl | refine And.intro ?_ ?_)), (by repeat' (first | exact trivial | exact rfl | refine And.intro ?_ ?_)), (by repeat' (first | exact trivial | exact rfl | refine And.intro ?_ ?_))⟩
  · have h2 := of_decide_eq_false h2
    simp at h2
    have hall : R.take i = R := List.take_of_length_le (by omega)
    rw [hall] at hdup ⊢
    rw [hdup, if_neg (by decide)] at hE
    (repeat (first | refine Spl.t rfl ?_ | refine Spl.f rfl ?_))
    (first | refine Sq.go ?_ | refine vL_nil (Sq.go ?_) | skip)
    try refine WJ.cut ?_
    (first | refine Sq.go ?_ | refine vL_nil (Sq.go ?_) | skip)
    try refine WJ.cut ?_
    refine Spl.of (fun h3 => ?_) (fun h3 => ?_)
    · rw [h3, if_pos rfl] at hE
      (repeat (first | refine Spl.t rfl ?_ | refine Spl.f rfl ?_))
      refine .out (by simp) ?_
      refine FinP.open rfl ?_
      unfold addR
      rw [hE]; rfl
    · rw [h3, if_neg (by decide)] at hE
      (repeat (first | refine Spl.t rfl ?_ | refine Spl.f rfl ?_))
      refine Spl.of (fun h4 => ?_) (fun h4 => ?_)
      · have h4 := of_decide_eq_true h4
        simp at h4
        rw [if_pos (by omega)] at hE
        (repeat (first | refine Spl.t rfl ?_ | refine Spl.f rfl ?_))
        refine .out (by simp) ?_
        refine FinP.open rfl ?_
        unfold addR
        rw [hE]; rfl
      · have h4 := of_decide_eq_false h4
        simp at h4
        rw [if_neg (by omega)] at hE
        (repeat (first | refine Spl.t rfl ?_ | refine Spl.f rfl ?_))
        (first | refine Sq.go ?_ | refine vL_nil (Sq.go ?_) | skip)
        try refine vc_sound _ _ _ _ ?_
        refine RegP.mix 9 rfl (by decide +kernel) ?_
        refine Req.of ⟨by omega, by omega, by omega, rfl⟩ ?_
        refine QuietP.of (QJ.appG rfl (.full _ _) (FlatQ.data rfl rfl) rfl (by show _ + 1 ≤ _; rw [List.length_drop, List.length_take, List.length_map]; omega)) ?_
        (repeat' (first | exact trivial | refine And.intro ?_ ?_))
        refine FinP.open rfl ?_
        unfold addR
        rw [hE, if_pos rfl, rmv, ← take_all6 R]; rfl
theorem RAdd_c (R : List OP) (o : OP) (hR : R.length ≤ 1000000) : Cv 30 [.d (.sl 6 (R.map opD)), opv o] (.tup [.d (.sl 6 ((addR R o).map opD)), iv (addE R o)]) := by
  refine Ct.of_wv Tryd.f30 Tryd.func30 rfl rfl fun w H B g0 => ?_
  try refine WJ.cut ?_
  (first | refine Sq.go ?_ | refine vL_nil (Sq.go ?_) | skip)
  try refine WJ.cut ?_
  refine OpJ.callV (RCheck5_c o) (fun _ _ => rfl) rfl rfl rfl ?_
  (first | refine Sq.go ?_ | refine vL_nil (Sq.go ?_) | skip)
  try refine WJ.cut ?_
  refine Spl.of (fun h1 => ?_) (fun h1 => ?_)
  · have h1 : checkO o ≠ 0 := by simpa using h1
    have hE : addE R o = checkO o := by unfold addE; rw [if_pos h1]
    (repeat (first | refine Spl.t rfl ?_ | refine Spl.f rfl ?_))
    refine .out (by simp) ?_
    refine FinP.open rfl ?_
    unfold addR
    rw [hE, if_neg h1]; rfl
  have h1 : checkO o = 0 := by simpa using h1
  have hE : addE R o = if dupR R o = true then 4 else if clashR R o = true then 5 else if 16 ≤ R.length then 7 else 0 := by unfold addE; rw [if_neg (fun e => e h1)]
  (first | refine Sq.go ?_ | refine vL_nil (Sq.go ?_) | skip)
  try refine WJ.cut ?_
  refine WJ.loopK (V := Nat) (fun i => [(7, iv i)]) (fun _ => []) [] (fun i => R.length - i) (fun i => i ≤ R.length ∧ dupR (R.take i) o = false) 0 ⟨by omega, rfl⟩ (by repeat' (first | exact trivial | exact rfl | refine And.intro ?_ ?_)) (by repeat' (first | exact trivial | exact rfl | refine And.intro ?_ ?_)) ?_
  rintro i ⟨hi, hdup⟩
  refine Spl.of (fun h2 => ?_) (fun h2 => ?_)
  · have hlt : i < R.length := by have := of_decide_eq_true h2; simp at this; omega
    have hx : R[i]? = some R[i] := by simp
    have hsn := take_snoc hx
    have hds := dup_snoc (R.take i) R[i] o
    rw [← hsn] at hds
    generalize R[i] = x at hx hds
    (repeat (first | refine Spl.t rfl ?_ | refine Spl.f rfl ?_))
    refine RegP.of rfl (by decide +kernel) ?_
    refine IdxP.of (opD x) (by omega) (by simp [hx]) ?_
    refine QuietP.of (O.eqT 4 rfl rfl rfl rfl rfl eqRO_ok eqRO_g (eqRO x o)) ?_
    refine Spl.of (fun h3 => ?_) (fun h3 => ?_)
    · have h3 : x = o := of_decide_eq_true h3
      rw [h3] at hx
      have hd := dup_at hx
      rw [if_pos hd] at hE
      (repeat (first | refine Spl.t rfl ?_ | refine Spl.f rfl ?_))
      refine .out (by simp) ?_
      refine FinP.open rfl ?_
      unfold addR
      rw [hE]; rfl
    · have h3 : ¬ x = o := of_decide_eq_false h3
      rw [hdup, decide_eq_false h3] at hds
      (repeat (first | refine Spl.t rfl ?_ | refine Spl.f rfl ?_))
      exact ⟨i + 1, ⟨by omega, hds⟩, by omega, ⟨some_iv (wrap_id _ (by omega) (by omega)), trivial⟩, (by repeat' (first | exact trivial | exact rfl | refine And.intro ?_ ?_)), (by repeat' (first | exact trivial | exact rfl | refine And.intro ?_ ?_)), (by repeat' (first | exact trivial | exact rfl | refine And.intro ?_ ?_))⟩
  have h2 := of_decide_eq_false h2
  simp at h2
  have hall : R.take i = R := List.take_of_length_le (by omega)
  rw [hall] at hdup
  rw [hdup, if_neg (by decide)] at hE
  clear hi
  (repeat (first | refine Spl.t rfl ?_ | refine Spl.f rfl ?_))
  (first | refine Sq.go ?_ | refine vL_nil (Sq.go ?_) | skip)
  try refine WJ.cut ?_
  refine WJ.loopK (V := Nat) (fun i => [(8, iv i)]) (fun _ => []) [] (fun i => R.length - i) (fun i => i ≤ R.length ∧ clashR (R.take i) o = false) 0 ⟨by omega, rfl⟩ (by repeat' (first | exact trivial | exact rfl | refine And.intro ?_ ?_)) (by repeat' (first | exact trivial | exact rfl | refine And.intro ?_ ?_)) ?_
  rintro j ⟨hj, hcl⟩
  refine Spl.of (fun h3 => ?_) (fun h3 => ?_)
  · have hlt : j < R.length := by have := of_decide_eq_true h3; simp at this; omega
    have hx : R[j]? = some R[j] := by simp
    have hsn := take_snoc hx
    have hcs := clash_snoc (R.take j) R[j] o
    rw [← hsn, hcl, Bool.false_or] at hcs
    generalize R[j] = x at hx hcs
    have no : decide (x.k = 0 ∧ o.k = 0 ∧ x.i = o.i) = false → clashR (R.take (j + 1)) o = false := fun e => hcs.trans e
    (repeat (first | refine Spl.t rfl ?_ | refine Spl.f rfl ?_))
    refine RegP.of rfl (by decide +kernel) ?_
    refine IdxP.of (opD x) (by omega) (by simp [hx]) ?_
    refine Spl.of (fun h5 => ?_) (fun h5 => ?_)
    · have h5 : x.k = 0 := of_decide_eq_true h5
      (repeat (first | refine Spl.t rfl ?_ | refine Spl.f rfl ?_))
      refine Spl.of (fun h6 => ?_) (fun h6 => ?_)
      · have h6 : o.k = 0 := of_decide_eq_true h6
        have e : decide (x.k = 0 ∧ o.k = 0 ∧ x.i = o.i) = decide (x.i = o.i) := decide_eq_decide.2 ⟨fun h => h.2.2, fun h => ⟨h5, h6, h⟩⟩
        rw [e] at hcs no
        (repeat (first | refine Spl.t rfl ?_ | refine Spl.f rfl ?_))
        refine IdxP.of (opD x) (by omega) (by simp [hx]) ?_
        (repeat (first | refine Spl.t rfl ?_ | refine Spl.f rfl ?_))
        refine QuietP.of (O.eqT 3 rfl rfl rfl rfl rfl eqR_ok eqR_g (eqR x.i o.i)) ?_
        (repeat (first | refine Spl.t rfl ?_ | refine Spl.f rfl ?_))
        refine Spl.of (fun h7 => ?_) (fun h7 => ?_)
        · have hc : clashR R o = true := clash_take (hcs.trans h7)
          rw [if_pos hc] at hE
          (repeat (first | refine Spl.t rfl ?_ | refine Spl.f rfl ?_))
          refine .out (by simp) ?_
          refine FinP.open rfl ?_
          unfold addR
          rw [hE]; rfl
        · have hn := no h7
          (repeat (first | refine Spl.t rfl ?_ | refine Spl.f rfl ?_))
          exact ⟨j + 1, ⟨by omega, hn⟩, by omega, ⟨some_iv (wrap_id _ (by omega) (by omega)), trivial⟩, (by repeat' (first | exact trivial | exact rfl | refine And.intro ?_ ?_)), (by repeat' (first | exact trivial | exact rfl | refine And.intro ?_ ?_)), (by repeat' (first | exact trivial | exact rfl | refine And.intro ?_ ?_))⟩
      · have h6 : ¬ o.k = 0 := of_decide_eq_false h6
        have hn := no (decide_eq_false (fun h => h6 h.2.1))
        (repeat (first | refine Spl.t rfl ?_ | refine Spl.f rfl ?_))
        exact ⟨j + 1, ⟨by omega, hn⟩, by omega, ⟨some_iv (wrap_id _ (by omega) (by omega)), trivial⟩, (by repeat' (first | exact trivial | exact rfl | refine And.intro ?_ ?_)), (by repeat' (first | exact trivial | exact rfl | refine And.intro ?_ ?_)), (by repeat' (first | exact trivial | exact rfl | refine And.intro ?_ ?_))⟩
    · have h5 : ¬ x.k = 0 := of_decide_eq_false h5
      have hn := no (decide_eq_false (fun h => h5 h.1))
      (repeat (first | refine Spl.t rfl ?_ | refine Spl.f rfl ?_))
      exact ⟨j + 1, ⟨by omega, hn⟩, by omega, ⟨some_iv (wrap_id _ (by omega) (by omega)), trivial⟩, (by repeat' (first | exact trivial | exact rfl | refine And.intro ?_ ?_)), (by repeat' (first | exact trivial | exact rfl | refine And.intro ?_ ?_)), (by repeat' (first | exact trivial | exact rfl | refine And.intro ?_ ?_))⟩
  have h3 := of_decide_eq_false h3
  simp at h3
  have hall2 : R.take j = R := List.take_of_length_le (by omega)
  rw [hall2] at hcl
  rw [hcl, if_neg (by decide)] at hE
  (repeat (first | refine Spl.t rfl ?_ | refine Spl.f rfl ?_))
  (first | refine Sq.go ?_ | refine vL_nil (Sq.go ?_) | skip)
  try refine WJ.cut ?_
  refine Spl.of (fun h4 => ?_) (fun h4 => ?_)
  · have h4 := of_decide_eq_true h4
    simp at h4
    rw [if_pos (by omega)] at hE
    (repeat (first | refine Spl.t rfl ?_ | refine Spl.f rfl ?_))
    refine .out (by simp) ?_
    refine FinP.open rfl ?_
    unfold addR
    rw [hE]; rfl
  · have h4 := of_decide_eq_false h4
    simp at h4
    rw [if_neg (by omega)] at hE
    (repeat (first | refine Spl.t rfl ?_ | refine Spl.f rfl ?_))
    (first | refine Sq.go ?_ | refine vL_nil (Sq.go ?_) | skip)
    try refine vc_sound _ _ _ _ ?_
    refine RegP.mix 5 rfl (by decide +kernel) ?_
    refine QuietP.born (Go.Gv.B.appF (i := 62) rfl (.full _ _) (FlatQ.data rfl rfl) rfl (by show 0 + _ ≤ _; rw [List.length_map]; omega) (.inr rfl)) ?_
    (repeat' (first | exact trivial | refine And.intro ?_ ?_))
    refine Req.of ⟨by rw [List.length_append], by rw [List.length_map]; show 0 + _ + 1 ≤ _; omega⟩ ?_
    (repeat' (first | exact trivial | refine And.intro ?_ ?_))
    refine FinP.pubTup 62 0 rfl rfl (by rw [List.length_append]; exact Nat.add_le_add_right (by rw [List.length_append]; exact Nat.le_refl _) _) (by rw [List.length_map]; show 0 + _ + 1 ≤ _; omega) (FinP.open rfl ?_)
    unfold addR
    rw [hE, if_pos rfl, List.take_of_length_le (by rw [List.length_append, List.length_append]; exact Nat.le_refl _)]
    show AV.tup [.d (.sl 6 ([] ++ R.map opD ++ [opD o])), _] = _
    rw [List.nil_append, List.map_append]; rfl
end Go.Proofs.E
end
section
namespace Go.Gv
open Go.RowKit
structure CalmC (all : Array Oper) (m1 : Nat) : Prop where
  back : ∀ j o, all[j]? = some o → ∀ e, e ∈ o.after → Region.binds .any e = true → e.on < j
  tail : ∀ j o, all[j]? = some o → m1 < j → ∀ i, i < m1 → Anc all j i
  names : ∀ j o, j ≤ m1 → all[j]? = some o → ∀ i p, i < j → all[i]? = some p → edge o i = true ∨ ((∀ x, p.dst = some x → namesT all o x = false) ∧ ∀ x, o.dst = some x → namesT all p x = false)
theorem calm_anyC {X : Cx} {all : Array Oper} {m m1 : Nat} {t0 : T} {σ : Sg} {V : Nat → AV} {E : Nat → Option (Nat × Ent)} {Q' : Exit → Act → World → Prop} (hmm : m = m1 + 1) (hc : CalmC all m1) (hm : m ≤ all.size) (hE1 : E m1 = none)
    (hendB : ∀ γ H a w listed, St X γ H (states all V t0 m1) (bornAt E (fun _ => true) σ m1) a w → listed.size = all.size → (∀ j, j < all.size → listed.getD j false = decide (j < m1)) → wpAnyIn (Fr X.ro) 0 X.P .any all Q' (all.size - m1) listed a w)
    (hstep : ∀ i o, i < m → all[i]? = some o → BStep X all o (states all V t0 i) σ (V i) (E i) ∧ dOk o.dst X.N = true)
    (hfr : ∀ i id e, E i = some (id, e) → isFresh id t0 σ X.pin = true ∧ (∀ j x, j < m → j ≠ i → dstAt all j = some x → has2 id (V j) = false) ∧ ∀ j id' e', j ≠ i → E j = some (id', e') → id' ≠ id ∧ entHas id e' = false)
    (hend : ∀ γ H a w listed, St X γ H (states all V t0 m) (bornAt E (fun _ => true) σ m) a w → listed.size = all.size → (∀ j, j < all.size → listed.getD j false = decide (j < m)) → wpAnyIn (Fr X.ro) 0 X.P .any all Q' (all.size - m) listed a w) :
    ∀ (fuel : Nat) (listed : Array Bool) (γ : Ids) (H : HF) (a : Act) (w : World), listed.size = all.size →
      (∀ j, m ≤ j → listed.getD j false = false) → (∀ i o, listed.getD i false = true → all[i]? = some o → ∀ e, e ∈ o.after → Region.binds .any e = true → listed.getD e.on false = true) →
      ((List.range m).filter fun j => !listed.getD j false).length + (all.size - m) = fuel →
      TabOk γ H (tabAt all V t0 (fun j => listed.getD j false) m) a.tmps → St X γ H [] (bornAt E (fun j => listed.getD j false) σ m) a w →
      wpAnyIn (Fr X.ro) 0 X.P .any all Q' fuel listed a w := by
  intro fuel
  induction fuel with
  | zero =>
    intro listed γ H a w hs htail hclosed hcount htab sst
    have hall : ∀ j, j < m → listed.getD j false = true := fun j hj => by
      have h0 : ((List.range m).filter fun j => !listed.getD j false) = [] := List.length_eq_zero_iff.1 (by omega)
      have := List.filter_eq_nil_iff.1 h0 j (List.mem_range.2 hj)
      simpa using this
    have hmn : m = all.size := by omega
    have hst : St X γ H (states all V t0 m) (bornAt E (fun _ => true) σ m) a w := St.withT (by have h9 := sst; rw [bornAt_congr (S' := fun _ => true) m (fun j hj _ => hall j hj)] at h9; exact h9) (fun i b hi => htab i b (by
      rw [look_states] at hi
      rw [← hi]
      simp only [tabAt]
      rw [lastW_congr m (fun j hj _ => hall j hj)]))
    have := hend γ H a w listed hst hs (fun j hj => by rw [hall j (by omega)]; simp; omega)
    rw [show all.size - m = 0 from by omega] at this; exact this
  | succ fuel ih =>
    intro listed γ H a w hs htail hclosed hcount htab sst
    by_cases hall : ∀ j, j < m → listed.getD j false = true
    · -- the calm part is over
      have hst : St X γ H (states all V t0 m) (bornAt E (fun _ => true) σ m) a w := St.withT (by have h9 := sst; rw [bornAt_congr (S' := fun _ => true) m (fun j hj _ => hall j hj)] at h9; exact h9) (fun i b hi => htab i b (by
        rw [look_states] at hi
        rw [← hi]
        simp only [tabAt]
        rw [lastW_congr m (fun j hj _ => hall j hj)]))
      have h0 : ((List.range m).filter fun j => !listed.getD j false) = [] := List.filter_eq_nil_iff.2 fun j hj => by simp only [hall j (List.mem_range.1 hj)]; simp
      rw [h0] at hcount
      simp only [List.length_nil, Nat.zero_add] at hcount
      have := hend γ H a w listed hst hs (fun j hj => by
        by_cases hj' : j < m
        · rw [hall j hj']; simp [hj']
        · rw [htail j (by omega)]; simp; omega)
      rw [hcount] at this
      exact this
    · rcases Classical.em (∀ j, j < m1 → listed.getD j false = true) with hall1 | hall1
      · have hl1 : listed.getD m1 false = false := by
          cases hx : listed.getD m1 false with
          | false => rfl
          | true =>
            refine absurd (fun j hj => ?_) hall
            by_cases e : j = m1
            · rw [e]; exact hx
            · exact hall1 j (by omega)
        have hlb : bornAt E (fun j => listed.getD j false) σ m = bornAt E (fun _ => true) σ m1 := by
          rw [hmm]; simp only [bornAt, hE1]; exact bornAt_congr m1 (fun j hj _ => hall1 j hj)
        have hst : St X γ H (states all V t0 m1) (bornAt E (fun _ => true) σ m1) a w := St.withT (by have h9 := sst; rw [hlb] at h9; exact h9) (fun i b hi => htab i b (by
          rw [look_states] at hi
          rw [← hi]
          simp only [tabAt]
          have : lastW all (fun j => listed.getD j false) i m = lastW all (fun _ => true) i m1 := by
            rw [hmm]; simp only [lastW, hl1, Bool.false_eq_true, false_and, if_false]; exact lastW_congr m1 (fun j hj _ => hall1 j hj)
          rw [this]))
        have h0 : ((List.range m).filter fun j => !listed.getD j false) = [m1] := by
          have e1 : (List.range m1).filter (fun j => !listed.getD j false) = [] := List.filter_eq_nil_iff.2 fun j hj => by simp only [hall1 j (List.mem_range.1 hj)]; simp
          rw [hmm, List.range_succ, List.filter_append, e1, List.nil_append]
          simp only [List.filter_cons, List.filter_nil, hl1, Bool.not_false, if_true]
        rw [h0] at hcount
        simp only [List.length_cons, List.length_nil] at hcount
        have := hendB γ H a w listed hst hs (fun j hj => by
          by_cases hj' : j < m1
          · rw [hall1 j hj']; simp [hj']
          · by_cases e : j = m1
            · rw [e, hl1]; simp
            · rw [htail j (by omega)]; simp; omega)
        rw [show all.size - m1 = fuel + 1 from by omega] at this
        exact this
      refine ⟨fun hn => ?_, fun i hi => ?_⟩
      · -- the least that is not listed is ready
        exfalso
        have hex : ∃ j, j < m ∧ listed.getD j false = false := by
          refine Classical.byContradiction fun hno => hall fun j hj => ?_
          cases hx : listed.getD j false with
          | true => rfl
          | false => exact absurd ⟨j, hj, hx⟩ hno
        have hmin : ∃ j, j < m ∧ listed.getD j false = false ∧ ∀ i, i < j → listed.getD i false = true := by
          obtain ⟨j, hj⟩ := hex
          induction j using Nat.strongRecOn with
          | _ j ihj =>
            by_cases hlow : ∀ i, i < j → listed.getD i false = true
            · exact ⟨j, hj.1, hj.2, hlow⟩
            · have : ∃ i, i < j ∧ listed.getD i false = false := by
                refine Classical.byContradiction fun hno => hlow fun i hi => ?_
                cases hx : listed.getD i false with
                | true => rfl
                | false => exact absurd ⟨i, hi, hx⟩ hno
              obtain ⟨i, hi, hx⟩ := this
              exact ihj i hi ⟨by omega, hx⟩
        obtain ⟨j, hj, hjl, hlow⟩ := hmin
        have hjn : j < all.size := by omega
        have hmem' : j ∈ Region.ready .any all listed := by
          rw [mem_ready]
          refine ⟨?_, all[j], by simp [hjn], fun e he hb => hlow _ (hc.back j all[j] (by simp [hjn]) e he hb)⟩
          rw [Array.getD_eq_getD_getElem?] at hjl ⊢
          rw [Array.getElem?_eq_getElem (by omega)] at hjl ⊢
          simpa using hjl
        rw [hn] at hmem'; cases hmem'
      · obtain ⟨h1, o, ho, h2⟩ := ready_sound hi
        obtain ⟨hil, hif⟩ := getD_of h1
        have hin : i < all.size := (Array.getElem?_eq_some_iff.1 ho).1
        have him : i < m := by
          refine Classical.byContradiction fun hge => hall1 fun j hj => ?_
          exact anc_listed hclosed (hc.tail i o ho (by omega) j hj) ho h2
        -- who writes what i names: listed just if it stands ahead
        have hwr : ∀ x, namesT all o x = true → ∀ j, j < m → dstAt all j = some x → listed.getD j false = decide (j < i) := by
          intro x hx j hj hd'
          cases hp : all[j]? with
          | none => simp [dstAt, hp] at hd'
          | some p =>
            simp only [dstAt, hp, Option.bind_some] at hd'
            by_cases hji : j < i
            · rcases hc.names i o (by omega) ho j p hji hp with h3 | ⟨h3, _⟩
              · rw [edge_listed h3 h2]; simp [hji]
              · rw [h3 x hd'] at hx; cases hx
            · by_cases e : j = i
              · subst e; rw [hif]; simp
              · rcases hc.names j p (by omega) hp i o (by omega) ho with h3 | ⟨_, h3⟩
                · cases hlj : listed.getD j false with
                  | false => simp; omega
                  | true =>
                    have := edge_listed h3 (hclosed j p hlj hp)
                    rw [hif] at this; cases this
                · rw [h3 x hd'] at hx; cases hx
        have htab_i : ∀ x, namesT all o x = true → tabAt all V t0 (fun j => listed.getD j false) m x = look x (states all V t0 i) := by
          intro x hx
          rw [look_states]
          simp only [tabAt]
          rw [lastW_congr m (fun j hj hd' => hwr x hx j hj hd'), lastW_top m (by omega)]
        have hopnd : ∀ x, x ∈ o.op.operands → ∀ v, ge (states all V t0 i) x = some v → Rep γ H v (a.eval x) := by
          intro x hx v hv
          cases x with
          | tmp y =>
            have hy : namesT all o y = true := by
              simp only [namesT, Bool.or_eq_true]
              exact .inl (.inr (List.any_eq_true.2 ⟨_, Array.mem_toList_iff.2 hx, by simp [hasT]⟩))
            obtain ⟨u, hu, hr⟩ := htab y v (by rw [htab_i y hy]; exact hv)
            simp only [Act.eval, Array.getD_eq_getD_getElem?, hu, Option.getD_some]
            exact hr
          | const c => simp only [ge, Option.some.injEq] at hv; subst hv; exact rep_const γ H c
          | func f => simp only [ge, Option.some.injEq] at hv; subst hv; exact .d _ _ (.fn f [] [] rfl (fun j a u h1 => by simp at h1))
          | global g => simp [ge] at hv
        obtain ⟨hos, hdok⟩ := hstep i o him ho
        -- behind it
        have hnextG : ∀ v γ' H' w', TabOk γ' H' (tabAt all V t0 (fun j => listed.getD j false) m) a.tmps → Rep γ' H' (V i) v →
            St X γ' H' [] (bornAt E (fun j => (listed.setIfInBounds i true).getD j false) σ m) (a.put o.dst v) w' → wpAnyIn (Fr X.ro) 0 X.P .any all Q' fuel (listed.setIfInBounds i true) (a.put o.dst v) w' := by
          intro v γ' H' w' htab' hr sst'
          refine ih _ γ' H' _ w' (by simpa using hs) (fun j hj => ?_) (fun j p hj hp e he hb => ?_) ?_ ?_ sst'
          · rw [getD_set_ne false (by omega)]; exact htail j hj
          · by_cases e' : i = j
            · subst e'
              rw [ho] at hp; simp only [Option.some.injEq] at hp; subst hp
              exact getD_set_true (h2 e he hb)
            · rw [getD_set_ne false e'] at hj
              exact getD_set_true (hclosed j p hj hp e he hb)
          · have hf : ((List.range m).filter fun j => !listed.getD j false).length = ((List.range m).filter fun j => !(listed.setIfInBounds i true).getD j false).length + 1 := by
              have h5 : ∀ (l : List Nat), l.Nodup → i ∈ l → (l.filter fun j => !listed.getD j false).length = (l.filter fun j => !(listed.setIfInBounds i true).getD j false).length + 1 := by
                intro l
                induction l with
                | nil => intro _ h; cases h
                | cons b l ihl =>
                  intro hnd hmem'
                  rw [List.nodup_cons] at hnd
                  by_cases e : i = b
                  · subst e
                    have h6 : (listed.setIfInBounds i true).getD i false = true := by
                      rw [Array.getD_eq_getD_getElem?]; simp [hil]
                    have h7 : (l.filter fun j => !listed.getD j false) = (l.filter fun j => !(listed.setIfInBounds i true).getD j false) := by
                      refine List.filter_congr fun j hj => ?_
                      have hne : i ≠ j := fun e => hnd.1 (e ▸ hj)
                      rw [getD_set_ne false hne]
                    simp only [List.filter_cons, hif, h6, Bool.not_false, Bool.not_true, if_true, h7, List.length_cons, Bool.false_eq_true, if_false]
                  · have h6 := getD_set_ne (listed := listed) false e
                    have h7 := ihl hnd.2 (by rcases List.mem_cons.1 hmem' with h | h; exact absurd h e; exact h)
                    simp only [List.filter_cons, h6]
                    split <;> simp only [List.length_cons, h7]
              exact h5 _ List.nodup_range (List.mem_range.2 him)
            omega
          · -- the table
            intro x b hx
            by_cases hxd : o.dst = some x
            · have hlw : tabAt all V t0 (fun j => (listed.setIfInBounds i true).getD j false) m x = some (V i) := by
                have hnx : namesT all o x = true := by simp [namesT, hxd]
                simp only [tabAt]
                have : lastW all (fun j => (listed.setIfInBounds i true).getD j false) x m = lastW all (fun j => decide (j < i + 1)) x m := by
                  refine lastW_congr m fun j hj hd' => ?_
                  by_cases e : i = j
                  · subst e; rw [Array.getD_eq_getD_getElem?]; simp [hil]
                  · show (listed.setIfInBounds i true).getD j false = _
                    rw [getD_set_ne false e, hwr x hnx j hj hd']
                    simp; omega
                rw [this, lastW_top m (by omega)]
                have hda : dstAt all i = some x := by simp [dstAt, ho, hxd]
                simp [lastW, hda]
              rw [hlw] at hx
              simp only [Option.some.injEq] at hx
              subst hx
              have hlt : x < a.tmps.size := by have := sst.size; rw [hxd] at hdok; simp only [dOk, Nat.blt_eq] at hdok; omega
              exact ⟨v, by rw [hxd]; simp [Act.put, hlt], hr⟩
            · have hlw : tabAt all V t0 (fun j => (listed.setIfInBounds i true).getD j false) m x = tabAt all V t0 (fun j => listed.getD j false) m x := by
                simp only [tabAt]
                rw [lastW_congr m fun j hj hd' => ?_]
                have e : i ≠ j := fun e => by subst e; simp [dstAt, ho] at hd'; exact hxd hd'
                exact getD_set_ne false e
              rw [hlw] at hx
              obtain ⟨u, hu, hr'⟩ := htab' x b hx
              refine ⟨u, ?_, hr'⟩
              cases hod : o.dst with
              | none => simpa [Act.put, hod] using hu
              | some d =>
                have hne : d ≠ x := fun e => hxd (by rw [hod, e])
                simp only [Act.put]
                rw [Array.getElem?_setIfInBounds, if_neg hne]; exact hu
        have hnext : E i = none → ∀ v γ' σ' H' w', Mem w H (fun _ => False) γ' H' σ' w' → Rep γ H' (V i) v → wpAnyIn (Fr X.ro) 0 X.P .any all Q' fuel (listed.setIfInBounds i true) (a.put o.dst v) w' := by
          intro hE v γ' σ' H' w' hm' hr
          refine hnextG v γ H' w' (fun x b hx => let ⟨u, hu, r⟩ := htab x b hx; ⟨u, hu, r.mono hm'.hle⟩) hr ?_
          have h9 := sst.calm (d := o.dst) hm' hdok hr
          rw [bornAt_congr (S' := fun j => listed.getD j false) m (fun j hj hne => by
            have e' : i ≠ j := fun e => by subst e; exact hne hE
            exact getD_set_ne false e')]
          exact h9.wk (Wk.nil _) (Wk.refl _)
        have hmemσ : Mem X.w0 X.H0 X.B γ H σ w := sst.mem.wk (fun x e hx => bornAt_old hx (fun i' y e' hE' => fun hyx => by
          have := (fresh_s (hfr i' y e' hE').1 hx).1
          exact this hyx.symm) m)
        -- its guard
        have hguard : ∀ j b' d b, o.guard = some (j, b') → ((all[j]?).bind (·.dst)) = some d → look d (states all V t0 i) = some (.d (.v (.bool b))) → yielded all a.tmps j = some b := by
          intro j b' d b hg hd' hl
          have hnd : namesT all o d = true := by simp [namesT, hg, hd']
          obtain ⟨u, hu, hr⟩ := htab d _ (by rw [htab_i d hnd]; exact hl)
          have := rep_v hr
          subst this
          simp [yielded, hd', hu]
        have hguardU : ∀ j b' d, o.guard = some (j, b') → ((all[j]?).bind (·.dst)) = some d → look d (states all V t0 i) = some (.tup []) → yielded all a.tmps j = none := by
          intro j b' d hg hd' hl
          have hnd : namesT all o d = true := by simp [namesT, hg, hd']
          obtain ⟨u, hu, hr⟩ := htab d _ (by rw [htab_i d hnd]; exact hl)
          have := rep_undef_eq hr
          subst this
          simp [yielded, hd', hu, undef]
        unfold wpOpIn
        simp only [ho]
        rcases hos with ⟨hE, ⟨hg, hq⟩ | ⟨j, b, d, hg, hd', hl, hq⟩ | ⟨j, b, b', d, hg, hd', hl, hne, hV⟩ | ⟨j, b, d, hg, hd', hl, hV⟩⟩ | ⟨id, en, hg, hnj, hE⟩
        · have hw : Region.wanted o (yielded all a.tmps) = true := by simp [Region.wanted, hg]
          rw [if_pos hw]
          exact ⟨fun _ _ => trivial, hq γ H a w sst.lam hopnd hmemσ _ _ (hnext hE)⟩
        · have hw : Region.wanted o (yielded all a.tmps) = true := by simp [Region.wanted, hg, hguard j b d b hg hd' hl]
          rw [if_pos hw]
          exact ⟨fun _ _ => trivial, hq γ H a w sst.lam hopnd hmemσ _ _ (hnext hE)⟩
        · have hw : Region.wanted o (yielded all a.tmps) = false := by simp [Region.wanted, hg, hguard j b d b' hg hd' hl, hne]
          simp only [hw, Bool.false_eq_true, if_false]
          exact ⟨fun _ _ => trivial, hnext hE undef γ [] H w (sst.mem.refl γ) (by rw [hV]; exact rep_undef)⟩
        · have hw : Region.wanted o (yielded all a.tmps) = false := by simp [Region.wanted, hg, hguardU j b d hg hd' hl]
          simp only [hw, Bool.false_eq_true, if_false]
          exact ⟨fun _ _ => trivial, hnext hE undef γ [] H w (sst.mem.refl γ) (by rw [hV]; exact rep_undef)⟩
        · have hw : Region.wanted o (yielded all a.tmps) = true := by simp [Region.wanted, hg]
          rw [if_pos hw]
          refine ⟨fun _ _ => trivial, ?_⟩
          obtain ⟨bv, bn, bw, hrun, hmn, hrn⟩ := hnj γ H a w hopnd hmemσ
          rw [show (Fr X.ro).round = X.ro from rfl, hrun, Oper.uponIn_value]
          obtain ⟨f2, f3, f4⟩ := hfr i id _ hE
          have hfb : isFresh id [] (bornAt E (fun j => listed.getD j false) σ m) X.pin = true := by
            simp only [isFresh, Bool.and_eq_true, List.all_eq_true] at f2 ⊢
            refine ⟨⟨fun p hp => by simp at hp, fun p hp => ?_⟩, f2.2⟩
            rcases bornAt_mem m hp with h7 | ⟨j, _, h8, h9⟩
            · simpa using f2.1.2 p h7
            · obtain ⟨y, f⟩ := p
              obtain ⟨g1, g2⟩ := f4 j y f (fun e => by subst e; rw [hif] at h8; cases h8) h9
              have : Nat.beq id y = false := by rw [← Bool.not_eq_true, Nat.beq_eq]; exact fun h => g1 h.symm
              simp [this, g2]
          have hnew := sst.new (d := o.dst) hmn hfb hdok hrn
          refine hnextG _ (upd γ id ⟨w.heap.size, bn, fun _ => False⟩) H _ ?_ ?_ ?_
          · intro x b hx
            obtain ⟨u, hu', r⟩ := htab x b hx
            refine ⟨u, hu', rep_upd r ?_⟩
            simp only [tabAt] at hx
            split at hx
            · next j hj =>
              simp only [Option.some.injEq] at hx; subst hx
              obtain ⟨h7, h8, h9⟩ := lastW_spec m j hj
              exact f3 j x h7 (fun e => by subst e; rw [hif] at h8; cases h8) h9
            · exact fresh_t f2 hx
          · exact hrn
          · refine hnew.wk (Wk.nil _) fun x f hx => ?_
            rw [look_cons]
            rcases bornAt_lookup m hx with ⟨j, hjm, hj, hEj⟩ | hx
            · by_cases e' : j = i
              · subst e'
                rw [hE] at hEj
                simp only [Option.some.injEq, Prod.mk.injEq] at hEj
                rw [if_pos hEj.1.symm, hEj.2]
              · have hne := (f4 j x f e' hEj).1
                rw [if_neg hne]
                refine bornAt_look (fun i1 j1 y e1 e2 h1' h2' => Classical.byContradiction fun hne' => (((hfr i1 y e1 h1').2.2 j1 y e2 (fun h => hne' h.symm) h2').1 rfl)) m hjm ?_ hEj
                rw [getD_set_ne false (fun h => e' h.symm)] at hj; exact hj
            · have hne := (fresh_s f2 hx).1
              rw [if_neg hne]
              exact bornAt_old hx (fun i' y e' hE' => fun hyx => by
                have := (fresh_s (hfr i' y e' hE').1 hx).1
                exact this hyx.symm) m

def calmCb (all : Array Oper) (m1 : Nat) : Bool :=
  (List.range all.size).all fun j => match all[j]? with
    | none => true
    | some o => o.after.all (fun e => !Region.binds .any e || Nat.blt e.on j) && (Nat.ble j m1 || (List.range m1).all fun i => ancB all 24 j i) &&
      (!Nat.ble j m1 || (List.range j).all fun i => match all[i]? with
        | none => true
        | some p => edge o i || ((match p.dst with | some x => !namesT all o x | none => true) && (match o.dst with | some x => !namesT all p x | none => true)))
theorem calmCb_R {all : Array Oper} {m1 : Nat} (h : calmCb all m1 = true) : CalmC all m1 := by
  have at' : ∀ j o, all[j]? = some o → _ := fun j o ho => by
    have hj : j < all.size := (Array.getElem?_eq_some_iff.1 ho).1
    have h1 := (List.all_eq_true.1 h) j (List.mem_range.2 hj)
    simp only [ho, Bool.and_eq_true] at h1
    exact h1
  refine ⟨fun j o ho e he hb => ?_, fun j o ho hm i hi => ?_, fun j o hjm ho i p hi hp => ?_⟩
  · obtain ⟨⟨h2, h3⟩, h4⟩ := at' j o ho
    have := (Array.all_eq_true_iff_forall_mem.1 h2) e he
    simp only [hb, Bool.not_true, Bool.false_or, Nat.blt_eq] at this
    exact this
  · obtain ⟨⟨h2, h3⟩, h4⟩ := at' j o ho
    rcases Bool.or_eq_true_iff.1 h3 with h5 | h5
    · simp only [Nat.ble_eq] at h5; omega
    · exact ancB_sound _ _ _ (List.all_eq_true.1 h5 i (List.mem_range.2 hi))
  · obtain ⟨⟨h2, h3⟩, h4⟩ := at' j o ho
    rcases Bool.or_eq_true_iff.1 h4 with h5 | h5
    · have : Nat.ble j m1 = true := by simpa using hjm
      rw [this] at h5; cases h5
    · have h5 := List.all_eq_true.1 h5 i (List.mem_range.2 hi)
      simp only [hp] at h5
      rcases Bool.or_eq_true_iff.1 h5 with h6 | h6
      · exact .inl h6
      · refine .inr ?_
        simp only [Bool.and_eq_true] at h6
        refine ⟨fun x hx => ?_, fun x hx => ?_⟩
        · have := h6.1; simp only [hx] at this; simpa using this
        · have := h6.2; simp only [hx] at this; simpa using this
/-- The last of the head, which some of the tail do not wait for. -/
def FreeO (X : Cx) (ops : Array Oper) (m1 : Nat) (σ : Sg) (t : T) (K : T → Prop) : Prop :=
  ∃ o V, ops[m1]? = some o ∧ o.guard = none ∧ QJ X o t σ V ∧ dOk o.dst X.N = true ∧ V.open = true ∧ K (putT o.dst V t)
theorem WJ.calmC {X : Cx} {id : Nat} {ops : Array Oper} {t : T} {σ : Sg} {RB RA : T → Sg → Prop} {Q' : Exit → Act → World → Prop} (m1 : Nat) (hm : X.P.follows .mixedOrders = true) (hc : CalmC ops m1) (hle : m1 + 1 ≤ ops.size)
    (hendB : ∀ t σ, RB t σ → ∀ γ H a w listed, St X γ H t σ a w → listed.size = ops.size → (∀ j, j < ops.size → listed.getD j false = decide (j < m1)) → wpAnyIn (Fr X.ro) 0 X.P .any ops Q' (ops.size - m1) listed a w)
    (hend : ∀ t σ, RA t σ → ∀ γ H a w listed, St X γ H t σ a w → listed.size = ops.size → (∀ j, j < ops.size → listed.getD j false = decide (j < m1 + 1)) → wpAnyIn (Fr X.ro) 0 X.P .any ops Q' (ops.size - (m1 + 1)) listed a w)
    (h : CB X ops σ (fun t' σ' => RB t' σ' ∧ FreeO X ops m1 σ t' fun t'' => RA t'' σ') (ops.toList.take m1) t []) : ∀ γ H a w, St X γ H t σ a w → (Code.region id ops true).wpIn (Fr X.ro) 0 X.P Q' a w := by
  intro γ H a w s
  refine wpIn_region_any hm ?_
  have hlen : (ops.toList.take m1).length = m1 := by simp; omega
  have tb := CB.table (ops.toList.take m1) 0 t [] (fun j hj => by rw [hlen] at hj; rw [Nat.zero_add, List.getElem?_take, if_pos hj]; simp) h
  unfold Tabled at tb
  obtain ⟨V, E, h1, ⟨t', h2, h3, o1, V1, g1, g2, g3, g4, g5, g6⟩, ha, hb, hc', _⟩ := tb
  simp only [hlen, Nat.zero_add] at h1 h2 h3 ha hb hc' g6
  rw [statesFrom_zero] at h2
  have hst : ∀ i, i ≤ m1 → states ops (fun i => if i < m1 then V i else V1) t i = states ops V t i := fun i => by
    induction i with
    | zero => intro _; rfl
    | succ i ih => intro hi; simp only [states]; rw [ih (by omega), if_pos (by omega)]
  have s' : St X γ H t σ a { w with drawn := w.drawn + 1 } := ⟨s.lam, s.round, s.defers, s.size, s.pinned, s.tmp, s.mem.drew⟩
  have hall : ∀ j, (Array.replicate ops.size false).getD j false = false := fun j => by
    rw [Array.getD_eq_getD_getElem?, Array.getElem?_replicate]; split <;> rfl
  have hbB : bornAt (fun i => if i < m1 then E i else none) (fun _ => true) σ m1 = bornFrom E 0 [] m1 ++ σ := by
    rw [bornAt_all]
    congr 1
    exact bornFrom_congr m1 fun i _ hi => if_pos (by omega)
  have hd1 : dstAt ops m1 = o1.dst := by simp [dstAt, g1]
  refine calm_anyC (m := m1 + 1) (m1 := m1) (t0 := t) (σ := σ) rfl hc hle (V := fun i => if i < m1 then V i else V1) (E := fun i => if i < m1 then E i else none) (by simp) (fun γ H a w lst st hls hlst => ?_) (fun i o hi ho => ?_) (fun i id e hE => ?_) (fun γ H a w lst st hls hlst => ?_) ops.size _ γ H a _ (by simp) (fun j _ => hall j) (fun i o hi => by rw [hall i] at hi; cases hi) ?_ ?_ ?_
  · rw [hbB, hst m1 (Nat.le_refl _)] at st
    exact hendB _ _ h3 γ H a w lst (st.wk h2 (Wk.refl _)) hls hlst
  · rw [hst i (by omega)]
    by_cases him : i < m1
    · have := h1 i o him ho
      rw [statesFrom_zero] at this
      simp only [if_pos him]; exact this
    · have e : i = m1 := by omega
      subst e
      rw [g1] at ho; cases ho
      simp only [if_neg him]
      exact ⟨.inl ⟨rfl, .inl ⟨g2, g3.wk h2 (Wk.refl _)⟩⟩, g4⟩
  · have him : i < m1 := by
      refine Classical.byContradiction fun hge => ?_
      rw [if_neg hge] at hE; cases hE
    simp only [if_pos him] at hE
    have g2 := ha i id e him hE
    refine ⟨g2, fun j x hj hne hx => ?_, fun j id' e' hne hE' => ?_⟩
    · by_cases hj' : j < m1
      · simp only [if_pos hj']; exact hb i j x id e him hj' hne hE hx
      · simp only [if_neg hj']; exact has2_open g5
    · by_cases hj : j < m1
      · rw [if_pos hj] at hE'
        exact hc' i j id e id' e' him hj hne hE hE'
      · rw [if_neg hj] at hE'; cases hE'
  · have hbe : bornAt (fun i => if i < m1 then E i else none) (fun _ => true) σ (m1 + 1) = bornFrom E 0 [] m1 ++ σ := by
      rw [← hbB]
      simp only [bornAt, Nat.lt_irrefl, if_false]
    have hse : states ops (fun i => if i < m1 then V i else V1) t (m1 + 1) = putT o1.dst V1 (states ops V t m1) := by
      simp only [states, Nat.lt_irrefl, if_false]
      rw [hst m1 (Nat.le_refl _), hd1]
    rw [hbe, hse] at st
    exact hend _ _ g6 γ H a w lst (st.wk h2.put (Wk.refl _)) hls hlst
  · have : ((List.range (m1 + 1)).filter fun j => !(Array.replicate ops.size false).getD j false) = List.range (m1 + 1) := List.filter_eq_self.2 fun j _ => by rw [hall j]; rfl
    rw [this, List.length_range]; omega
  · intro x b hx
    have : lastW ops (fun j => (Array.replicate ops.size false).getD j false) x (m1 + 1) = none := by
      have h0 : ∀ k, lastW ops (fun _ => false) x k = none := fun k => by
        induction k with
        | zero => rfl
        | succ k ih => simp [lastW, ih]
      rw [lastW_congr (S' := fun _ => false) (m1 + 1) (fun j _ _ => hall j)]; exact h0 _
    simp only [tabAt, this] at hx
    exact s.tmp x b hx
  · have : bornAt (fun i => if i < m1 then E i else none) (fun j => (Array.replicate ops.size false).getD j false) σ (m1 + 1) = σ := by
      have h0 : ∀ k, bornAt (fun i => if i < m1 then E i else none) (fun _ => false) σ k = σ := fun k => by
        induction k with
        | zero => rfl
        | succ k ih => simp only [bornAt, ih]; split <;> simp
      rw [bornAt_congr (S' := fun _ => false) (m1 + 1) (fun j _ _ => hall j)]; exact h0 _
    rw [this]; exact s'.wk (Wk.nil _) (Wk.refl _)
theorem CB.imp {X : Cx} {all : Array Oper} {σ : Sg} {Q Q' : T → Sg → Prop} (hQ : ∀ t σ, Q t σ → Q' t σ) : ∀ (rest : List Oper) (t : T) (bs : Sg), CB X all σ Q rest t bs → CB X all σ Q' rest t bs
  | [], t, bs, ⟨t', h1, h2⟩ => ⟨t', h1, hQ _ _ h2⟩
  | o :: rest, t, bs, h => by
    rcases h with ⟨V, h1, h2, h3, h4⟩ | ⟨id, V, e, hd, hg, hn, hN, hf, hb, hv, h4⟩
    · exact .inl ⟨V, h1, h2, h3, CB.imp hQ rest _ _ h4⟩
    · exact .inr ⟨id, V, e, hd, hg, hn, hN, hf, hb, hv, CB.imp hQ rest _ _ h4⟩
/-- As FreeO, reckoned. -/
def freeW (X : Cx) (ops : Array Oper) (m1 : Nat) (σ : Sg) (t : T) (K : T → Prop) : Prop := match ops[m1]? with
  | some o => match o.guard with
    | none => qw X o t σ (fun V => match dOk o.dst X.N && V.open with | true => K (putT o.dst V t) | false => False) False
    | some _ => False
  | none => False
theorem freeW_sound {X : Cx} {ops : Array Oper} {m1 : Nat} {σ : Sg} {t : T} {K : T → Prop} (h : freeW X ops m1 σ t K) : FreeO X ops m1 σ t K := by
  unfold freeW at h
  split at h
  · next o ho =>
    split at h
    · next hg =>
      rcases qw_sound h with ⟨V, hq, hk⟩ | h
      · split at hk
        · next hb =>
          simp only [Bool.and_eq_true] at hb
          exact ⟨o, V, ho, hg, hq, hb.1, hb.2, hk⟩
        · exact hk.elim
      · exact h.elim
    · exact h.elim
  · exact h.elim
/-- As RegP.mix, but some of the tail do not wait for the head's last operation (m1). -/
theorem RegP.mixF {X : Cx} {id : Nat} {ops : Array Oper} {t : T} {σ : Sg} {Q : T → Sg → Prop} (m1 : Nat) (hm : X.P.follows .mixedOrders = true) (hc : (calmCb ops m1 && Nat.ble (m1 + 1) ops.size) = true)
    (h : vB X ops σ (fun t' σ' => vO X ops Q (ops.size - m1) (trues m1 (falses (ops.size - m1))) t' σ' ∧ freeW X ops m1 σ t' fun t'' => vO X ops Q (ops.size - (m1 + 1)) (trues (m1 + 1) (falses (ops.size - (m1 + 1)))) t'' σ') (ops.toList.take m1) t []) : RegP X id ops t σ Q := by
  intro Q' hQ
  simp only [Bool.and_eq_true, Nat.ble_eq] at hc
  have key : ∀ m, m ≤ ops.size → ∀ t σ, vO X ops Q (ops.size - m) (trues m (falses (ops.size - m))) t σ → ∀ γ H a w listed, St X γ H t σ a w → listed.size = ops.size → (∀ j, j < ops.size → listed.getD j false = decide (j < m)) → wpAnyIn (Fr X.ro) 0 X.P .any ops (Post X Q') (ops.size - m) listed a w := fun m hle t σ h3 γ H a w lst hst hls hlst => by
    have e : lst = (trues m (falses (ops.size - m))).toArray := by
      rw [trues_eq, falses_eq]
      apply Array.ext
      · simp [hls]; omega
      · intro j h1 h2
        have hj := hlst j (by omega)
        rw [Array.getD_eq_getD_getElem?, Array.getElem?_eq_getElem h1, Option.getD_some] at hj
        rw [hj, List.getElem_toArray, List.getElem_append]
        split
        · next h3 => simp at h3; simp [h3]
        · next h3 => simp at h3; simp; omega
    rw [e]
    exact vO_sound (Q := Q) (Q' := Post X Q') (fun γ H t σ a w s q => ⟨γ, H, t, σ, s, hQ t σ q⟩) (ops.size - m) _ t σ h3 γ H a w hst
  refine WJ.calmC m1 hm (calmCb_R hc.1) hc.2 (key m1 (by omega)) (key (m1 + 1) hc.2) ?_
  exact CB.imp (fun t σ h => ⟨h.1, freeW_sound h.2⟩) _ _ _ (vB_sound _ _ _ h)
end Go.Gv
end
section
open Go Go.Gv
attribute [local irreducible] Go.Gv.WJ Go.Gv.OpJ Go.Gv.QJ Go.Gv.Spl Go.Gv.Req Go.Gv.IdxP Go.Gv.RegP Go.Gv.FinP Go.Gv.CellP Go.Gv.CellsP Go.Gv.ArrP Go.Gv.ArrsP Go.Gv.DropP Go.Gv.ByteP Go.Gv.StoreP
set_option maxRecDepth 100000
namespace Go.Proofs.E
attribute [local irreducible] elems
theorem nextIx_none (l : List OP) : ∀ (R : List OP), (∀ x, x ∈ R → wrongO l x = 6) → nextIx l R = -1
  | [], _ => rfl
  | o :: r, h => by
    have h1 := h o (List.mem_cons_self ..)
    have h2 := nextIx_none l r fun x hx => h x (List.mem_cons_of_mem _ hx)
    rw [nextIx, if_neg (fun e => e h1), h2]; rfl
theorem nextIx_at (l : List OP) : ∀ (R : List OP) (i : Nat) (x : OP), R[i]? = some x → (∀ y, y ∈ R.take i → wrongO l y = 6) → wrongO l x ≠ 6 → nextIx l R = i
  | [], i, x, h, _, _ => by simp at h
  | o :: r, 0, x, h, _, hw => by
    cases (Option.some.inj h)
    rw [nextIx, if_pos hw]; rfl
  | o :: r, i + 1, x, h, hb, hw => by
    have h1 := hb o (by simp)
    have h2 := nextIx_at l r i x (by simpa using h) (fun y hy => hb y (by simp [hy])) hw
    rw [nextIx, if_neg (fun e => e h1), h2, if_neg (by omega)]; omega
theorem nextIx_lt (l : List OP) : ∀ R : List OP, nextIx l R < R.length ∧ -1 ≤ nextIx l R
  | [] => by simp [nextIx]
  | o :: r => by
    have h := nextIx_lt l r
    rw [nextIx, List.length_cons]
    split
    · omega
    · split <;> omega
theorem nextR_at {l R : List OP} {i : Nat} (h : nextIx l R = i) : nextR l R = R.take i ++ R.drop (i + 1) := by unfold nextR; rw [h, if_neg (by omega), Int.toNat_natCast]
theorem nextO_at {l R : List OP} {i : Nat} {x : OP} (h : nextIx l R = i) (hx : R[i]? = some x) : nextO l R = x := by unfold nextO; rw [h, if_neg (by omega), Int.toNat_natCast, List.getD_eq_getElem?_getD, hx]; rfl
theorem six_snoc {l R : List OP} {i : Nat} {x : OP} (hx : R[i]? = some x) (h : ∀ y, y ∈ R.take i → wrongO l y = 6) (hw : wrongO l x = 6) : ∀ y, y ∈ R.take (i + 1) → wrongO l y = 6 := fun y hy => by
  rw [take_snoc hx] at hy
  rcases List.mem_append.1 hy with h1 | h1
  · exact h y h1
  · cases List.mem_singleton.1 h1; exact hw
theorem RNext_c (l R : List OP) (hl : l.length ≤ 1000000) (hR : R.length ≤ 1000000) : Cv 27 [.d (.sl 6 (R.map opD)), .d (.sl 6 (l.map opD))] (iv (nextIx l R)) := by
  refine Ct.of_vc Tryd.f27 Tryd.func27 rfl rfl fun w H B g0 => ?_
  refine WJ.loopK (V := Nat) (fun i => [(5, iv i)]) (fun _ => []) [] (fun i => R.length - i) (fun i => i ≤ R.length ∧ ∀ x, x ∈ R.take i → wrongO l x = 6) 0 ⟨by omega, fun x hx => by simp at hx⟩ (by repeat' (first | exact trivial | exact rfl | refine And.intro ?_ ?_)) (by repeat' (first | exact trivial | exact rfl | refine And.intro ?_ ?_)) ?_
  rintro i ⟨hi, hb⟩
  refine Spl.of (fun h1 => ?_) (fun h1 => ?_)
  · have hlt : i < R.length := by have := of_decide_eq_true h1; simp at this; omega
    have hx : R[i]? = some R[i] := by simp
    generalize R[i] = x at hx
    have hrw := RWrong_c l x hl
    (repeat (first | refine Spl.t rfl ?_ | refine Spl.f rfl ?_))
    refine IdxP.of (opD x) (by omega) (by simp [hx]) ?_
    refine OpJ.callV hrw (fun _ _ => rfl) rfl rfl rfl ?_
    refine Spl.of (fun h2 => ?_) (fun h2 => ?_)
    · have h2 : wrongO l x ≠ 6 := by simpa using h2
      (repeat (first | refine Spl.t rfl ?_ | refine Spl.f rfl ?_))
      exact FinP.open rfl (congrArg iv (nextIx_at l R i x hx hb h2).symm)
    · have h2 : wrongO l x = 6 := by simpa using h2
      (repeat (first | refine Spl.t rfl ?_ | refine Spl.f rfl ?_))
      exact ⟨i + 1, ⟨by omega, six_snoc hx hb h2⟩, by omega, ⟨some_iv (wrap_id _ (by omega) (by omega)), trivial⟩, (by repeat' (first | exact trivial | exact rfl | refine And.intro ?_ ?_)), (by repeat' (first | exact trivial | exact rfl | refine And.intro ?_ ?_)), (by repeat' (first | exact trivial | exact rfl | refine And.intro ?_ ?_))⟩
  · have h1 := of_decide_eq_false h1
    simp at h1
    (repeat (first | refine Spl.t rfl ?_ | refine Spl.f rfl ?_))
    rw [List.take_of_length_le (by omega)] at hb
    exact FinP.open rfl (congrArg iv (nextIx_none l R hb).symm)
theorem wo_row (R : List OP) (i : Nat) (k : Int) (hk : k = i + 1) : ([] : List (List D)) ++ List.drop (Int.toNat 0) (List.take ((i : Int)).toNat (R.map opD)) ++ List.drop k.toNat (List.take ((R.map opD).length : Int).toNat (R.map opD)) = (R.take i ++ R.drop (i + 1)).map opD := by
  subst hk
  rw [Int.toNat_natCast, Int.toNat_natCast, List.take_length, show ((i : Int) + 1).toNat = i + 1 from by omega, List.nil_append, List.map_append, List.map_take, List.map_drop]; rfl
theorem take_app3 {α : Type} (A B C : List α) : List.take (A.length + B.length + C.length) (A ++ B ++ C) = A ++ B ++ C := List.take_of_length_le (by rw [List.length_append, List.length_append]; exact Nat.le_refl _)
theorem len_app3 {α : Type} (A B C : List α) : A.length + B.length + C.length ≤ (A ++ B ++ C).length := by rw [List.length_append, List.length_append]; exact Nat.le_refl _
theorem wo_len (R : List OP) (hR : R.length ≤ 1000000) (i k : Int) : 0 + (List.drop (Int.toNat 0) (List.take i.toNat (R.map opD))).length + (List.drop k.toNat (List.take ((R.map opD).length : Int).toNat (R.map opD))).length ≤ 2000000 := by
  rw [List.length_drop, List.length_drop, List.length_take, List.length_take, List.length_map]; omega
theorem Without_c (R : List OP) (i : Nat) (hR : R.length ≤ 1000000) (hi : i < R.length) : Cv 28 [.d (.sl 6 (R.map opD)), iv i] (.d (.sl 6 ((R.take i ++ R.drop (i + 1)).map opD))) := by
  refine Ct.of_vc Tryd.f28 Tryd.func28 rfl rfl fun w H B g0 => ?_
  refine RegP.mix 9 rfl (by decide +kernel) ?_
  refine Req.of ⟨by omega, by omega, by rw [List.length_map]; omega⟩ ?_
  refine QuietP.born (Go.Gv.B.appF (i := 9) rfl (.full _ _) (FlatQ.data rfl rfl) rfl (by show 0 + _ ≤ _; rw [List.length_drop, List.length_take, List.length_map]; omega) (.inr rfl)) ?_
  (repeat' (first | exact trivial | refine And.intro ?_ ?_))
  have hwr : IntKind.i64.wrap ((i : Int) + 1) = i + 1 := wrap_id _ (by omega) (by omega)
  refine Req.of ⟨by rw [hwr]; omega, by rw [hwr, List.length_map]; omega, by rw [List.length_map]; omega⟩ ?_
  (repeat' (first | exact trivial | refine And.intro ?_ ?_))
  refine Req.of ⟨by rw [List.length_append], Nat.le_trans (wo_len R hR i _) (by decide)⟩ ?_
  (repeat' (first | exact trivial | refine And.intro ?_ ?_))
  refine FinP.pubA 9 rfl (len_app3 _ _ _) (Nat.le_trans (wo_len R hR i _) (by decide)) (FinP.open rfl ?_)
  exact congrArg (fun r => AV.d (.sl 6 r)) ((take_app3 _ _ _).trans (wo_row R i _ hwr))
theorem Next_c {s : SS} {l : List OP} (h : isS s l) (R : List OP) (hR : R.length ≤ 1000000) : Cv 26 [rmv R, stv s] (.tup [rmv (nextR l R), opv (nextO l R), bv (decide (0 ≤ nextIx l R))]) := by
  refine Ct.of_wv Tryd.f26 Tryd.func26 rfl rfl fun w H B g0 => ?_
  try refine WJ.cut ?_
  (first | refine Sq.go ?_ | refine vL_nil (Sq.go ?_) | skip)
  try refine WJ.cut ?_
  refine WJ.loopK (V := Nat) (fun i => [(15, iv i)]) (fun _ => []) [] (fun i => R.length - i) (fun i => i ≤ R.length ∧ ∀ x, x ∈ R.take i → wrongO l x = 6) 0 ⟨by omega, fun x hx => by simp at hx⟩ (by repeat' (first | exact trivial | exact rfl | refine And.intro ?_ ?_)) (by repeat' (first | exact trivial | exact rfl | refine And.intro ?_ ?_)) ?_
  rintro i ⟨hi, hb⟩
  refine Spl.of (fun h1 => ?_) (fun h1 => ?_)
  · have hlt : i < R.length := by have := of_decide_eq_true h1; simp at this; omega
    have hx : R[i]? = some R[i] := by simp
    generalize R[i] = x at hx
    have hap := Apply_c h x
    (repeat (first | refine Spl.t rfl ?_ | refine Spl.f rfl ?_))
    refine IdxP.of (opD x) (by omega) (by simp [hx]) ?_
    (first | refine Sq.go ?_ | refine vL_nil (Sq.go ?_) | skip)
    try refine WJ.cut ?_
    refine OpJ.callV hap (fun _ _ => rfl) rfl rfl rfl ?_
    (first | refine Sq.go ?_ | refine vL_nil (Sq.go ?_) | skip)
    try refine WJ.cut ?_
    refine Spl.of (fun h2 => ?_) (fun h2 => ?_)
    · have h2 : wrongO l x ≠ 6 := by simpa using h2
      have hix := nextIx_at l R i x hx hb h2
      (repeat (first | refine Spl.t rfl ?_ | refine Spl.f rfl ?_))
      refine RegP.mixF 12 rfl (by decide +kernel) ?_
      refine Req.of ⟨by omega, by omega, by rw [List.length_map]; omega, rfl⟩ ?_
      have hwr : IntKind.i64.wrap ((i : Int) + 1) = i + 1 := wrap_id _ (by omega) (by omega)
      refine Req.of ⟨by rw [hwr]; omega, by rw [hwr, List.length_map]; omega, by rw [List.length_map]; omega⟩ ?_
      refine QuietP.of (QJ.appG rfl (.full _ _) (FlatQ.data rfl rfl) rfl (Nat.le_trans (Nat.le_trans (Nat.add_le_add_right (Nat.le_add_left _ 0) _) (wo_len R hR i _)) (by decide))) ?_
      (repeat' (first | exact trivial | refine And.intro ?_ ?_))
      all_goals (refine .out (by simp) ?_; refine FinP.open rfl ?_; rw [nextR_at hix, nextO_at hix hx, hix, decide_eq_true (Int.natCast_nonneg i)])
      all_goals exact congrArg (fun r => AV.tup [.agg [.d (.sl 6 r)], opv x, bv true]) (wo_row R i _ hwr)
    · have h2 : wrongO l x = 6 := by simpa using h2
      (repeat (first | refine Spl.t rfl ?_ | refine Spl.f rfl ?_))
      (first | refine Sq.go ?_ | refine vL_nil (Sq.go ?_) | skip)
      try refine WJ.cut ?_
      exact ⟨i + 1, ⟨by omega, six_snoc hx hb h2⟩, by omega, ⟨some_iv (wrap_id _ (by omega) (by omega)), trivial⟩, (by repeat' (first | exact trivial | exact rfl | refine And.intro ?_ ?_)), (by repeat' (first | exact trivial | exact rfl | refine And.intro ?_ ?_)), (by repeat' (first | exact trivial | exact rfl | refine And.intro ?_ ?_))⟩
  · have h1 := of_decide_eq_false h1
    simp at h1
    rw [List.take_of_length_le (by omega)] at hb
    have hix := nextIx_none l R hb
    (repeat (first | refine Spl.t rfl ?_ | refine Spl.f rfl ?_))
    (first | refine Sq.go ?_ | refine vL_nil (Sq.go ?_) | skip)
    try refine vc_sound _ _ _ _ ?_
    refine FinP.open rfl ?_
    unfold nextR nextO
    rw [hix]; rfl
end Go.Proofs.E
end
section
open Go Go.Gv
attribute [local irreducible] Go.Gv.WJ Go.Gv.OpJ Go.Gv.QJ Go.Gv.Spl Go.Gv.Req Go.Gv.IdxP Go.Gv.RegP Go.Gv.FinP Go.Gv.CellP Go.Gv.CellsP Go.Gv.ArrP Go.Gv.ArrsP Go.Gv.DropP Go.Gv.ByteP Go.Gv.StoreP
set_option maxRecDepth 100000
namespace Go.Proofs.E
attribute [local irreducible] elems
theorem Is7_c (R : List OP) (hR : R.length ≤ 1000000) : Cv 31 [rmv R, .d (.sl 6 (R.map opD))] (bv true) := by
  refine Ct.of_wv Tryd.f31 Tryd.func31 rfl rfl fun w H B g0 => ?_
  try refine WJ.cut ?_
  (first | refine Sq.go ?_ | refine vL_nil (Sq.go ?_) | skip)
  try refine WJ.cut ?_
  refine OpJ.callV (RAll_c R hR) (fun _ _ => rfl) rfl rfl rfl ?_
  (first | refine Sq.go ?_ | refine vL_nil (Sq.go ?_) | skip)
  try refine WJ.cut ?_
  refine Spl.f (by simp) ?_
  (repeat (first | refine Spl.t rfl ?_ | refine Spl.f rfl ?_))
  refine OpJ.callV (RLen_c R) (fun _ _ => rfl) rfl rfl rfl ?_
  (repeat (first | refine Spl.t rfl ?_ | refine Spl.f rfl ?_))
  refine Spl.f (by simp) ?_
  (repeat (first | refine Spl.t rfl ?_ | refine Spl.f rfl ?_))
  refine OpJ.callV (Top_c R hR) (fun _ _ => rfl) rfl rfl rfl ?_
  (repeat (first | refine Spl.t rfl ?_ | refine Spl.f rfl ?_))
  refine OpJ.callV (RTop_c R hR) (fun _ _ => rfl) rfl rfl rfl ?_
  (repeat (first | refine Spl.t rfl ?_ | refine Spl.f rfl ?_))
  refine Spl.f (by simp) ?_
  (repeat (first | refine Spl.t rfl ?_ | refine Spl.f rfl ?_))
  (first | refine Sq.go ?_ | refine vL_nil (Sq.go ?_) | skip)
  try refine WJ.cut ?_
  refine WJ.loopK (V := Nat) (fun i => [(30, iv i)]) (fun _ => []) [] (fun i => R.length - i) (fun i => i ≤ R.length) 0 (by omega) (by repeat' (first | exact trivial | exact rfl | refine And.intro ?_ ?_)) (by repeat' (first | exact trivial | exact rfl | refine And.intro ?_ ?_)) ?_
  intro i hi
  refine Spl.of (fun h1 => ?_) (fun h1 => ?_)
  · have hlt : i < R.length := by have := of_decide_eq_true h1; simp at this; omega
    have hx : R[i]? = some R[i] := by simp
    generalize R[i] = x at hx
    (repeat (first | refine Spl.t rfl ?_ | refine Spl.f rfl ?_))
    refine RegP.of rfl (by decide +kernel) ?_
    refine IdxP.of (opD x) (by omega) (by simp [hx]) ?_
    refine QuietP.of (QJ.call (Of5_c x) (fun _ _ => rfl) rfl rfl) ?_
    refine IdxP.of (opD x) (by omega) (by simp [hx]) ?_
    refine QuietP.of (O.neT 4 rfl rfl rfl rfl rfl eqRO_ok eqRO_g (eqRO x x)) ?_
    refine Spl.f (by simp) ?_
    (repeat (first | refine Spl.t rfl ?_ | refine Spl.f rfl ?_))
    exact ⟨i + 1, by omega, by omega, ⟨some_iv (wrap_id _ (by omega) (by omega)), trivial⟩, (by repeat' (first | exact trivial | exact rfl | refine And.intro ?_ ?_)), (by repeat' (first | exact trivial | exact rfl | refine And.intro ?_ ?_)), (by repeat' (first | exact trivial | exact rfl | refine And.intro ?_ ?_))⟩
  · (repeat (first | refine Spl.t rfl ?_ | refine Spl.f rfl ?_))
    (first | refine Sq.go ?_ | refine vL_nil (Sq.go ?_) | skip)
    try refine vc_sound _ _ _ _ ?_
    exact FinP.open rfl rfl
end Go.Proofs.E
end
section
open Go Go.Gv
attribute [local irreducible] Go.Gv.WJ Go.Gv.OpJ Go.Gv.QJ Go.Gv.Spl Go.Gv.Req Go.Gv.IdxP Go.Gv.RegP Go.Gv.FinP Go.Gv.CellP Go.Gv.CellsP Go.Gv.ArrP Go.Gv.ArrsP Go.Gv.DropP Go.Gv.ByteP Go.Gv.StoreP
set_option maxRecDepth 100000
namespace Go.Proofs.E
attribute [local irreducible] elems
theorem nilRoom {γ : Ids} {H : HF} {u : Value} (r : Rep γ H (.agg [.d (.v (.slice none 0 0))]) u) : Rep γ H (rmv []) u := rep_agg_set (j := 0) r rfl fun _ h => nil_sl 6 h
theorem AddN_c (o : OP) : Cv 29 [.agg [.d (.v (.slice none 0 0))], opv o] (.tup [rmv (addR [] o), iv (addE [] o)]) := by
  refine Ct.view (Add_c [] o (by decide)) rfl fun j a b ha hb γ H u r => ?_
  match j, ha, hb with
  | 0, ha, hb => cases ha; cases hb; exact nilRoom r
  | 1, ha, hb => cases ha; cases hb; exact r
def aw7 : OP := ⟨0, ⟨2, 1⟩, ⟨1, 1⟩, 98⟩
theorem Awake7_c : Cv 25 [] (bv true) := by
  have hadd := AddN_c aw7
  rw [show addR [] aw7 = [aw7] by decide +kernel, show addE [] aw7 = 0 by decide +kernel] at hadd
  have hnx := Next_c isS_nil [aw7] (by decide)
  rw [show nextR [] [aw7] = [aw7] by decide +kernel, show nextO [] [aw7] = OP0 by decide +kernel, show decide (0 ≤ nextIx [] [aw7]) = false by decide +kernel] at hnx
  have hln := RLen_c [aw7]
  have htp := Top_c [aw7] (by decide)
  rw [show topR [aw7] = 2 by decide +kernel] at htp
  refine Ct.of_wv Tryd.f25 Tryd.func25 rfl rfl fun w H B g0 => ?_
  try refine WJ.cut ?_
  (first | refine Sq.go ?_ | refine vL_nil (Sq.go ?_) | skip)
  try refine WJ.cut ?_
  refine OpJ.callV hadd (fun _ _ => rfl) rfl rfl rfl ?_
  (first | refine Sq.go ?_ | refine vL_nil (Sq.go ?_) | skip)
  try refine WJ.cut ?_
  refine OpJ.callV hnx (fun _ _ => rfl) rfl rfl rfl ?_
  (first | refine Sq.go ?_ | refine vL_nil (Sq.go ?_) | skip)
  try refine WJ.cut ?_
  refine OpJ.callV Awake6_c (fun _ _ => rfl) rfl rfl rfl ?_
  (repeat (first | refine Spl.t rfl ?_ | refine Spl.f rfl ?_))
  refine OpJ.callV hln (fun _ _ => rfl) rfl rfl rfl ?_
  (repeat (first | refine Spl.t rfl ?_ | refine Spl.f rfl ?_))
  refine OpJ.callV htp (fun _ _ => rfl) rfl rfl rfl ?_
  (repeat (first | refine Spl.t rfl ?_ | refine Spl.f rfl ?_))
  (first | refine Sq.go ?_ | refine vL_nil (Sq.go ?_) | skip)
  try refine vc_sound _ _ _ _ ?_
  exact FinP.open rfl rfl
end Go.Proofs.E
end
section
open Go Go.Gv
attribute [local irreducible] Go.Gv.WJ Go.Gv.OpJ Go.Gv.QJ Go.Gv.Spl Go.Gv.Req Go.Gv.IdxP Go.Gv.RegP Go.Gv.FinP Go.Gv.CellP Go.Gv.CellsP Go.Gv.ArrP Go.Gv.ArrsP Go.Gv.DropP Go.Gv.ByteP Go.Gv.StoreP
set_option maxRecDepth 100000
namespace Go.Proofs.E
attribute [local irreducible] elems
abbrev boD (b : Bool) : List D := [.v (.bool b)]
theorem add_len (R : List OP) (o : OP) : (addR R o).length ≤ R.length + 1 := by unfold addR; split <;> simp
theorem boRow (cs : List D) (h : (Ty.bool).ok cs) : ∃ x : Bool, cs = boD x ∧ True := by
  obtain ⟨b, rfl⟩ := h
  exact ⟨b, rfl, trivial⟩
set_option maxHeartbeats 1000000 in
theorem PendPlays_c (ws ds : List OP) (bs : List Bool) : Cv 6 [.d (.sl 6 (ws.map opD)), .d (.sl 6 (ds.map opD)), .d (.sl 1 (bs.map boD))] (bv true) := by
  refine Ct.of_wv Tryd.f6 Tryd.func6 rfl rfl fun w H B g0 => ?_
  try refine WJ.cut ?_
  (first | refine Sq.go ?_ | refine vL_nil (Sq.go ?_) | skip)
  try refine WJ.cut ?_
  refine Spl.of (fun g1 => ?_) (fun g1 => ?_)
  · ((repeat (first | refine Spl.t rfl ?_ | refine Spl.f rfl ?_)); refine OpJ.callV Awake7_c (fun _ _ => rfl) rfl rfl rfl ?_; (repeat (first | refine Spl.t rfl ?_ | refine Spl.f rfl ?_)); refine .out (by simp) ?_; exact FinP.open rfl rfl)
  have hw : ws.length ≤ 40 := by have := of_decide_eq_false g1; simp at this; omega
  (repeat (first | refine Spl.t rfl ?_ | refine Spl.f rfl ?_))
  refine Spl.of (fun g2 => ?_) (fun g2 => ?_)
  · ((repeat (first | refine Spl.t rfl ?_ | refine Spl.f rfl ?_)); refine OpJ.callV Awake7_c (fun _ _ => rfl) rfl rfl rfl ?_; (repeat (first | refine Spl.t rfl ?_ | refine Spl.f rfl ?_)); refine .out (by simp) ?_; exact FinP.open rfl rfl)
  have hd : ds.length ≤ 30 := by have := of_decide_eq_false g2; simp at this; omega
  (repeat (first | refine Spl.t rfl ?_ | refine Spl.f rfl ?_))
  refine Spl.of (fun g3 => ?_) (fun g3 => ?_)
  · ((repeat (first | refine Spl.t rfl ?_ | refine Spl.f rfl ?_)); refine OpJ.callV Awake7_c (fun _ _ => rfl) rfl rfl rfl ?_; (repeat (first | refine Spl.t rfl ?_ | refine Spl.f rfl ?_)); refine .out (by simp) ?_; exact FinP.open rfl rfl)
  (repeat (first | refine Spl.t rfl ?_ | refine Spl.f rfl ?_))
  (first | refine Sq.go ?_ | refine vL_nil (Sq.go ?_) | skip)
  try refine WJ.cut ?_
  (first | refine Sq.go ?_ | refine vL_nil (Sq.go ?_) | skip)
  try refine WJ.cut ?_
  (first | refine Sq.go ?_ | refine vL_nil (Sq.go ?_) | skip)
  try refine WJ.cut ?_
  refine WJ.shift (SJ.nilArr 1000 8 6 rfl rfl) ?_
  refine WJ.loopK (V := Nat × SS × List OP) (fun v => [(42, iv v.1), (8, .arr 1000 6 v.2.2.length)]) (fun v => [(7, .cells [.d v.2.1.t.d, .d v.2.1.p.d, iv v.2.1.n]), (1000, .arr 6 (v.2.2.map opD))]) [7, 1000] (fun v => ds.length - v.1) (fun v => v.1 ≤ ds.length ∧ isS v.2.1 v.2.2 ∧ v.2.2.length ≤ v.1) (0, ⟨.nil, .nil, 0⟩, []) ⟨by simp, isS_nil, by simp⟩ (by repeat' (first | exact trivial | exact rfl | refine And.intro ?_ ?_)) (by repeat' (first | exact trivial | exact rfl | refine And.intro ?_ ?_)) ?_
  rintro ⟨i, s, m⟩ ⟨hi, hs, hm⟩
  simp only at hi hs hm
  refine Spl.of (fun h1 => ?_) (fun h1 => ?_)
  · have hlt : i < ds.length := by have := of_decide_eq_true h1; simp at this; omega
    have hx : ds[i]? = some ds[i] := by simp
    generalize ds[i] = x at hx
    have hap := Apply_c hs x
    have his := appS_is hs x
    have hrw := RWrong_c m x (by omega)
    (repeat (first | refine Spl.t rfl ?_ | refine Spl.f rfl ?_))
    refine IdxP.of (opD x) (by omega) (by simp [hx]) ?_
    refine OpJ.callV hap (fun _ _ => rfl) rfl rfl rfl ?_
    (repeat (first | refine Spl.t rfl ?_ | refine Spl.f rfl ?_))
    refine Spl.of (fun h2 => ?_) (fun h2 => ?_)
    · have hw0 : wrongO m x = 0 := of_decide_eq_true h2
      have hal : appL m x = m ++ [x] := by unfold appL; rw [if_pos hw0]
      rw [hal] at his
      have hmm : (m ++ [x]).map opD = m.map opD ++ [opD x] := by rw [List.map_append]; rfl
      (repeat (first | refine Spl.t rfl ?_ | refine Spl.f rfl ?_))
      refine OpJ.callV (Of5_c x) (fun _ _ => rfl) rfl rfl rfl ?_
      (repeat (first | refine Spl.t rfl ?_ | refine Spl.f rfl ?_))
      refine OpJ.qu (QJ.callB hrw (fun _ _ => rfl) rfl ⟨.arr 1000 6 m.length (m.map opD) rfl (by simp) (by omega), .same _ rfl, trivial⟩ rfl) rfl ?_
      (repeat (first | refine Spl.t rfl ?_ | refine Spl.f rfl ?_))
      refine Spl.t (by rw [hw0]; rfl) ?_
      (repeat (first | refine Spl.t rfl ?_ | refine Spl.f rfl ?_))
      refine OpJ.callV (Of5_c x) (fun _ _ => rfl) rfl rfl rfl ?_
      (repeat (first | refine Spl.t rfl ?_ | refine Spl.f rfl ?_))
      refine Req.of ⟨by simp, (show m.length + 1 ≤ 1000000000 by omega)⟩ ?_
      (repeat (first | refine Spl.t rfl ?_ | refine Spl.f rfl ?_))
      exact ⟨(i + 1, appS s m x, m ++ [x]), ⟨by simp only; omega, his, by simp; omega⟩, by simp only; omega, ⟨some_iv (wrap_id _ (by omega) (by omega)), some_arr (by simp; rfl), trivial⟩, (by repeat' (first | exact trivial | exact rfl | refine And.intro ?_ ?_)), ⟨rfl, some_ear hmm.symm, trivial⟩, (by repeat' (first | exact trivial | exact rfl | refine And.intro ?_ ?_))⟩
    · have hw0 : ¬ wrongO m x = 0 := of_decide_eq_false h2
      (repeat (first | refine Spl.t rfl ?_ | refine Spl.f rfl ?_))
      refine OpJ.callV (Of5_c x) (fun _ _ => rfl) rfl rfl rfl ?_
      (repeat (first | refine Spl.t rfl ?_ | refine Spl.f rfl ?_))
      refine OpJ.qu (QJ.callB hrw (fun _ _ => rfl) rfl ⟨.arr 1000 6 m.length (m.map opD) rfl (by simp) (by omega), .same _ rfl, trivial⟩ rfl) rfl ?_
      (repeat (first | refine Spl.t rfl ?_ | refine Spl.f rfl ?_))
      refine Spl.f (decide_eq_false hw0) ?_
      (repeat (first | refine Spl.t rfl ?_ | refine Spl.f rfl ?_))
      exact ⟨(i + 1, s, m), ⟨by simp only; omega, hs, by simp only; omega⟩, by simp only; omega, ⟨some_iv (wrap_id _ (by omega) (by omega)), rfl, trivial⟩, (by repeat' (first | exact trivial | exact rfl | refine And.intro ?_ ?_)), ⟨rfl, rfl, trivial⟩, (by repeat' (first | exact trivial | exact rfl | refine And.intro ?_ ?_))⟩
  have hm30 : m.length ≤ 30 := by omega
  (repeat (first | refine Spl.t rfl ?_ | refine Spl.f rfl ?_))
  (first | refine Sq.go ?_ | refine vL_nil (Sq.go ?_) | skip)
  try refine WJ.cut ?_
  (first | refine Sq.go ?_ | refine vL_nil (Sq.go ?_) | skip)
  try refine WJ.cut ?_
  (first | refine Sq.go ?_ | refine vL_nil (Sq.go ?_) | skip)
  try refine WJ.cut ?_
  refine WJ.shift (SJ.nilD 15 6 rfl) ?_
  refine WJ.shift (SJ.viewCell 14 0 rfl rfl fun _ _ _ h => nil_sl 6 h) ?_
  refine WJ.loopK (V := Nat × List OP) (fun v => [(69, iv v.1), (15, .d (.sl 6 (v.2.map opD)))]) (fun v => [(14, .cells [.d (.sl 6 (v.2.map opD))])]) [14] (fun v => ws.length - v.1) (fun v => v.1 ≤ ws.length ∧ v.2.length ≤ v.1) (0, []) ⟨by simp, by simp⟩ (by repeat' (first | exact trivial | exact rfl | refine And.intro ?_ ?_)) (by repeat' (first | exact trivial | exact rfl | refine And.intro ?_ ?_)) ?_
  rintro ⟨j, R⟩ ⟨hj, hR⟩
  simp only at hj hR
  refine Spl.of (fun h3 => ?_) (fun h3 => ?_)
  · have hlt : j < ws.length := by have := of_decide_eq_true h3; simp at this; omega
    have hx : ws[j]? = some ws[j] := by simp
    generalize ws[j] = x at hx
    (repeat (first | refine Spl.t rfl ?_ | refine Spl.f rfl ?_))
    refine IdxP.of (opD x) (by omega) (by simp [hx]) ?_
    (repeat (first | refine Spl.t rfl ?_ | refine Spl.f rfl ?_))
    refine Spl.of (fun h4 => ?_) (fun h4 => ?_)
    · have hb : j < bs.length := by have := of_decide_eq_true h4; simp at this; omega
      have hbx : bs[j]? = some bs[j] := by simp
      generalize bs[j] = b at hbx
      (repeat (first | refine Spl.t rfl ?_ | refine Spl.f rfl ?_))
      refine IdxP.of (boD b) (by omega) (by simp [hbx]) ?_
      (repeat (first | refine Spl.t rfl ?_ | refine Spl.f rfl ?_))
      refine Spl.of (fun h5 => ?_) (fun h5 => ?_)
      · have hnx := Next_c hs R (by omega)
        have hrn := RNext_c m R (by omega) (by omega)
        have hlt' := nextIx_lt m R
        by_cases hn : nextIx m R < 0
        · have e1 : nextIx m R = -1 := by omega
          have e2 : nextR m R = R := by unfold nextR; rw [if_pos hn]
          have e3 : nextO m R = OP0 := by unfold nextO; rw [if_pos hn]
          rw [e1, e2, e3, show decide ((0 : Int) ≤ -1) = false from rfl] at hnx
          rw [e1] at hrn
          (repeat (first | refine Spl.t rfl ?_ | refine Spl.f rfl ?_))
          refine OpJ.callV hnx (fun _ _ => rfl) rfl rfl rfl ?_
          (repeat (first | refine Spl.t rfl ?_ | refine Spl.f rfl ?_))
          refine OpJ.qu (QJ.callB hrn (fun _ _ => rfl) rfl ⟨.same _ rfl, .arr 1000 6 m.length (m.map opD) rfl (by simp) (by omega), trivial⟩ rfl) rfl ?_
          (repeat (first | refine Spl.t rfl ?_ | refine Spl.f rfl ?_))
          refine RegP.of rfl (by decide +kernel) ?_
          (repeat (first | refine Spl.t rfl ?_ | refine Spl.f rfl ?_))
          refine QuietP.of (O.neT 4 rfl rfl rfl rfl rfl eqO_ok eqO_g (eqO OP0 OP0)) ?_
          refine Spl.f (by simp) ?_
          (repeat (first | refine Spl.t rfl ?_ | refine Spl.f rfl ?_))
          (refine OpJ.callV (Add_c (R) x (by omega)) (fun _ _ => rfl) rfl rfl rfl ?_; (repeat (first | refine Spl.t rfl ?_ | refine Spl.f rfl ?_)); refine OpJ.callV (Of5_c x) (fun _ _ => rfl) rfl rfl rfl ?_; (repeat (first | refine Spl.t rfl ?_ | refine Spl.f rfl ?_)); refine OpJ.callV (RAdd_c (R) x (by omega)) (fun _ _ => rfl) rfl rfl rfl ?_; (repeat (first | refine Spl.t rfl ?_ | refine Spl.f rfl ?_)); refine Spl.f (by simp) ?_; (repeat (first | refine Spl.t rfl ?_ | refine Spl.f rfl ?_)); refine OpJ.callV (Is7_c (addR (R) x) (by have := add_len (R) x; omega)) (fun _ _ => rfl) rfl rfl rfl ?_; (repeat (first | refine Spl.t rfl ?_ | refine Spl.f rfl ?_)); exact ⟨(j + 1, addR (R) x), ⟨by simp only; omega, by have := add_len (R) x; simp only; omega⟩, by simp only; omega, ⟨some_iv (wrap_id _ (by omega) (by omega)), rfl, trivial⟩, (by repeat' (first | exact trivial | exact rfl | refine And.intro ?_ ?_)), ⟨rfl, trivial⟩, (by repeat' (first | exact trivial | exact rfl | refine And.intro ?_ ?_))⟩)
        · obtain ⟨n, e1⟩ : ∃ n : Nat, nextIx m R = n := ⟨(nextIx m R).toNat, by omega⟩
          have hnl : n < R.length := by omega
          have hy : R[n]? = some R[n] := by simp
          rw [nextR_at e1, nextO_at e1 hy, e1, decide_eq_true (Int.natCast_nonneg n)] at hnx
          rw [e1] at hrn
          have hwo := Without_c R n (by omega) hnl
          generalize R[n] = y at hy hnx
          have hwl : (R.take n ++ R.drop (n + 1)).length ≤ R.length := by simp; omega
          generalize R.take n ++ R.drop (n + 1) = Rw at hnx hwo hwl
          (repeat (first | refine Spl.t rfl ?_ | refine Spl.f rfl ?_))
          refine OpJ.callV hnx (fun _ _ => rfl) rfl rfl rfl ?_
          (repeat (first | refine Spl.t rfl ?_ | refine Spl.f rfl ?_))
          refine OpJ.qu (QJ.callB hrn (fun _ _ => rfl) rfl ⟨.same _ rfl, .arr 1000 6 m.length (m.map opD) rfl (by simp) (by omega), trivial⟩ rfl) rfl ?_
          (repeat (first | refine Spl.t rfl ?_ | refine Spl.f rfl ?_))
          refine RegP.of rfl (by decide +kernel) ?_
          refine Spl.f (by simp) ?_
          (repeat (first | refine Spl.t rfl ?_ | refine Spl.f rfl ?_))
          refine QuietP.of (QJ.call (Of5_c y) (fun _ _ => rfl) rfl rfl) ?_
          (repeat (first | refine Spl.t rfl ?_ | refine Spl.f rfl ?_))
          refine IdxP.of (opD y) (by omega) (by simp [hy]) ?_
          (repeat (first | refine Spl.t rfl ?_ | refine Spl.f rfl ?_))
          refine QuietP.of (O.neT 4 rfl rfl rfl rfl rfl eqRO_ok eqRO_g (eqRO y y)) ?_
          refine Spl.f (by simp) ?_
          (repeat (first | refine Spl.t rfl ?_ | refine Spl.f rfl ?_))
          (repeat (first | refine Spl.t rfl ?_ | refine Spl.f rfl ?_ | refine Spl.f (by simp) ?_))
          refine OpJ.callV hwo (fun _ _ => rfl) rfl rfl rfl ?_
          (repeat (first | refine Spl.t rfl ?_ | refine Spl.f rfl ?_))
          (refine OpJ.callV (Add_c (Rw) x (by omega)) (fun _ _ => rfl) rfl rfl rfl ?_; (repeat (first | refine Spl.t rfl ?_ | refine Spl.f rfl ?_)); refine OpJ.callV (Of5_c x) (fun _ _ => rfl) rfl rfl rfl ?_; (repeat (first | refine Spl.t rfl ?_ | refine Spl.f rfl ?_)); refine OpJ.callV (RAdd_c (Rw) x (by omega)) (fun _ _ => rfl) rfl rfl rfl ?_; (repeat (first | refine Spl.t rfl ?_ | refine Spl.f rfl ?_)); refine Spl.f (by simp) ?_; (repeat (first | refine Spl.t rfl ?_ | refine Spl.f rfl ?_)); refine OpJ.callV (Is7_c (addR (Rw) x) (by have := add_len (Rw) x; omega)) (fun _ _ => rfl) rfl rfl rfl ?_; (repeat (first | refine Spl.t rfl ?_ | refine Spl.f rfl ?_)); exact ⟨(j + 1, addR (Rw) x), ⟨by simp only; omega, by have := add_len (Rw) x; simp only; omega⟩, by simp only; omega, ⟨some_iv (wrap_id _ (by omega) (by omega)), rfl, trivial⟩, (by repeat' (first | exact trivial | exact rfl | refine And.intro ?_ ?_)), ⟨rfl, trivial⟩, (by repeat' (first | exact trivial | exact rfl | refine And.intro ?_ ?_))⟩)
      · (repeat (first | refine Spl.t rfl ?_ | refine Spl.f rfl ?_))
        (refine OpJ.callV (Add_c (R) x (by omega)) (fun _ _ => rfl) rfl rfl rfl ?_; (repeat (first | refine Spl.t rfl ?_ | refine Spl.f rfl ?_)); refine OpJ.callV (Of5_c x) (fun _ _ => rfl) rfl rfl rfl ?_; (repeat (first | refine Spl.t rfl ?_ | refine Spl.f rfl ?_)); refine OpJ.callV (RAdd_c (R) x (by omega)) (fun _ _ => rfl) rfl rfl rfl ?_; (repeat (first | refine Spl.t rfl ?_ | refine Spl.f rfl ?_)); refine Spl.f (by simp) ?_; (repeat (first | refine Spl.t rfl ?_ | refine Spl.f rfl ?_)); refine OpJ.callV (Is7_c (addR (R) x) (by have := add_len (R) x; omega)) (fun _ _ => rfl) rfl rfl rfl ?_; (repeat (first | refine Spl.t rfl ?_ | refine Spl.f rfl ?_)); exact ⟨(j + 1, addR (R) x), ⟨by simp only; omega, by have := add_len (R) x; simp only; omega⟩, by simp only; omega, ⟨some_iv (wrap_id _ (by omega) (by omega)), rfl, trivial⟩, (by repeat' (first | exact trivial | exact rfl | refine And.intro ?_ ?_)), ⟨rfl, trivial⟩, (by repeat' (first | exact trivial | exact rfl | refine And.intro ?_ ?_))⟩)
    · (repeat (first | refine Spl.t rfl ?_ | refine Spl.f rfl ?_))
      (refine OpJ.callV (Add_c (R) x (by omega)) (fun _ _ => rfl) rfl rfl rfl ?_; (repeat (first | refine Spl.t rfl ?_ | refine Spl.f rfl ?_)); refine OpJ.callV (Of5_c x) (fun _ _ => rfl) rfl rfl rfl ?_; (repeat (first | refine Spl.t rfl ?_ | refine Spl.f rfl ?_)); refine OpJ.callV (RAdd_c (R) x (by omega)) (fun _ _ => rfl) rfl rfl rfl ?_; (repeat (first | refine Spl.t rfl ?_ | refine Spl.f rfl ?_)); refine Spl.f (by simp) ?_; (repeat (first | refine Spl.t rfl ?_ | refine Spl.f rfl ?_)); refine OpJ.callV (Is7_c (addR (R) x) (by have := add_len (R) x; omega)) (fun _ _ => rfl) rfl rfl rfl ?_; (repeat (first | refine Spl.t rfl ?_ | refine Spl.f rfl ?_)); exact ⟨(j + 1, addR (R) x), ⟨by simp only; omega, by have := add_len (R) x; simp only; omega⟩, by simp only; omega, ⟨some_iv (wrap_id _ (by omega) (by omega)), rfl, trivial⟩, (by repeat' (first | exact trivial | exact rfl | refine And.intro ?_ ?_)), ⟨rfl, trivial⟩, (by repeat' (first | exact trivial | exact rfl | refine And.intro ?_ ?_))⟩)
  · (repeat (first | refine Spl.t rfl ?_ | refine Spl.f rfl ?_))
    (first | refine Sq.go ?_ | refine vL_nil (Sq.go ?_) | skip)
    try refine vc_sound _ _ _ _ ?_
    refine OpJ.callV Awake7_c (fun _ _ => rfl) rfl rfl rfl ?_
    exact FinP.open rfl rfl
end Go.Proofs.E
end
section
open Go Go.Gv
attribute [local irreducible] Go.Gv.WJ Go.Gv.OpJ Go.Gv.QJ Go.Gv.Spl Go.Gv.Req Go.Gv.IdxP Go.Gv.RegP Go.Gv.FinP Go.Gv.CellP Go.Gv.CellsP Go.Gv.ArrP Go.Gv.ArrsP Go.Gv.DropP Go.Gv.ByteP Go.Gv.StoreP
set_option maxRecDepth 100000
namespace Go.Proofs.E
attribute [local irreducible] elems
def okR (R : List OP) : Prop := R.Nodup ∧ R.length ≤ 16
theorem add_zero {R : List OP} {o : OP} (h : addE R o = 0) : dupR R o = false ∧ R.length < 16 := by
  unfold addE at h
  split at h
  · next h1 => exact absurd h h1
  · split at h
    · cases h
    · next h2 =>
      split at h
      · cases h
      · split at h
        · cases h
        · next h4 => exact ⟨by simpa using h2, by omega⟩
theorem add_ok {R : List OP} (h : okR R) (o : OP) : okR (addR R o) := by
  unfold addR
  split
  · next h0 =>
    obtain ⟨h1, h2⟩ := add_zero h0
    refine ⟨List.pairwise_append.2 ⟨h.1, List.pairwise_singleton .., fun a ha b hb e => ?_⟩, by simp; omega⟩
    cases List.mem_singleton.1 hb
    subst e
    obtain ⟨n, hn⟩ := List.mem_iff_getElem?.1 ha
    rw [dup_at hn] at h1; cases h1
  · exact h
theorem nodup_ne {R : List OP} (h : R.Nodup) {i k : Nat} {x y : OP} (hx : R[i]? = some x) (hy : R[k]? = some y) (hk : k < i) : ¬ y = x := fun e => by
  subst e
  have hi : i < R.length := (List.getElem?_eq_some_iff.1 hx).1
  have := (List.pairwise_iff_getElem.1 h) k i (by omega) hi hk
  rw [(List.getElem?_eq_some_iff.1 hx).2, (List.getElem?_eq_some_iff.1 hy).2] at this
  exact this rfl
theorem NextN_c (R : List OP) (hR : R.length ≤ 1000000) : Cv 26 [rmv R, stv ⟨.nil, .nil, 0⟩] (.tup [rmv (nextR [] R), opv (nextO [] R), bv (decide (0 ≤ nextIx [] R))]) := Next_c isS_nil R hR
theorem next_len (l R : List OP) : (nextR l R).length ≤ R.length := by unfold nextR; split <;> simp; omega
set_option maxHeartbeats 1000000 in
theorem PendStays_c (ws ds : List OP) : Cv 7 [.d (.sl 6 (ws.map opD)), .d (.sl 6 (ds.map opD))] (bv true) := by
  refine Ct.of_wv Tryd.f7 Tryd.func7 rfl rfl fun w H B g0 => ?_
  try refine WJ.cut ?_
  (first | refine Sq.go ?_ | refine vL_nil (Sq.go ?_) | skip)
  try refine WJ.cut ?_
  refine Spl.of (fun g1 => ?_) (fun g1 => ?_)
  · ((repeat (first | refine Spl.t rfl ?_ | refine Spl.f rfl ?_)); refine OpJ.callV Awake7_c (fun _ _ => rfl) rfl rfl rfl ?_; (repeat (first | refine Spl.t rfl ?_ | refine Spl.f rfl ?_)); refine .out (by simp) ?_; exact FinP.open rfl rfl)
  have hw : ws.length ≤ 40 := by have := of_decide_eq_false g1; simp at this; omega
  (repeat (first | refine Spl.t rfl ?_ | refine Spl.f rfl ?_))
  refine Spl.of (fun g2 => ?_) (fun g2 => ?_)
  · ((repeat (first | refine Spl.t rfl ?_ | refine Spl.f rfl ?_)); refine OpJ.callV Awake7_c (fun _ _ => rfl) rfl rfl rfl ?_; (repeat (first | refine Spl.t rfl ?_ | refine Spl.f rfl ?_)); refine .out (by simp) ?_; exact FinP.open rfl rfl)
  have hd : ds.length ≤ 40 := by have := of_decide_eq_false g2; simp at this; omega
  (repeat (first | refine Spl.t rfl ?_ | refine Spl.f rfl ?_))
  (first | refine Sq.go ?_ | refine vL_nil (Sq.go ?_) | skip)
  try refine WJ.cut ?_
  (first | refine Sq.go ?_ | refine vL_nil (Sq.go ?_) | skip)
  try refine WJ.cut ?_
  refine WJ.shift (SJ.viewCell 5 0 rfl rfl fun _ _ _ h => nil_sl 6 h) ?_
  refine WJ.loopK (V := Nat × List OP) (fun v => [(34, iv v.1)]) (fun v => [(5, .cells [.d (.sl 6 (v.2.map opD))])]) [5] (fun v => ws.length - v.1) (fun v => v.1 ≤ ws.length ∧ okR v.2) (0, []) ⟨by simp, .nil, by simp⟩ (by repeat' (first | exact trivial | exact rfl | refine And.intro ?_ ?_)) (by repeat' (first | exact trivial | exact rfl | refine And.intro ?_ ?_)) ?_
  rintro ⟨i, R⟩ ⟨hi, hR⟩
  simp only at hi hR
  have hR6 := hR.2
  refine Spl.of (fun h1 => ?_) (fun h1 => ?_)
  · have hlt : i < ws.length := by have := of_decide_eq_true h1; simp at this; omega
    have hx : ws[i]? = some ws[i] := by simp
    generalize ws[i] = x at hx
    (repeat (first | refine Spl.t rfl ?_ | refine Spl.f rfl ?_))
    refine IdxP.of (opD x) (by omega) (by simp [hx]) ?_
    refine OpJ.callV (Add_c R x (by omega)) (fun _ _ => rfl) rfl rfl rfl ?_
    (repeat (first | refine Spl.t rfl ?_ | refine Spl.f rfl ?_))
    exact ⟨(i + 1, addR R x), ⟨by simp only; omega, add_ok hR x⟩, by simp only; omega, ⟨some_iv (wrap_id _ (by omega) (by omega)), trivial⟩, (by repeat' (first | exact trivial | exact rfl | refine And.intro ?_ ?_)), ⟨rfl, trivial⟩, (by repeat' (first | exact trivial | exact rfl | refine And.intro ?_ ?_))⟩
  have hall := RAll_c R (by omega)
  (repeat (first | refine Spl.t rfl ?_ | refine Spl.f rfl ?_))
  (first | refine Sq.go ?_ | refine vL_nil (Sq.go ?_) | skip)
  try refine WJ.cut ?_
  refine OpJ.callV hall (fun _ _ => rfl) rfl rfl rfl ?_
  (first | refine Sq.go ?_ | refine vL_nil (Sq.go ?_) | skip)
  try refine WJ.cut ?_
  refine Spl.f (by simp; omega) ?_
  (repeat (first | refine Spl.t rfl ?_ | refine Spl.f rfl ?_))
  (first | refine Sq.go ?_ | refine vL_nil (Sq.go ?_) | skip)
  try refine WJ.cut ?_
  clear hi h1
  refine WJ.loopK (V := Nat) (fun v => [(52, iv v)]) (fun _ => []) [] (fun v => R.length - v) (fun v => v ≤ R.length) 0 (by omega) (by repeat' (first | exact trivial | exact rfl | refine And.intro ?_ ?_)) (by repeat' (first | exact trivial | exact rfl | refine And.intro ?_ ?_)) ?_
  intro i hi
  refine Spl.of (fun h2 => ?_) (fun h2 => ?_)
  · have hlt : i < R.length := by have := of_decide_eq_true h2; simp at this; omega
    have hx : R[i]? = some R[i] := by simp
    generalize R[i] = x at hx
    (repeat (first | refine Spl.t rfl ?_ | refine Spl.f rfl ?_))
    refine IdxP.of (opD x) (by omega) (by simp [hx]) ?_
    (repeat (first | refine Spl.t rfl ?_ | refine Spl.f rfl ?_))
    refine Req.of ⟨by omega, by omega, by rw [List.length_map]; omega⟩ ?_
    (repeat (first | refine Spl.t rfl ?_ | refine Spl.f rfl ?_))
    refine WJ.loopK (V := Nat) (fun v => [(61, iv v)]) (fun _ => []) [] (fun v => i - v) (fun v => v ≤ i) 0 (by omega) (by repeat' (first | exact trivial | exact rfl | refine And.intro ?_ ?_)) (by repeat' (first | exact trivial | exact rfl | refine And.intro ?_ ?_)) ?_
    intro k hk
    refine Spl.of (fun h3 => ?_) (fun h3 => ?_)
    · have hlk : k < i := by have := of_decide_eq_true h3; simp at this; omega
      have hy : R[k]? = some R[k] := by simp
      generalize R[k]'(by omega) = y at hy
      have hne := nodup_ne hR.1 hx hy hlk
      (repeat (first | refine Spl.t rfl ?_ | refine Spl.f rfl ?_))
      refine IdxP.of (opD y) (by omega) (by simp [hy, hlk]) ?_
      (repeat (first | refine Spl.t rfl ?_ | refine Spl.f rfl ?_))
      refine OpJ.qu (O.eqT 4 rfl rfl rfl rfl rfl eqO_ok eqO_g (eqO y x)) rfl ?_
      refine Spl.f (decide_eq_false hne) ?_
      (repeat (first | refine Spl.t rfl ?_ | refine Spl.f rfl ?_))
      exact ⟨k + 1, by omega, by omega, ⟨some_iv (wrap_id _ (by omega) (by omega)), trivial⟩, (by repeat' (first | exact trivial | exact rfl | refine And.intro ?_ ?_)), (by repeat' (first | exact trivial | exact rfl | refine And.intro ?_ ?_)), (by repeat' (first | exact trivial | exact rfl | refine And.intro ?_ ?_))⟩
    · (repeat (first | refine Spl.t rfl ?_ | refine Spl.f rfl ?_))
      exact ⟨i + 1, by omega, by omega, ⟨some_iv (wrap_id _ (by omega) (by omega)), trivial⟩, (by repeat' (first | exact trivial | exact rfl | refine And.intro ?_ ?_)), (by repeat' (first | exact trivial | exact rfl | refine And.intro ?_ ?_)), (by repeat' (first | exact trivial | exact rfl | refine And.intro ?_ ?_))⟩
  (repeat (first | refine Spl.t rfl ?_ | refine Spl.f rfl ?_))
  (first | refine Sq.go ?_ | refine vL_nil (Sq.go ?_) | skip)
  try refine WJ.cut ?_
  clear hi h2
  refine WJ.loopK (V := Nat) (fun v => [(72, iv v)]) (fun _ => []) [] (fun v => ds.length - v) (fun v => v ≤ ds.length) 0 (by omega) (by repeat' (first | exact trivial | exact rfl | refine And.intro ?_ ?_)) (by repeat' (first | exact trivial | exact rfl | refine And.intro ?_ ?_)) ?_
  intro i hi
  refine Spl.of (fun h3 => ?_) (fun h3 => ?_)
  · have hlt : i < ds.length := by have := of_decide_eq_true h3; simp at this; omega
    have hx : ds[i]? = some ds[i] := by simp
    generalize ds[i] = x at hx
    (repeat (first | refine Spl.t rfl ?_ | refine Spl.f rfl ?_))
    refine IdxP.of (opD x) (by omega) (by simp [hx]) ?_
    refine OpJ.callV (Add_c R x (by omega)) (fun _ _ => rfl) rfl rfl rfl ?_
    (repeat (first | refine Spl.t rfl ?_ | refine Spl.f rfl ?_))
    refine OpJ.callV (NextN_c R (by omega)) (fun _ _ => rfl) rfl rfl rfl ?_
    (repeat (first | refine Spl.t rfl ?_ | refine Spl.f rfl ?_))
    match R, hR6, hall with
    | [], _, hall =>
      refine OpJ.callV hall (fun _ _ => rfl) rfl rfl rfl ?_
      (repeat (first | refine Spl.t rfl ?_ | refine Spl.f rfl ?_))
      exact ⟨i + 1, by omega, by omega, ⟨some_iv (wrap_id _ (by omega) (by omega)), trivial⟩, (by repeat' (first | exact trivial | exact rfl | refine And.intro ?_ ?_)), (by repeat' (first | exact trivial | exact rfl | refine And.intro ?_ ?_)), (by repeat' (first | exact trivial | exact rfl | refine And.intro ?_ ?_))⟩
    | o :: r, hR6, hall =>
      refine OpJ.call (RAllP_c (o :: r) (by omega) (by simp)) (fun _ _ => rfl) rfl rfl (Wk.nil _) ?_
      rintro q σ' ⟨rfl, rfl⟩
      refine ⟨rfl, ?_⟩
      (repeat (first | refine Spl.t rfl ?_ | refine Spl.f rfl ?_))
      refine Spl.t (by simp) ?_
      (repeat (first | refine Spl.t rfl ?_ | refine Spl.f rfl ?_))
      refine Req.of ⟨by omega, by simp⟩ ?_
      (repeat (first | refine Spl.t rfl ?_ | refine Spl.f rfl ?_))
      refine ArrP.of 0 5 (opD o) (.v (.int .i32 o.ch)) rfl rfl rfl ?_
      (repeat (first | refine Spl.t rfl ?_ | refine Spl.f rfl ?_))
      refine Req.of ⟨by omega, by simp⟩ ?_
      (repeat (first | refine Spl.t rfl ?_ | refine Spl.f rfl ?_))
      refine StoreP.of 0 5 (opD o) rfl rfl (show 5 + 1 ≤ 6 by decide) rfl ?_
      (repeat (first | refine Spl.t rfl ?_ | refine Spl.f rfl ?_))
      exact ⟨i + 1, by omega, by omega, ⟨some_iv (wrap_id _ (by omega) (by omega)), trivial⟩, (by repeat' (first | exact trivial | exact rfl | refine And.intro ?_ ?_)), (by repeat' (first | exact trivial | exact rfl | refine And.intro ?_ ?_)), (by repeat' (first | exact trivial | exact rfl | refine And.intro ?_ ?_))⟩
  (repeat (first | refine Spl.t rfl ?_ | refine Spl.f rfl ?_))
  (first | refine Sq.go ?_ | refine vL_nil (Sq.go ?_) | skip)
  try refine WJ.cut ?_
  refine OpJ.callV (NextN_c R (by omega)) (fun _ _ => rfl) rfl rfl rfl ?_
  (first | refine Sq.go ?_ | refine vL_nil (Sq.go ?_) | skip)
  try refine WJ.cut ?_
  clear hi h3
  have hnl := next_len [] R
  generalize nextR [] R = R1 at hnl ⊢
  refine WJ.loopK (V := Nat × List OP) (fun v => [(104, iv v.1)]) (fun v => [(16, .cells [.d (.sl 6 (v.2.map opD))])]) [16] (fun v => ds.length - v.1) (fun v => v.1 ≤ ds.length ∧ v.2.length ≤ 16 + v.1) (0, R1) ⟨by simp, by simp; omega⟩ (by repeat' (first | exact trivial | exact rfl | refine And.intro ?_ ?_)) (by repeat' (first | exact trivial | exact rfl | refine And.intro ?_ ?_)) ?_
  rintro ⟨i, R2⟩ ⟨hi, hR2⟩
  simp only at hi hR2
  refine Spl.of (fun h3 => ?_) (fun h3 => ?_)
  · have hlt : i < ds.length := by have := of_decide_eq_true h3; simp at this; omega
    have hx : ds[i]? = some ds[i] := by simp
    generalize ds[i] = x at hx
    have hal := add_len R2 x
    (repeat (first | refine Spl.t rfl ?_ | refine Spl.f rfl ?_))
    refine IdxP.of (opD x) (by omega) (by simp [hx]) ?_
    refine OpJ.callV (Add_c R2 x (by omega)) (fun _ _ => rfl) rfl rfl rfl ?_
    (repeat (first | refine Spl.t rfl ?_ | refine Spl.f rfl ?_))
    exact ⟨(i + 1, addR R2 x), ⟨by simp only; omega, by simp only; omega⟩, by simp only; omega, ⟨some_iv (wrap_id _ (by omega) (by omega)), trivial⟩, (by repeat' (first | exact trivial | exact rfl | refine And.intro ?_ ?_)), ⟨rfl, trivial⟩, (by repeat' (first | exact trivial | exact rfl | refine And.intro ?_ ?_))⟩
  (repeat (first | refine Spl.t rfl ?_ | refine Spl.f rfl ?_))
  (first | refine Sq.go ?_ | refine vL_nil (Sq.go ?_) | skip)
  try refine WJ.cut ?_
  refine OpJ.callV hall (fun _ _ => rfl) rfl rfl rfl ?_
  (first | refine Sq.go ?_ | refine vL_nil (Sq.go ?_) | skip)
  try refine WJ.cut ?_
  refine Spl.f (by simp) ?_
  (repeat (first | refine Spl.t rfl ?_ | refine Spl.f rfl ?_))
  (first | refine Sq.go ?_ | refine vL_nil (Sq.go ?_) | skip)
  try refine WJ.cut ?_
  clear hi h3
  refine WJ.loopK (V := Nat) (fun v => [(124, iv v)]) (fun _ => []) [] (fun v => R.length - v) (fun v => v ≤ R.length) 0 (by omega) (by repeat' (first | exact trivial | exact rfl | refine And.intro ?_ ?_)) (by repeat' (first | exact trivial | exact rfl | refine And.intro ?_ ?_)) ?_
  intro i hi
  refine Spl.of (fun h3 => ?_) (fun h3 => ?_)
  · have hlt : i < R.length := by have := of_decide_eq_true h3; simp at this; omega
    have hx : R[i]? = some R[i] := by simp
    generalize R[i] = x at hx
    (repeat (first | refine Spl.t rfl ?_ | refine Spl.f rfl ?_))
    refine RegP.of rfl (by decide +kernel) ?_
    refine IdxP.of (opD x) (by omega) (by simp [hx]) ?_
    refine IdxP.of (opD x) (by omega) (by simp [hx]) ?_
    refine QuietP.of (O.neT 4 rfl rfl rfl rfl rfl eqO_ok eqO_g (eqO x x)) ?_
    refine Spl.f (by simp) ?_
    (repeat (first | refine Spl.t rfl ?_ | refine Spl.f rfl ?_))
    exact ⟨i + 1, by omega, by omega, ⟨some_iv (wrap_id _ (by omega) (by omega)), trivial⟩, (by repeat' (first | exact trivial | exact rfl | refine And.intro ?_ ?_)), (by repeat' (first | exact trivial | exact rfl | refine And.intro ?_ ?_)), (by repeat' (first | exact trivial | exact rfl | refine And.intro ?_ ?_))⟩
  · (repeat (first | refine Spl.t rfl ?_ | refine Spl.f rfl ?_))
    (first | refine Sq.go ?_ | refine vL_nil (Sq.go ?_) | skip)
    try refine vc_sound _ _ _ _ ?_
    refine OpJ.callV Awake7_c (fun _ _ => rfl) rfl rfl rfl ?_
    exact FinP.open rfl rfl
end Go.Proofs.E
end
