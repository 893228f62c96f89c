/- An operation's text, read again; the law OpBack. -/
import Derived.Test.YthfemmcodfajaaaDoorE9
set_option linter.unusedVariables false
set_option linter.unusedSimpArgs false
open Go Go.Gv
attribute [local irreducible] Go.Gv.WJ Go.Gv.OpJ Go.Gv.QJ Go.Gv.Spl Go.Gv.Req Go.Gv.IdxP Go.Gv.RegP Go.Gv.FinP Go.Gv.QuietP Go.Gv.CellP Go.Gv.CellsP Go.Gv.ArrP Go.Gv.ArrsP Go.Gv.DropP Go.Gv.ByteP Go.Gv.StoreP
set_option maxRecDepth 100000
namespace Go.Proofs.E
/-! ### Digits in base 16 -/
def digs16 : List UInt8 := [48, 49, 50, 51, 52, 53, 54, 55, 56, 57, 97, 98, 99, 100, 101, 102]
theorem hx_at : ∀ k : Fin 16, Lib.indexByte digs16 (hx k.val) = (k.val : Int) := by decide
theorem hx_ne : ∀ k : Fin 16, hx k.val ≠ 32 ∧ (0 < k.val → hx k.val ≠ 48) := by decide
theorem hexD_mem (n : Nat) : ∀ b, b ∈ hexD n → ∃ k, k < 16 ∧ b = hx k := by
  induction n using Nat.strongRecOn with
  | _ n ih =>
    intro b hb
    rw [hexD] at hb
    split at hb
    · simp at hb; exact ⟨n, by assumption, hb⟩
    · rcases List.mem_append.1 hb with h | h
      · exact ih (n / 16) (by omega) b h
      · simp at h; exact ⟨n % 16, by omega, h⟩
theorem hexD_head (n : Nat) (h : 0 < n) : ∃ b r, hexD n = b :: r ∧ b ≠ 48 := by
  induction n using Nat.strongRecOn with
  | _ n ih =>
    rw [hexD]
    split
    · exact ⟨_, _, rfl, (hx_ne ⟨n, by assumption⟩).2 h⟩
    · obtain ⟨b, r, hb, hn⟩ := ih (n / 16) (by omega) (by omega)
      rw [hb]; exact ⟨b, _, rfl, hn⟩
def dg (b : UInt8) : Nat := (Lib.indexByte digs16 b).toNat
theorem dg_hx (k : Nat) (h : k < 16) : dg (hx k) = k := by unfold dg; rw [hx_at ⟨k, h⟩]; simp
def valH (l : List UInt8) : Nat := l.foldl (fun a b => 16 * a + dg b) 0
theorem valH_snoc (l : List UInt8) (b : UInt8) : valH (l ++ [b]) = 16 * valH l + dg b := by simp [valH]
theorem hexD_val (n : Nat) : valH (hexD n) = n := by
  induction n using Nat.strongRecOn with
  | _ n ih =>
    rw [hexD]
    split
    · next h => simp [valH, dg_hx n h]
    · rw [valH_snoc, ih (n / 16) (by omega), dg_hx _ (by omega)]; omega
theorem foldH_lt : ∀ (l : List UInt8) (a : Nat), (∀ b, b ∈ l → dg b < 16) → l.foldl (fun a b => 16 * a + dg b) a < (a + 1) * 16 ^ l.length
  | [], a, _ => by simp
  | b :: r, a, h => by
    have h1 := foldH_lt r (16 * a + dg b) fun c hc => h c (by simp [hc])
    have h2 := h b (by simp)
    rw [List.foldl_cons, List.length_cons, Nat.pow_succ]
    refine Nat.lt_of_lt_of_le h1 ?_
    rw [Nat.mul_comm (16 ^ r.length) 16, ← Nat.mul_assoc]
    exact Nat.mul_le_mul_right _ (by omega)
theorem valH_lt (l : List UInt8) (h : ∀ b, b ∈ l → dg b < 16) : valH l < 16 ^ l.length := by simpa [valH] using foldH_lt l 0 h
theorem wrap_i32 (x : Int) (h : 0 ≤ x) (h' : x ≤ 2147483647) : IntKind.i32.wrap x = x := by
  simp only [IntKind.wrap, IntKind.signed, IntKind.bits]; simp; omega
theorem hex_c (n : Nat) (h0 : 0 < n) (hn : n ≤ 1114111) : Cv 64 [sv (hexD n)] (.tup [cv n, bv true]) := by
  obtain ⟨b0, r0, hb0, hb1⟩ := hexD_head n h0
  have hlen := hexD_len n 6 (by omega) (by omega)
  have hmem := hexD_mem n
  have hv := hexD_val n
  generalize hexD n = l at *
  have hdg : ∀ b, b ∈ l → Lib.indexByte digs16 b = (dg b : Int) ∧ dg b < 16 := fun b hb => by
    obtain ⟨k, hk, rfl⟩ := hmem b hb
    rw [dg_hx k hk]; exact ⟨hx_at ⟨k, hk⟩, hk⟩
  have hne : l ≠ [] := by rw [hb0]; simp
  have hstep : ∀ i, (h : i < l.length) → valH (l.take (i + 1)) = 16 * valH (l.take i) + dg l[i] := fun i h => by rw [take_succ h, valH_snoc]
  have hsmall : ∀ i, valH (l.take i) < 16 ^ 6 := fun i => by
    have h1 := valH_lt (l.take i) fun b h => (hdg b (List.mem_of_mem_take h)).2
    exact Nat.lt_of_lt_of_le h1 (Nat.pow_le_pow_right (by decide) (by simp; omega))
  refine Ct.of_vc Tryd.f64 Tryd.func64 rfl rfl fun w H B g0 => ?_
  refine Spl.f (by simp [hne]) ?_
  (repeat (first | refine Spl.t rfl ?_ | refine Spl.f rfl ?_))
  refine Spl.of (fun h1 => ?_) (fun h1 => ?_)
  · (repeat (first | refine Spl.t rfl ?_ | refine Spl.f rfl ?_))
    refine ByteP.of b0 (by decide) (by rw [hb0]; rfl) ?_
    (repeat (first | refine Spl.t rfl ?_ | refine Spl.f rfl ?_))
    refine Spl.f (decide_eq_false fun e => hb1 (by apply UInt8.toNat_inj.1; simp; omega)) ?_
    (repeat (first | refine Spl.t rfl ?_ | refine Spl.f rfl ?_))
    (refine Spl.f (decide_eq_false (by omega)) ?_; (repeat (first | refine Spl.t rfl ?_ | refine Spl.f rfl ?_)); refine WJ.loopF (V := Nat) (fun v => [(26, iv v), (4, iv (valH (l.take v)))]) (fun _ => []) (fun v => l.length - v) (fun v => v ≤ l.length) 0 (by omega) (by repeat' (first | exact trivial | exact rfl | refine And.intro ?_ ?_)) (by repeat' (first | exact trivial | exact rfl | refine And.intro ?_ ?_)) ?_; intro i hi; refine Spl.of (fun h => ?_) (fun h => ?_))
    · (have hlt : i < l.length := (by have := of_decide_eq_true h; simp at this; omega); have hbi := hdg l[i] (by simp); have hs := hstep i hlt; have h6 := hsmall (i + 1); have h7 := hsmall i; (repeat (first | refine Spl.t rfl ?_ | refine Spl.f rfl ?_)); refine ByteP.of l[i] (by omega) (by simp [hlt]) ?_; refine OpJ.callV (IndexByte_c digs16 l[i]) (fun _ _ => rfl) rfl rfl rfl ?_; refine Spl.f (decide_eq_false (by omega)) ?_; (repeat (first | refine Spl.t rfl ?_ | refine Spl.f rfl ?_)); exact ⟨i + 1, by omega, by omega, ⟨some_iv (wrap_id _ (by omega) (by omega)), some_iv (by rw [hbi.1, wrap_id (16 * ((valH (l.take i) : Nat) : Int)) (by omega) (by omega), wrap_id _ (by omega) (by omega)]; omega), trivial⟩, (by repeat' (first | exact trivial | exact rfl | refine And.intro ?_ ?_)), (by repeat' (first | exact trivial | exact rfl | refine And.intro ?_ ?_))⟩)
    · (have he : i = l.length := (by have := of_decide_eq_false h; simp at this; omega); (repeat (first | refine Spl.t rfl ?_ | refine Spl.f rfl ?_)); refine FinP.open rfl ?_; show AV.tup [cv (IntKind.i32.wrap (valH (l.take i))), _] = _; rw [he, List.take_length, hv, wrap_i32 _ (by omega) (by omega)]; rfl)
  · (repeat (first | refine Spl.t rfl ?_ | refine Spl.f rfl ?_))
    (refine Spl.f (decide_eq_false (by omega)) ?_; (repeat (first | refine Spl.t rfl ?_ | refine Spl.f rfl ?_)); refine WJ.loopF (V := Nat) (fun v => [(26, iv v), (4, iv (valH (l.take v)))]) (fun _ => []) (fun v => l.length - v) (fun v => v ≤ l.length) 0 (by omega) (by repeat' (first | exact trivial | exact rfl | refine And.intro ?_ ?_)) (by repeat' (first | exact trivial | exact rfl | refine And.intro ?_ ?_)) ?_; intro i hi; refine Spl.of (fun h => ?_) (fun h => ?_))
    · (have hlt : i < l.length := (by have := of_decide_eq_true h; simp at this; omega); have hbi := hdg l[i] (by simp); have hs := hstep i hlt; have h6 := hsmall (i + 1); have h7 := hsmall i; (repeat (first | refine Spl.t rfl ?_ | refine Spl.f rfl ?_)); refine ByteP.of l[i] (by omega) (by simp [hlt]) ?_; refine OpJ.callV (IndexByte_c digs16 l[i]) (fun _ _ => rfl) rfl rfl rfl ?_; refine Spl.f (decide_eq_false (by omega)) ?_; (repeat (first | refine Spl.t rfl ?_ | refine Spl.f rfl ?_)); exact ⟨i + 1, by omega, by omega, ⟨some_iv (wrap_id _ (by omega) (by omega)), some_iv (by rw [hbi.1, wrap_id (16 * ((valH (l.take i) : Nat) : Int)) (by omega) (by omega), wrap_id _ (by omega) (by omega)]; omega), trivial⟩, (by repeat' (first | exact trivial | exact rfl | refine And.intro ?_ ?_)), (by repeat' (first | exact trivial | exact rfl | refine And.intro ?_ ?_))⟩)
    · (have he : i = l.length := (by have := of_decide_eq_false h; simp at this; omega); (repeat (first | refine Spl.t rfl ?_ | refine Spl.f rfl ?_)); refine FinP.open rfl ?_; show AV.tup [cv (IntKind.i32.wrap (valH (l.take i))), _] = _; rw [he, List.take_length, hv, wrap_i32 _ (by omega) (by omega)]; rfl)
end Go.Proofs.E
