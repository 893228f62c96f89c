/- Whole numbers in double precision: exact up to 2^53. -/
import Derived.CallsIn
set_option linter.unusedVariables false
set_option linter.unusedSimpArgs false
namespace Go.Gv.Fl
open Ieee
set_option exponentiation.threshold 2000
/-- A whole number's word. -/
def fl (z : Int) : Nat := double.write (.number (decide (z < 0)) z.natAbs 0)

theorem log2_lt {n k : Nat} (h0 : n ≠ 0) (h : n < 2 ^ k) : n.log2 < k := (Nat.log2_lt h0).2 h
theorem log2_mul (n k : Nat) (h : n ≠ 0) : (n * 2 ^ k).log2 = n.log2 + k := by
  induction k with
  | zero => simp
  | succ k ih =>
    rw [Nat.pow_succ, ← Nat.mul_assoc, Nat.mul_comm (n * 2 ^ k) 2, Nat.log2_two_mul (Nat.mul_ne_zero h (Nat.ne_of_gt (Nat.two_pow_pos k))), ih]; omega

theorem least : double.leastPlace = -1074 := by decide
theorem binade : double.binade = 2 ^ 52 := rfl
theorem sw : double.signWeight = 2 ^ 63 := rfl
theorem inf : double.infRung = 2047 * 2 ^ 52 := by decide
/-- What is written of mag·2^place, if that is a whole number z below 2^53. -/
theorem nearest_int (neg : Bool) (mag z : Nat) (place : Int) (hp : -1074 ≤ place) (hz : 0 < z) (hz' : z < 2 ^ 53) (h : mag * 2 ^ (place + 1074).toNat = z * 2 ^ 1074) :
    double.nearest neg mag place = double.word neg ((1022 + z.log2) * 2 ^ 52 + z * 2 ^ (52 - z.log2)) := by
  have hz0 : z ≠ 0 := by omega
  have hm0 : mag ≠ 0 := fun e => by
    subst e; rw [Nat.zero_mul] at h
    have := Nat.mul_pos hz (Nat.two_pow_pos 1074); omega
  have hl : z.log2 ≤ 52 := by have := log2_lt hz0 hz'; omega
  have hlog : mag.log2 + (place + 1074).toNat = z.log2 + 1074 := by
    rw [← log2_mul mag _ hm0, h, log2_mul z _ hz0]
  unfold Format.nearest
  rw [if_neg hm0]
  simp only [least]
  have hlast : max (place + (mag.log2 : Int) - (double.fractionBits : Nat)) (-1074) = ((z.log2 : Nat) : Int) - 52 := by
    have : (double.fractionBits : Int) = 52 := rfl
    omega
  rw [hlast]
  have hkept : Toward.even.cut neg (mag <<< (place - (((z.log2 : Nat) : Int) - 52)).toNat) ((((z.log2 : Nat) : Int) - 52) - place).toNat = z * 2 ^ (52 - z.log2) := by
    by_cases hc : ((z.log2 : Nat) : Int) - 52 ≤ place
    · have e1 : (((z.log2 : Nat) : Int) - 52 - place).toNat = 0 := by omega
      rw [e1]
      have e2 : mag <<< (place - (((z.log2 : Nat) : Int) - 52)).toNat = z * 2 ^ (52 - z.log2) := by
        rw [Nat.shiftLeft_eq]
        have : mag * 2 ^ (place - (((z.log2 : Nat) : Int) - 52)).toNat * 2 ^ (1022 + z.log2) = z * 2 ^ (52 - z.log2) * 2 ^ (1022 + z.log2) := by
          rw [Nat.mul_assoc, ← Nat.pow_add, Nat.mul_assoc, ← Nat.pow_add, show (place - (((z.log2 : Nat) : Int) - 52)).toNat + (1022 + z.log2) = (place + 1074).toNat by omega, show 52 - z.log2 + (1022 + z.log2) = 1074 by omega]
          exact h
        exact Nat.eq_of_mul_eq_mul_right (Nat.two_pow_pos _) this
      rw [e2]
      unfold Toward.cut
      simp [Nat.mod_one]
    · have e1 : (place - (((z.log2 : Nat) : Int) - 52)).toNat = 0 := by omega
      rw [e1, Nat.shiftLeft_zero]
      generalize hd : (((z.log2 : Nat) : Int) - 52 - place).toNat = d
      have hmag : mag = z * 2 ^ (52 - z.log2) * 2 ^ d := by
        have : mag * 2 ^ (place + 1074).toNat = z * 2 ^ (52 - z.log2) * 2 ^ d * 2 ^ (place + 1074).toNat := by
          rw [Nat.mul_assoc, Nat.mul_assoc, ← Nat.pow_add, ← Nat.pow_add, show 52 - z.log2 + (d + (place + 1074).toNat) = 1074 by omega]
          exact h
        exact Nat.eq_of_mul_eq_mul_right (Nat.two_pow_pos _) this
      have hk : d ≤ mag.log2 := by
        rw [hmag, log2_mul _ _ (Nat.mul_ne_zero hz0 (Nat.ne_of_gt (Nat.two_pow_pos _)))]; omega
      unfold Toward.cut
      rw [Nat.min_eq_left (by omega), Nat.one_shiftLeft]
      have hr : mag % 2 ^ d = 0 := by rw [hmag]; exact Nat.mul_mod_left _ _
      have hq : mag / 2 ^ d = z * 2 ^ (52 - z.log2) := by rw [hmag]; exact Nat.mul_div_cancel _ (Nat.two_pow_pos _)
      simp only [hr, hq]
      have : ¬ (2 ^ d < 2 * 0) := by omega
      have h2 : (2 ^ d == 2 * 0) = false := beq_eq_false_iff_ne.2 (Nat.ne_of_gt (Nat.two_pow_pos d))
      simp [h2]
  rw [hkept]
  have hb : z * 2 ^ (52 - z.log2) < 2 ^ 53 := by
    have : z < 2 ^ (z.log2 + 1) := Nat.lt_log2_self
    calc z * 2 ^ (52 - z.log2) < 2 ^ (z.log2 + 1) * 2 ^ (52 - z.log2) := (Nat.mul_lt_mul_right (Nat.two_pow_pos _)).2 this
      _ = 2 ^ 53 := by rw [← Nat.pow_add]; congr 1; omega
  have e3 : ((((z.log2 : Nat) : Int) - 52) - -1074).toNat = 1022 + z.log2 := by omega
  have hmin : min ((1022 + z.log2) * 2 ^ 52 + z * 2 ^ (52 - z.log2)) (2047 * 2 ^ 52) = (1022 + z.log2) * 2 ^ 52 + z * 2 ^ (52 - z.log2) := by
    have : (1022 + z.log2) * 2 ^ 52 ≤ 1074 * 2 ^ 52 := Nat.mul_le_mul_right _ (by omega)
    have hle : (1022 + z.log2) * 2 ^ 52 + z * 2 ^ (52 - z.log2) ≤ 2047 * 2 ^ 52 := Nat.le_trans (Nat.add_le_add this (Nat.le_of_lt hb)) (by decide)
    exact Nat.min_eq_left hle
  rw [e3, inf, binade]
  exact congrArg (double.word neg) hmin

/-- A word that stands for a whole number. -/
def Is (d : Datum) (z : Int) : Prop := ∃ s m i, d = .number s m i ∧ -104 ≤ i ∧ i ≤ 64 ∧ (m : Int) * 2 ^ (i + 1074).toNat * (if s then -1 else 1) = z * 2 ^ 1074
theorem read_word (neg : Bool) (L k : Nat) (hL : L ≤ 1074) (hk : 2 ^ 52 ≤ k) (hk' : k < 2 ^ 53) : double.read (double.word neg (L * 2 ^ 52 + k)) = .number neg k (L - 1074) := by
  have hr : L * 2 ^ 52 + k < 2047 * 2 ^ 52 := by
    have : L * 2 ^ 52 ≤ 1074 * 2 ^ 52 := Nat.mul_le_mul_right _ hL
    omega
  have hw : double.word neg (L * 2 ^ 52 + k) / 2 ^ 63 % 2 = neg.toNat ∧ double.word neg (L * 2 ^ 52 + k) % 2 ^ 63 = L * 2 ^ 52 + k := by
    unfold Format.word
    rw [sw]
    cases neg with
    | true => simp only [if_true, Bool.toNat_true]; omega
    | false => simp only [Bool.false_eq_true, if_false, Bool.toNat_false]; omega
  have e1 : (L * 2 ^ 52 + k) % 2 ^ 52 = k - 2 ^ 52 := by omega
  have e2 : (L * 2 ^ 52 + k) / 2 ^ 52 = L + 1 := by omega
  have hneg : (neg.toNat == 1) = neg := by cases neg <;> rfl
  have n1 : ¬ (L * 2 ^ 52 + k < 2 ^ 52) := by omega
  have n2 : 2 ^ 52 + (k - 2 ^ 52) = k := by omega
  have n3 : (-1074 : Int) + ((L + 1 - 1 : Nat) : Int) = (L : Int) - 1074 := by omega
  simp only [Format.read, sw, hw.1, hw.2, least, binade, inf, n1, if_false, hr, if_true, e1, e2, hneg, n2, n3]
theorem fl_pos (z : Nat) (h : 0 < z) (h' : z < 2 ^ 53) (neg : Bool) : double.write (.number neg z 0) = double.word neg ((1022 + z.log2) * 2 ^ 52 + z * 2 ^ (52 - z.log2)) :=
  nearest_int neg z z 0 (by decide) h h' rfl
theorem kept_range (z : Nat) (h : 0 < z) (h' : z < 2 ^ 53) : z.log2 ≤ 52 ∧ 2 ^ 52 ≤ z * 2 ^ (52 - z.log2) ∧ z * 2 ^ (52 - z.log2) < 2 ^ 53 := by
  have hz0 : z ≠ 0 := by omega
  have hl : z.log2 ≤ 52 := by have := log2_lt hz0 h'; omega
  have h1 : z < 2 ^ (z.log2 + 1) := Nat.lt_log2_self
  have h2 : 2 ^ z.log2 ≤ z := Nat.log2_self_le hz0
  refine ⟨hl, ?_, ?_⟩
  · calc 2 ^ 52 = 2 ^ z.log2 * 2 ^ (52 - z.log2) := by rw [← Nat.pow_add]; congr 1; omega
      _ ≤ _ := Nat.mul_le_mul_right _ h2
  · calc z * 2 ^ (52 - z.log2) < 2 ^ (z.log2 + 1) * 2 ^ (52 - z.log2) := (Nat.mul_lt_mul_right (Nat.two_pow_pos _)).2 h1
      _ = 2 ^ 53 := by rw [← Nat.pow_add]; congr 1; omega
theorem zero_word : fl 0 = 0 := by decide
theorem read_zero : double.read 0 = .number false 0 (-1074) := by decide
theorem neg_nat (z : Int) : z.natAbs = 0 ∨ 0 < z.natAbs := by omega
theorem fl_ne {z : Int} (h : z ≠ 0) (h' : z.natAbs < 2 ^ 53) : fl z = double.word (decide (z < 0)) ((1022 + z.natAbs.log2) * 2 ^ 52 + z.natAbs * 2 ^ (52 - z.natAbs.log2)) := fl_pos z.natAbs (by omega) h' _
theorem read_fl {z : Int} (h : z ≠ 0) (h' : z.natAbs < 2 ^ 53) : double.read (fl z) = .number (decide (z < 0)) (z.natAbs * 2 ^ (52 - z.natAbs.log2)) ((z.natAbs.log2 : Int) - 52) := by
  obtain ⟨k1, k2, k3⟩ := kept_range z.natAbs (by omega) h'
  rw [fl_ne h h', read_word _ _ _ (by omega) k2 k3]
  congr 1
  omega
/-- What a number of the shape s·m·2^i stands for, in units of 2^-1074. -/
def un (s : Bool) (m : Nat) (i : Int) : Int := Ieee.signed s m (i + 1074).toNat
theorem signed_eq (s : Bool) (m k : Nat) : Ieee.signed s m k = (if s then -1 else 1) * ((m : Int) * 2 ^ k) := by
  unfold Ieee.signed
  cases s <;> simp [Nat.shiftLeft_eq]
theorem read_un {a : Int} (h' : a.natAbs < 2 ^ 53) : ∃ s m i, double.read (fl a) = .number s m i ∧ -1074 ≤ i ∧ i ≤ 0 ∧ un s m i = a * 2 ^ 1074 ∧ s = decide (a < 0) ∧ (a ≠ 0 → m = a.natAbs * 2 ^ (-i).toNat ∧ -52 ≤ i) ∧ (a = 0 → m = 0) := by
  by_cases h : a = 0
  · subst h
    refine ⟨false, 0, -1074, ?_, by decide, by decide, ?_, rfl, fun h => absurd rfl h, fun _ => rfl⟩
    · rw [zero_word, read_zero]
    · rw [un, signed_eq]; simp
  · obtain ⟨k1, k2, k3⟩ := kept_range a.natAbs (by omega) h'
    refine ⟨_, _, _, read_fl h h', by omega, by omega, ?_, rfl, fun _ => ⟨?_, by omega⟩, fun e => absurd e h⟩
    · rw [un, signed_eq]
      have e1 : (((a.natAbs.log2 : Nat) : Int) - 52 + 1074).toNat = 1022 + a.natAbs.log2 := by omega
      rw [e1]
      have e2 : (((a.natAbs * 2 ^ (52 - a.natAbs.log2) : Nat) : Int)) * 2 ^ (1022 + a.natAbs.log2) = (a.natAbs : Int) * 2 ^ 1074 := by
        rw [Int.natCast_mul, Int.mul_assoc, Int.natCast_pow, show ((2 : Nat) : Int) = 2 from rfl, ← Int.pow_add, show 52 - a.natAbs.log2 + (1022 + a.natAbs.log2) = 1074 by omega]
      rw [e2]
      by_cases hn : a < 0
      · rw [decide_eq_true hn, if_pos rfl, ← Int.mul_assoc]; congr 1; omega
      · rw [decide_eq_false hn, if_neg (by decide), ← Int.mul_assoc]; congr 1; omega
    · congr 2; omega
theorem un_shift (s : Bool) (m : Nat) (i base : Int) (h : base ≤ i) (hb : -1074 ≤ base) : Ieee.signed s m (i - base).toNat * 2 ^ (base + 1074).toNat = un s m i := by
  rw [un, signed_eq, signed_eq, Int.mul_assoc, Int.mul_assoc, ← Int.pow_add, show (i - base).toNat + (base + 1074).toNat = (i + 1074).toNat by omega]
theorem pow_pos' (k : Nat) : (0 : Int) < 2 ^ k := Int.pow_pos (by decide)
theorem scale {t z : Int} {k : Nat} (hk : k ≤ 1074) (h : t * 2 ^ k = z * 2 ^ 1074) : (t = 0 ↔ z = 0) ∧ (t < 0 ↔ z < 0) ∧ t.natAbs * 2 ^ k = z.natAbs * 2 ^ 1074 := by
  have e : t = z * 2 ^ (1074 - k) := by
    have : t * 2 ^ k = z * 2 ^ (1074 - k) * 2 ^ k := by rw [Int.mul_assoc, ← Int.pow_add, show 1074 - k + k = 1074 by omega]; exact h
    exact Int.eq_of_mul_eq_mul_right (Int.ne_of_gt (pow_pos' k)) this
  have hp := pow_pos' (1074 - k)
  refine ⟨⟨fun h0 => ?_, fun h0 => by rw [e, h0, Int.zero_mul]⟩, ⟨fun h0 => ?_, fun h0 => ?_⟩, ?_⟩
  · rw [e] at h0
    rcases Int.mul_eq_zero.1 h0 with h1 | h1
    · exact h1
    · omega
  · refine Classical.byContradiction fun hn => ?_
    have := Int.mul_nonneg (show (0 : Int) ≤ z by omega) (Int.le_of_lt hp)
    omega
  · rw [e]; exact Int.mul_neg_of_neg_of_pos h0 hp
  · rw [e, Int.natAbs_mul, Int.natAbs_pow, Nat.mul_assoc]
    rw [show (2 : Int).natAbs = 2 from rfl, ← Nat.pow_add, show 1074 - k + k = 1074 by omega]
/-- A sum is written exactly. -/
theorem sum_int {s t : Bool} {m n : Nat} {i j a b : Int} (hi : -1074 ≤ i) (hi' : i ≤ 0) (hj : -1074 ≤ j) (hj' : j ≤ 0) (ha : un s m i = a * 2 ^ 1074) (hb : un t n j = b * 2 ^ 1074) (h : (a + b).natAbs < 2 ^ 53) (h0 : a + b = 0 → (s && t) = false) :
    ((Datum.number s m i).sum (.number t n j)).map double.write = some (fl (a + b)) := by
  simp only [Datum.sum, Option.map_some, Option.some.injEq]
  generalize hbase : min i j = base
  have hb1 : -1074 ≤ base := by omega
  have hb2 : base ≤ 0 := by omega
  generalize htot : Ieee.signed s m (i - base).toNat + Ieee.signed t n (j - base).toNat = tot
  have e1 : tot * 2 ^ (base + 1074).toNat = (a + b) * 2 ^ 1074 := by
    rw [← htot, Int.add_mul, un_shift s m i base (by omega) hb1, un_shift t n j base (by omega) hb1, ha, hb, Int.add_mul]
  obtain ⟨z1, z2, z3⟩ := scale (by omega) e1
  by_cases hz : a + b = 0
  · rw [if_pos (z1.2 hz), z1.2 hz, h0 hz, hz, zero_word]
    show double.nearest false 0 base = 0
    rw [Format.nearest, if_pos rfl]; rfl
  · rw [if_neg fun e => hz (z1.1 e), fl_ne hz h]
    have : decide (tot < 0) = decide (a + b < 0) := by simp [z2]
    rw [this]
    exact nearest_int _ _ _ base hb1 (by omega) h z3
theorem add_fl {a b : Int} (ha : a.natAbs < 2 ^ 53) (hb : b.natAbs < 2 ^ 53) (h : (a + b).natAbs < 2 ^ 53) : double.add (fl a) (fl b) = some (fl (a + b)) := by
  obtain ⟨s, m, i, h1, h2, h3, h4, h5, _, _⟩ := read_un ha
  obtain ⟨t, n, j, k1, k2, k3, k4, k5, _, _⟩ := read_un hb
  unfold Format.add
  rw [h1, k1]
  refine sum_int h2 h3 k2 k3 h4 k4 h fun e => ?_
  subst h5; subst k5
  by_cases x : a < 0
  · rw [decide_eq_false (show ¬ b < 0 by omega), Bool.and_false]
  · rw [decide_eq_false x, Bool.false_and]
theorem un_not (s : Bool) (m : Nat) (i : Int) : un (!s) m i = - un s m i := by
  rw [un, un, signed_eq, signed_eq]; cases s <;> simp
theorem sub_fl {a b : Int} (ha : a.natAbs < 2 ^ 53) (hb : b.natAbs < 2 ^ 53) (h : (a - b).natAbs < 2 ^ 53) : double.sub (fl a) (fl b) = some (fl (a - b)) := by
  obtain ⟨s, m, i, h1, h2, h3, h4, h5, _, _⟩ := read_un ha
  obtain ⟨t, n, j, k1, k2, k3, k4, k5, _, _⟩ := read_un hb
  unfold Format.sub
  rw [h1, k1]
  have := sum_int (t := !t) (n := n) (j := j) (b := -b) h2 h3 k2 k3 h4 (by rw [un_not, k4, Int.neg_mul]) (by rw [← Int.sub_eq_add_neg]; exact h) fun e => by
    subst h5; subst k5
    have : a = b := by omega
    subst this
    cases decide (a < 0) <;> rfl
  rw [← Int.sub_eq_add_neg] at this
  exact this
theorem mul_fl {a b : Int} (ha : a.natAbs < 2 ^ 53) (hb : b.natAbs < 2 ^ 53) (ha0 : a ≠ 0) (hb0 : b ≠ 0) (h : (a * b).natAbs < 2 ^ 53) : double.mul (fl a) (fl b) = some (fl (a * b)) := by
  obtain ⟨s, m, i, h1, h2, h3, h4, h5, h6, _⟩ := read_un ha
  obtain ⟨t, n, j, k1, k2, k3, k4, k5, k6, _⟩ := read_un hb
  obtain ⟨m1, m2⟩ := h6 ha0
  obtain ⟨n1, n2⟩ := k6 hb0
  unfold Format.mul
  rw [h1, k1]
  simp only [Datum.product, Option.map_some, Option.some.injEq]
  have hab : a * b ≠ 0 := Int.mul_ne_zero ha0 hb0
  rw [fl_ne hab h]
  have hs : (s ^^ t) = decide (a * b < 0) := by
    subst h5; subst k5
    by_cases x : a < 0 <;> by_cases y : b < 0
    · have := Int.mul_pos_of_neg_of_neg x y
      rw [decide_eq_true x, decide_eq_true y, decide_eq_false (by omega)]; rfl
    · have := Int.mul_neg_of_neg_of_pos x (show 0 < b by omega)
      rw [decide_eq_true x, decide_eq_false y, decide_eq_true this]; rfl
    · have := Int.mul_neg_of_pos_of_neg (show 0 < a by omega) y
      rw [decide_eq_false x, decide_eq_true y, decide_eq_true this]; rfl
    · have := Int.mul_pos (show 0 < a by omega) (show 0 < b by omega)
      rw [decide_eq_false x, decide_eq_false y, decide_eq_false (by omega)]; rfl
  rw [← hs]
  refine nearest_int _ _ _ (i + j) (by omega) (Int.natAbs_pos.2 hab) h ?_
  rw [m1, n1, Int.natAbs_mul]
  rw [show a.natAbs * 2 ^ (-i).toNat * (b.natAbs * 2 ^ (-j).toNat) * 2 ^ (i + j + 1074).toNat = a.natAbs * b.natAbs * (2 ^ (-i).toNat * 2 ^ (-j).toNat * 2 ^ (i + j + 1074).toNat) by ac_rfl, ← Nat.pow_add, ← Nat.pow_add, show (-i).toNat + (-j).toNat + (i + j + 1074).toNat = 1074 by omega]
theorem order_fl {a b : Int} (ha : a.natAbs < 2 ^ 53) (hb : b.natAbs < 2 ^ 53) : (double.order (fl a) (fl b) == some .eq) = decide (a = b) := by
  obtain ⟨s, m, i, h1, h2, h3, h4, _, _, _⟩ := read_un ha
  obtain ⟨t, n, j, k1, k2, k3, k4, _, _, _⟩ := read_un hb
  unfold Format.order
  rw [h1, k1]
  simp only [Datum.order]
  generalize hbase : min i j = base
  have u1 := un_shift s m i base (by omega) (by omega)
  have u2 := un_shift t n j base (by omega) (by omega)
  generalize Ieee.signed s m (i - base).toNat = x at *
  generalize Ieee.signed t n (j - base).toNat = y at *
  have hp := pow_pos' (base + 1074).toNat
  have hq := pow_pos' 1074
  have hxy : x = y ↔ a = b := by
    constructor
    · intro e
      subst e
      rw [u1, h4, k4] at u2
      exact Int.eq_of_mul_eq_mul_right (Int.ne_of_gt hq) u2
    · intro e
      subst e
      rw [← k4, ← u2] at h4
      rw [h4] at u1
      exact Int.eq_of_mul_eq_mul_right (Int.ne_of_gt hp) u1
  by_cases e : a = b
  · rw [decide_eq_true e, hxy.2 e]; simp
  · rw [decide_eq_false e]
    have hne : x ≠ y := fun x => e (hxy.1 x)
    have : compare x y ≠ .eq := fun h => hne (Std.LawfulEqOrd.eq_of_compare h)
    cases hc : compare x y <;> first | rfl | exact absurd hc this
theorem toInt_fl {a : Int} (ha : a.natAbs < 2 ^ 53) : (double.read (fl a)).toInt .zero = some a := by
  obtain ⟨s, m, i, h1, h2, h3, h4, h5, h6, h7⟩ := read_un ha
  rw [h1]
  unfold Datum.toInt Datum.integral
  simp only
  rw [show i.toNat = 0 by omega, Nat.shiftLeft_zero]
  by_cases h : a = 0
  · rw [h7 h]
    subst h
    have : Toward.zero.cut s 0 (-i).toNat = 0 := by unfold Toward.cut; simp
    rw [this, signed_eq]; simp
  · obtain ⟨m1, m2⟩ := h6 h
    have hz : a.natAbs ≠ 0 := by omega
    have hc : Toward.zero.cut s m (-i).toNat = a.natAbs := by
      unfold Toward.cut
      have hl : m.log2 = a.natAbs.log2 + (-i).toNat := by rw [m1, log2_mul _ _ hz]
      rw [Nat.min_eq_left (by omega), Nat.one_shiftLeft, m1]
      show a.natAbs * 2 ^ (-i).toNat / 2 ^ (-i).toNat + 0 = a.natAbs
      rw [Nat.mul_div_cancel _ (Nat.two_pow_pos _)]; rfl
    rw [hc, signed_eq, h5]
    congr 1
    by_cases hn : a < 0
    · rw [decide_eq_true hn, if_pos rfl]; omega
    · rw [decide_eq_false hn, if_neg (by decide)]; omega
end Go.Gv.Fl
