/- THE PLAIN LAW: whole numbers below 2^53 are kept exactly by floats: what a word stands for, and that sums, opposites, comparisons and conversions of such words are those of the numbers. No condition beyond the bounds that each theorem names. -/
import Derived.WalkLawsBesides
namespace Go.Proofs.Ytccbhiijclncpaa.Tally
open Go
open Ieee
/-- The word stands for the whole number n. -/
def Rep (n : Int) (b : Nat) : Prop := ∃ (s : Bool) (m k : Nat), double.read b = .number s m (-(k : Int)) ∧ (if s then -(m : Int) else (m : Int)) = n * 2 ^ k
theorem read_word (s : Bool) (r : Nat) (h : r < 2 ^ 63) : double.read (double.word s r) = (if r < 2 ^ 52 then .number s r (-1074) else if r < 2047 * 2 ^ 52 then .number s (2 ^ 52 + r % 2 ^ 52) (-1074 + (r / 2 ^ 52 - 1 : Nat)) else if r = 2047 * 2 ^ 52 then .infinity s else .nan s (r - 2047 * 2 ^ 52)) := by
  have h1 : (double.word s r) / 2 ^ 63 % 2 = if s then 1 else 0 := by
    unfold Format.word Format.signWeight double
    cases s <;> simp <;> omega
  have h2 : (double.word s r) % 2 ^ 63 = r := by
    unfold Format.word Format.signWeight double
    cases s <;> simp <;> omega
  have e1 : double.signWeight = 2 ^ 63 := rfl
  have e2 : double.binade = 2 ^ 52 := rfl
  have e3 : double.infRung = 2047 * 2 ^ 52 := by decide
  have e4 : double.leastPlace = -1074 := by decide
  unfold Format.read
  rw [e1, e2, e3, e4]
  simp only [h1, h2]
  cases s <;> rfl
theorem cut_exact (neg : Bool) (q drop : Nat) (hq : q ≠ 0) : Toward.even.cut neg (q * 2 ^ drop) drop = q := by
  have hn : q * 2 ^ drop ≠ 0 := Nat.mul_ne_zero hq (Nat.pos_iff_ne_zero.mp (Nat.two_pow_pos drop))
  have hd : drop ≤ (q * 2 ^ drop).log2 := by
    rw [Nat.le_log2 hn]
    exact Nat.le_mul_of_pos_left _ (Nat.pos_of_ne_zero hq)
  have hm : min drop ((q * 2 ^ drop).log2 + 2) = drop := by omega
  have hp := Nat.two_pow_pos drop
  unfold Toward.cut
  simp only [hm, Nat.one_shiftLeft, Nat.mul_mod_left, Nat.mul_div_cancel _ hp]
  have : ¬ (2 ^ drop < 2 * 0) := by omega
  have h0 : (2 ^ drop == 2 * 0) = false := by simp
  simp [this]
theorem read_rung (s : Bool) (L M : Nat) (hl : L ≤ 52) (hlo : 4503599627370496 ≤ M) (hhi : M < 9007199254740992) : double.read (double.word s (min ((1022 + L) * 2 ^ 52 + M) (2047 * 2 ^ 52))) = .number s M (-((52 - L : Nat) : Int)) := by
  have p1 : (2 : Nat) ^ 52 = 4503599627370496 := by decide
  have p2 : (2 : Nat) ^ 63 = 9223372036854775808 := by decide
  have hmin : min ((1022 + L) * 4503599627370496 + M) (2047 * 4503599627370496) = (1022 + L) * 4503599627370496 + M := Nat.min_eq_left (by omega)
  have c0 : (1022 + L) * 4503599627370496 + M < 2 ^ 63 := by rw [p2]; omega
  rw [p1, hmin, read_word _ _ c0, p1]
  have c1 : ¬ ((1022 + L) * 4503599627370496 + M < 4503599627370496) := by omega
  have c2 : (1022 + L) * 4503599627370496 + M < 2047 * 4503599627370496 := by omega
  rw [if_neg c1, if_pos c2]
  have h5 : 4503599627370496 + ((1022 + L) * 4503599627370496 + M) % 4503599627370496 = M := by omega
  have h6 : ((1022 + L) * 4503599627370496 + M) / 4503599627370496 = 1023 + L := by omega
  rw [h5, h6]
  congr 1
  omega
theorem nearest_exact (s : Bool) (N k : Nat) (hN : N ≠ 0) (hlt : N < 2 ^ 53) : ∃ (M j : Nat), double.read (double.nearest s (N * 2 ^ k) (-(k : Int))) = .number s M (-(j : Int)) ∧ M = N * 2 ^ j := by
  have hl : N.log2 ≤ 52 := by
    have := (Nat.log2_lt hN).mpr hlt
    omega
  have hk : (N * 2 ^ k).log2 = N.log2 + k := by
    have hp0 := Nat.two_pow_pos k
    refine (Nat.log2_eq_iff (Nat.mul_ne_zero hN (Nat.pos_iff_ne_zero.mp hp0))).mpr ⟨?_, ?_⟩
    · rw [Nat.pow_add]; exact Nat.mul_le_mul_right _ (Nat.log2_self_le hN)
    · rw [show N.log2 + k + 1 = (N.log2 + 1) + k by omega, Nat.pow_add]; exact Nat.mul_lt_mul_of_pos_right Nat.lt_log2_self hp0
  have hpos : N * 2 ^ k ≠ 0 := Nat.mul_ne_zero hN (Nat.pos_iff_ne_zero.mp (Nat.two_pow_pos k))
  refine ⟨N * 2 ^ (52 - N.log2), 52 - N.log2, ?_, rfl⟩
  have e4 : double.leastPlace = -1074 := by decide
  have e5 : (double.fractionBits : Int) = 52 := rfl
  have hlast : max (-(k : Int) + (N * 2 ^ k).log2 - double.fractionBits) double.leastPlace = -((52 - N.log2 : Nat) : Int) := by
    rw [hk, e4, e5]
    omega
  have hkept : Toward.even.cut s ((N * 2 ^ k) <<< (-(k : Int) - -((52 - N.log2 : Nat) : Int)).toNat) (-((52 - N.log2 : Nat) : Int) - -(k : Int)).toNat = N * 2 ^ (52 - N.log2) := by
    by_cases hc : k ≤ 52 - N.log2
    · have e1 : (-(k : Int) - -((52 - N.log2 : Nat) : Int)).toNat = 52 - N.log2 - k := by omega
      have e2 : (-((52 - N.log2 : Nat) : Int) - -(k : Int)).toNat = 0 := by omega
      rw [e1, e2, Nat.shiftLeft_eq, Nat.mul_assoc, ← Nat.pow_add]
      have e3 : k + (52 - N.log2 - k) = 52 - N.log2 := by omega
      rw [e3]
      have := cut_exact s (N * 2 ^ (52 - N.log2)) 0 (Nat.mul_ne_zero hN (Nat.pos_iff_ne_zero.mp (Nat.two_pow_pos _)))
      simpa using this
    · have e1 : (-(k : Int) - -((52 - N.log2 : Nat) : Int)).toNat = 0 := by omega
      have e2 : (-((52 - N.log2 : Nat) : Int) - -(k : Int)).toNat = k - (52 - N.log2) := by omega
      rw [e1, e2, Nat.shiftLeft_eq, Nat.pow_zero, Nat.mul_one]
      have e3 : N * 2 ^ k = (N * 2 ^ (52 - N.log2)) * 2 ^ (k - (52 - N.log2)) := by
        rw [Nat.mul_assoc, ← Nat.pow_add]
        congr 2
        omega
      rw [e3]
      exact cut_exact s _ _ (Nat.mul_ne_zero hN (Nat.pos_iff_ne_zero.mp (Nat.two_pow_pos _)))
  unfold Format.nearest
  rw [if_neg hpos]
  simp only [hlast, hkept]
  have hlo : 2 ^ 52 ≤ N * 2 ^ (52 - N.log2) := by
    have h1 : 2 ^ N.log2 ≤ N := Nat.log2_self_le hN
    calc 2 ^ 52 = 2 ^ N.log2 * 2 ^ (52 - N.log2) := by rw [← Nat.pow_add]; congr 1; omega
      _ ≤ N * 2 ^ (52 - N.log2) := Nat.mul_le_mul_right _ h1
  have hhi : N * 2 ^ (52 - N.log2) < 2 ^ 53 := by
    have h1 : N < 2 ^ (N.log2 + 1) := Nat.lt_log2_self
    calc N * 2 ^ (52 - N.log2) < 2 ^ (N.log2 + 1) * 2 ^ (52 - N.log2) := Nat.mul_lt_mul_of_pos_right h1 (Nat.two_pow_pos _)
      _ = 2 ^ 53 := by rw [← Nat.pow_add]; congr 1; omega
  generalize hM : N * 2 ^ (52 - N.log2) = M at *
  have e1 : (-((52 - N.log2 : Nat) : Int) - double.leastPlace).toNat = 1022 + N.log2 := by rw [e4]; omega
  have e2 : double.binade = 2 ^ 52 := rfl
  have e3 : double.infRung = 2047 * 2 ^ 52 := by decide
  rw [e1, e2, e3]
  exact read_rung s _ _ hl hlo hhi
theorem rep_zero {b : Nat} (s : Bool) (k : Nat) (h : double.read b = .number s 0 (-(k : Int))) : Rep 0 b := ⟨s, 0, k, h, by cases s <;> simp⟩
theorem rep_nearest (s : Bool) (N k : Nat) (hlt : N < 2 ^ 53) : Rep (if s then -(N : Int) else N) (double.nearest s (N * 2 ^ k) (-(k : Int))) := by
  by_cases hN : N = 0
  · subst hN
    have e : double.nearest s (0 * 2 ^ k) (-(k : Int)) = double.word s 0 := by unfold Format.nearest; simp
    have h := read_word s 0 (by decide)
    rw [if_pos (by decide)] at h
    rw [e]
    have h2 := rep_zero s 1074 h
    cases s <;> exact h2
  · obtain ⟨M, j, h, hM⟩ := nearest_exact s N k hN hlt
    exact ⟨s, M, j, h, by subst hM; cases s <;> simp [Int.neg_mul]⟩
theorem signed_eq (s : Bool) (m u : Nat) : signed s m u = (if s then -(m : Int) else (m : Int)) * 2 ^ u := by
  unfold signed
  rw [Nat.shiftLeft_eq]
  cases s <;> simp [Int.natCast_mul, Int.natCast_pow, Int.neg_mul]
theorem rep_sum {a b : Int} {x y : Nat} (ha : Rep a x) (hb : Rep b y) (hlt : (a + b).natAbs < 2 ^ 53) : ∃ r, double.add x y = some r ∧ Rep (a + b) r := by
  obtain ⟨s, m, k, hx, hm⟩ := ha
  obtain ⟨t, n, j, hy, hn⟩ := hb
  refine ⟨_, by unfold Format.add; rw [hx, hy]; rfl, ?_⟩
  have hbase : min (-(k : Int)) (-(j : Int)) = -((max k j : Nat) : Int) := by omega
  have e1 : (-(k : Int) - -((max k j : Nat) : Int)).toNat = max k j - k := by omega
  have e2 : (-(j : Int) - -((max k j : Nat) : Int)).toNat = max k j - j := by omega
  have htot : signed s m (max k j - k) + signed t n (max k j - j) = (a + b) * 2 ^ (max k j) := by
    rw [signed_eq, signed_eq, hm, hn, Int.mul_assoc, Int.mul_assoc, ← Int.pow_add, ← Int.pow_add, Int.add_mul]
    congr 3 <;> omega
  simp only [hbase, e1, e2, htot, Format.write]
  generalize max k j = K
  have hp : (0 : Int) < 2 ^ K := Int.pow_pos (by decide)
  have hna : ((a + b) * 2 ^ K).natAbs = (a + b).natAbs * 2 ^ K := by rw [Int.natAbs_mul, Int.natAbs_pow]; rfl
  rw [hna]
  have h := rep_nearest (if (a + b) * 2 ^ K = 0 then s && t else decide ((a + b) * 2 ^ K < 0)) (a + b).natAbs K hlt
  have hv : (if (if (a + b) * 2 ^ K = 0 then s && t else decide ((a + b) * 2 ^ K < 0)) = true then -((a + b).natAbs : Int) else ((a + b).natAbs : Int)) = a + b := by
    by_cases h0 : a + b = 0
    · rw [h0]; simp
    · have h1 : ¬ ((a + b) * 2 ^ K = 0) := Int.mul_ne_zero h0 (Int.ne_of_gt hp)
      rw [if_neg h1]
      by_cases h2 : a + b < 0
      · have h3 : (a + b) * 2 ^ K < 0 := Int.mul_neg_of_neg_of_pos h2 hp
        simp only [h3, decide_true, if_true]
        omega
      · have h3 : ¬ ((a + b) * 2 ^ K < 0) := Int.not_lt.mpr (Int.mul_nonneg (Int.not_lt.mp h2) (Int.le_of_lt hp))
        simp only [h3, decide_false]
        simp
        omega
  rw [hv] at h
  exact h
theorem read_neg (b : Nat) : double.read (b ^^^ 2 ^ 63) = (double.read b).opposite := by
  have h1 : (b ^^^ 2 ^ 63) % 2 ^ 63 = b % 2 ^ 63 := by rw [Nat.xor_mod_two_pow, Nat.mod_self, Nat.xor_zero]
  have h2 : (b ^^^ 2 ^ 63) / 2 ^ 63 % 2 = (b / 2 ^ 63 + 1) % 2 := by rw [Nat.xor_div_two_pow, Nat.div_self (by decide)]; have := @Nat.xor_mod_two_pow (b / 2 ^ 63) 1 1; simp only [Nat.pow_one] at this; rw [this]; rcases Nat.mod_two_eq_zero_or_one (b / 2 ^ 63) with h | h <;> simp [Nat.add_mod, h]
  have h3 : ((b / 2 ^ 63 + 1) % 2 == 1) = !(b / 2 ^ 63 % 2 == 1) := by
    rcases Nat.mod_two_eq_zero_or_one (b / 2 ^ 63) with h | h <;> simp [Nat.add_mod, h]
  have e1 : double.signWeight = 2 ^ 63 := rfl
  unfold Format.read
  rw [e1]
  simp only [h1, h2, h3]
  split
  · rfl
  · split
    · rfl
    · split <;> rfl
theorem rep_neg {a : Int} {x : Nat} (ha : Rep a x) : Rep (-a) (x ^^^ 2 ^ 63) := by
  obtain ⟨s, m, k, hx, hm⟩ := ha
  refine ⟨!s, m, k, by rw [read_neg, hx]; rfl, ?_⟩
  rw [Int.neg_mul, ← hm]
  cases s <;> simp
theorem rep_order {a b : Int} {x y : Nat} (ha : Rep a x) (hb : Rep b y) : double.order x y = some (compare a b) := by
  obtain ⟨s, m, k, hx, hm⟩ := ha
  obtain ⟨t, n, j, hy, hn⟩ := hb
  unfold Format.order
  rw [hx, hy]
  have hbase : min (-(k : Int)) (-(j : Int)) = -((max k j : Nat) : Int) := by omega
  have e1 : (-(k : Int) - -((max k j : Nat) : Int)).toNat = max k j - k := by omega
  have e2 : (-(j : Int) - -((max k j : Nat) : Int)).toNat = max k j - j := by omega
  have s1 : signed s m (max k j - k) = a * 2 ^ (max k j) := by
    rw [signed_eq, hm, Int.mul_assoc, ← Int.pow_add]; congr 2; omega
  have s2 : signed t n (max k j - j) = b * 2 ^ (max k j) := by
    rw [signed_eq, hn, Int.mul_assoc, ← Int.pow_add]; congr 2; omega
  simp only [Datum.order, hbase, e1, e2, s1, s2]
  have hp : (0 : Int) < 2 ^ (max k j) := Int.pow_pos (by decide)
  congr 1
  simp only [compare, compareOfLessAndEq]
  have q1 : (a * 2 ^ (max k j) < b * 2 ^ (max k j)) ↔ a < b := ⟨fun h => Int.lt_of_mul_lt_mul_right h (Int.le_of_lt hp), fun h => Int.mul_lt_mul_of_pos_right h hp⟩
  have q2 : (a * 2 ^ (max k j) = b * 2 ^ (max k j)) ↔ a = b := ⟨fun h => Int.eq_of_mul_eq_mul_right (Int.ne_of_gt hp) h, fun h => by rw [h]⟩
  simp only [q1, q2]
theorem cut_zero (neg : Bool) (q drop : Nat) : Toward.zero.cut neg (q * 2 ^ drop) drop = q := by
  by_cases hq : q = 0
  · subst hq
    unfold Toward.cut
    simp
  · have hn : q * 2 ^ drop ≠ 0 := Nat.mul_ne_zero hq (Nat.pos_iff_ne_zero.mp (Nat.two_pow_pos drop))
    have hd : drop ≤ (q * 2 ^ drop).log2 := by
      rw [Nat.le_log2 hn]
      exact Nat.le_mul_of_pos_left _ (Nat.pos_of_ne_zero hq)
    have hm : min drop ((q * 2 ^ drop).log2 + 2) = drop := by omega
    have hp := Nat.two_pow_pos drop
    unfold Toward.cut
    simp only [hm, Nat.one_shiftLeft, Nat.mul_div_cancel _ hp]
    simp
theorem rep_toInt {a : Int} {x : Nat} (ha : Rep a x) : (double.read x).toInt .zero = some a := by
  obtain ⟨s, m, k, hx, hm⟩ := ha
  have h1 : m = a.natAbs * 2 ^ k := by
    have := congrArg Int.natAbs hm
    rw [Int.natAbs_mul, Int.natAbs_pow] at this
    cases s <;> simpa using this
  rw [hx]
  have e1 : (-(k : Int)).toNat = 0 := by omega
  have e2 : (- -(k : Int)).toNat = k := by omega
  simp only [Datum.toInt, Datum.integral, e1, e2, Nat.shiftLeft_zero]
  rw [h1, cut_zero, signed_eq]
  have hp : (0 : Int) < 2 ^ k := Int.pow_pos (by decide)
  rw [h1] at hm
  congr 1
  rw [Int.pow_zero, Int.mul_one]
  have hm2 : (if s = true then -(a.natAbs : Int) else (a.natAbs : Int)) * 2 ^ k = a * 2 ^ k := by
    rw [← hm]
    cases s <;> simp [Int.neg_mul]
  exact Int.eq_of_mul_eq_mul_right (Int.ne_of_gt hp) hm2
theorem rep_ofInt (n : Int) (h : n.natAbs < 2 ^ 53) : Rep n (floatOfInt .f64 n) := by
  have hr := rep_nearest (decide (n < 0)) n.natAbs 0 h
  have e : (if decide (n < 0) = true then -(n.natAbs : Int) else (n.natAbs : Int)) = n := by
    by_cases h0 : n < 0
    · simp only [h0, decide_true, if_true]; omega
    · simp only [h0, decide_false]; simp; omega
  rw [e] at hr
  have hr : Rep n (double.nearest (decide (n < 0)) n.natAbs 0) := by simpa using hr
  exact hr
theorem rep_zero_bits : Rep 0 0 := by
  have h := read_word false 0 (by decide)
  rw [if_pos (by decide)] at h
  exact rep_zero false 1074 h
theorem neg_bits (b : Nat) : Op.negFloat .f64 b = b ^^^ 2 ^ 63 := rfl
theorem rep_negFloat {a : Int} {x : Nat} (ha : Rep a x) : Rep (-a) (Op.negFloat .f64 x) := rep_neg ha
theorem rep_floatToInt {a : Int} {x : Nat} (ha : Rep a x) (h : a.natAbs < 2 ^ 53) : floatToIntVal .f64 x .i64 = some a := by
  have e : (FloatKind.f64.decode x).toInt .zero = some a := rep_toInt ha
  unfold floatToIntVal
  rw [e]
  have h1 : IntKind.i64.min = -9223372036854775808 := by decide
  have h2 : IntKind.i64.max = 9223372036854775807 := by decide
  simp only [h1, h2]
  rw [if_pos (by omega)]
theorem rep_eq {a b : Int} {x y : Nat} (ha : Rep a x) (hb : Rep b y) : (FloatKind.f64.format.order x y == some .eq) = decide (a = b) := by
  have h : FloatKind.f64.format.order x y = some (compare a b) := rep_order ha hb
  rw [h]
  by_cases e : a = b
  · subst e; simp
  · simp only [e, decide_false]
    have : compare a b ≠ .eq := fun h => e (Std.LawfulEqCmp.eq_of_compare h)
    simpa using this
/-- The sum of two complex words. -/
theorem rep_csum {a b c d : Int} {x y z v : Nat} (ha : Rep a x) (hb : Rep b y) (hc : Rep c z) (hd : Rep d v) (h1 : (a + c).natAbs < 2 ^ 53) (h2 : (b + d).natAbs < 2 ^ 53) :
    ∃ re im, cSumBits .add .f64 x y z v = some (re, im) ∧ Rep (a + c) re ∧ Rep (b + d) im := by
  obtain ⟨re, e1, r1⟩ := rep_sum ha hc h1
  obtain ⟨im, e2, r2⟩ := rep_sum hb hd h2
  refine ⟨re, im, ?_, r1, r2⟩
  have f1 : floatBits .add .f64 x z = some re := e1
  have f2 : floatBits .add .f64 y v = some im := e2
  unfold cSumBits
  rw [f1, f2]
  rfl
end Go.Proofs.Ytccbhiijclncpaa.Tally
