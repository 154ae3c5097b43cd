/- THE CONTRACT of Quarter: of at most 200 sizes of at most 2^30 each. -/
import Derived.Test.YtccbhiijclncpaaTurned
namespace Go.Proofs.Ytccbhiijclncpaa.Tally
open Go.RowKit
/-- The sum of every fourth one of the first n. -/
def acc (l : Nat → Int) (r : Nat) : Nat → Int
  | 0 => 0
  | n + 1 => acc l r n + if n % 4 = r then l n else 0
def fre (k : Int) (l : Nat → Int) (n : Nat) : Int := if k % 4 = 0 then acc l 0 n + acc l 1 n + acc l 2 n + acc l 3 n else if k % 4 = 2 then acc l 0 n - acc l 1 n + acc l 2 n - acc l 3 n else acc l 0 n - acc l 2 n
def fim (k : Int) (l : Nat → Int) (n : Nat) : Int := if k % 4 = 1 then acc l 1 n - acc l 3 n else if k % 4 = 3 then acc l 3 n - acc l 1 n else 0
def Small (l : Nat → Int) : Prop := ∀ j, -1073741824 ≤ l j ∧ l j ≤ 1073741824
def Cells (w : World) (A : Option Addr) (n : Nat) (l : Nat → Int) : Prop := 0 < n → ∃ b o, A = some ⟨b, o, none⟩ ∧ b < w.heap.size ∧ ∀ j, j < n → w.cell? ⟨b, o + j, none⟩ = some (.int .i64 (l j))
theorem four (k : Int) : k % 4 = 0 ∨ k % 4 = 1 ∨ k % 4 = 2 ∨ k % 4 = 3 := by omega
theorem f_succ (k : Int) (l : Nat → Int) (n : Nat) : fre k l (n + 1) = fre k l n + (turnZ (k % 4 * (n % 4)) (l n) 0).1 ∧ fim k l (n + 1) = fim k l n + (turnZ (k % 4 * (n % 4)) (l n) 0).2 := by
  have hn : n % 4 = 0 ∨ n % 4 = 1 ∨ n % 4 = 2 ∨ n % 4 = 3 := by omega
  rcases four k with h | h | h | h <;> rcases hn with g | g | g | g <;> (have g2 : (n : Int) % 4 = (n % 4 : Nat) := by omega) <;> rw [g] at g2 <;> simp [fre, fim, acc, turnZ, h, g, g2] <;> omega
theorem acc_bound (l : Nat → Int) (hl : Small l) (r n : Nat) : -1073741824 * (n : Int) ≤ acc l r n ∧ acc l r n ≤ 1073741824 * (n : Int) := by
  induction n with
  | zero => simp [acc]
  | succ n ih =>
    have h := hl n
    simp only [acc]
    split <;> omega
theorem f_bound (k : Int) (l : Nat → Int) (hl : Small l) (n : Nat) (hn : n ≤ 200) : (-1099511627776 ≤ fre k l n ∧ fre k l n ≤ 1099511627776) ∧ (-1099511627776 ≤ fim k l n ∧ fim k l n ≤ 1099511627776) := by
  have h0 := acc_bound l hl 0 n
  have h1 := acc_bound l hl 1 n
  have h2 := acc_bound l hl 2 n
  have h3 := acc_bound l hl 3 n
  unfold fre fim
  rcases four k with h | h | h | h <;> simp [h] <;> omega
theorem rep_turn (q x y : Int) (re im : Nat) (hr : Rep x re) (hi : Rep y im) : Rep (turnZ q x y).1 (turnB q re im).1 ∧ Rep (turnZ q x y).2 (turnB q re im).2 := by
  unfold turnZ turnB
  rcases four q with h | h | h | h <;> simp [h]
  · exact ⟨hr, hi⟩
  · exact ⟨rep_negFloat hi, hr⟩
  · exact ⟨rep_negFloat hr, rep_negFloat hi⟩
  · exact ⟨hi, rep_negFloat hr⟩
/-- The sum of two words, where it is valid. -/
def addB (x y : Nat) : Nat := (FloatKind.f64.format.add x y).getD 0
theorem rep_csum' {a b c d : Int} {x y z v : Nat} (ha : Rep a x) (hb : Rep b y) (hc : Rep c z) (hd : Rep d v) (h1 : (a + c).natAbs < 2 ^ 53) (h2 : (b + d).natAbs < 2 ^ 53) :
    cSumBits .add .f64 x y z v = some (addB x z, addB y v) ∧ Rep (a + c) (addB x z) ∧ Rep (b + d) (addB y v) := by
  obtain ⟨re, e1, r1⟩ := rep_sum ha hc h1
  obtain ⟨im, e2, r2⟩ := rep_sum hb hd h2
  have f1 : FloatKind.f64.format.add x z = some re := e1
  have f2 : FloatKind.f64.format.add y v = some im := e2
  have g1 : addB x z = re := by unfold addB; rw [f1]; rfl
  have g2 : addB y v = im := by unfold addB; rw [f2]; rfl
  refine ⟨?_, by rw [g1]; exact r1, by rw [g2]; exact r2⟩
  have f3 : floatBits .add .f64 x z = some re := e1
  have f4 : floatBits .add .f64 y v = some im := e2
  unfold cSumBits
  rw [f3, f4, g1, g2]
  rfl
/-- The bits of the first n sizes' sum. -/
def qB (k : Int) (l : Nat → Int) : Nat → Nat × Nat
  | 0 => (0, 0)
  | j + 1 => (addB (qB k l j).1 (turnB (k % 4 * (j % 4)) (floatOfInt .f64 (l j)) 0).1, addB (qB k l j).2 (turnB (k % 4 * (j % 4)) (floatOfInt .f64 (l j)) 0).2)
theorem qB_rep (k : Int) (l : Nat → Int) (hl : Small l) (n : Nat) (hn : n ≤ 200) : Rep (fre k l n) (qB k l n).1 ∧ Rep (fim k l n) (qB k l n).2 := by
  induction n with
  | zero => exact ⟨by simp [fre, acc, qB, rep_zero_bits], by simp [fim, acc, qB, rep_zero_bits]⟩
  | succ j ih =>
    obtain ⟨hre, him⟩ := ih (by omega)
    obtain ⟨s1, s2⟩ := f_succ k l j
    obtain ⟨⟨b5, b6⟩, ⟨b7, b8⟩⟩ := f_bound k l hl (j + 1) (by omega)
    obtain ⟨b9, b10⟩ := hl j
    obtain ⟨t1, t2⟩ := rep_turn (k % 4 * (j % 4)) (l j) 0 _ _ (rep_ofInt (l j) (by omega)) rep_zero_bits
    obtain ⟨_, r1, r2⟩ := rep_csum' hre him t1 t2 (by omega) (by omega)
    rw [s1, s2]
    exact ⟨r1, r2⟩
theorem qB_add (k : Int) (l : Nat → Int) (hl : Small l) (j : Nat) (hj : j < 200) (w : World) :
    (binOp .add 27 (.complex .f64 (qB k l j).1 (qB k l j).2) (.complex .f64 (turnB (k % 4 * (j % 4)) (floatOfInt .f64 (l j)) 0).1 (turnB (k % 4 * (j % 4)) (floatOfInt .f64 (l j)) 0).2)).run Try.prog w = .ok (.complex .f64 (qB k l (j + 1)).1 (qB k l (j + 1)).2) w := by
  obtain ⟨hre, him⟩ := qB_rep k l hl j (by omega)
  obtain ⟨s1, s2⟩ := f_succ k l j
  obtain ⟨⟨b5, b6⟩, ⟨b7, b8⟩⟩ := f_bound k l hl (j + 1) (by omega)
  obtain ⟨b9, b10⟩ := hl j
  obtain ⟨t1, t2⟩ := rep_turn (k % 4 * (j % 4)) (l j) 0 _ _ (rep_ofInt (l j) (by omega)) rep_zero_bits
  obtain ⟨hsum, _, _⟩ := rep_csum' hre him t1 t2 (by omega) (by omega)
  exact run_complex_sum (P := Try.prog) w .add (Or.inl rfl) 27 .f64 _ _ _ _ _ _ hsum
set_option maxHeartbeats 400000 in
theorem quarter_any (k : Int) (A : Option Addr) (n cap : Nat) (l : Nat → Int) (w : World) (hn : n ≤ 200) (hl : Small l) (hc : Cells w A n l) :
    Calls Try.prog 8 #[.int .i64 k, .slice A n cap] w fun e w' => e = .returned (.complex .f64 (qB k l n).1 (qB k l n).2) ∧ w = w' := by
  have hcv := fun (w : World) (n : Int) => run_conv (P := Try.prog) w 3 37 .i64 n Try.underlying3 Try.underlying37
  go_enter Try.func8, Try.ntmps8
  go_wp2
  go_loop [5, 10] (fun s i => ∃ j : Nat, j ≤ n ∧ i = .int .i64 j ∧ s = .complex .f64 (qB k l j).1 (qB k l j).2) (fun _ i => n - (intOf i).toNat)
  case atStart => exact ⟨0, Nat.zero_le _, rfl, rfl⟩
  case round =>
    obtain ⟨j, hj, rfl, rfl⟩ := hrel
    by_cases hlt : j < n
    · obtain ⟨b, o, rfl, _, hcell⟩ := hc (by omega)
      have hcj := hcell j hlt
      clear hcell hc
      have hadd := qB_add k l hl j (by omega)
      obtain ⟨b9, b10⟩ := hl j
      have hm1 := and3 k
      have hm2 := and3 j
      have hw : wrap64 (k % 4 * (j % 4)) = k % 4 * (j % 4) := by
        rcases four k with h | h | h | h <;> rw [h] <;> unfold wrap64 <;> omega
      clear b9 b10
      go_wp2_with (go_at_call 10; refine (turn_any _ _ (k % 4 * (j % 4)) _).mono ?_; rintro e w' ⟨rfl, rfl⟩)
      go_round
      case rel => exact ⟨j + 1, by omega, by go_num, rfl⟩
      case measure => simp [intOf]; omega
    · obtain rfl : j = n := by omega
      clear hc
      go_wp2
      go_ret
      exact ⟨rfl, rfl⟩
end Go.Proofs.Ytccbhiijclncpaa.Tally
