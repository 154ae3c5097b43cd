/- THE CONTRACT of turned: whole numbers of less than 2^50, turned by any number of quarters. -/
import Derived.Test.YtccbhiijclncpaaParts
namespace Go.Proofs.Ytccbhiijclncpaa.Tally
open Go.RowKit
/-- A point of whole numbers, turned. -/
def turnZ (q x y : Int) : Int × Int := if q % 4 = 1 then (-y, x) else if q % 4 = 2 then (-x, -y) else if q % 4 = 3 then (y, -x) else (x, y)
theorem turnZ_0 (x y : Int) : turnZ 0 x y = (x, y) := by simp [turnZ]
theorem turnZ_succ (q x y : Int) : turnZ (q + 1) x y = (-(turnZ q x y).2, (turnZ q x y).1) := by
  unfold turnZ
  have h : q % 4 = 0 ∨ q % 4 = 1 ∨ q % 4 = 2 ∨ q % 4 = 3 := by omega
  rcases h with h | h | h | h
  · have : (q + 1) % 4 = 1 := by omega
    simp [h, this]
  · have : (q + 1) % 4 = 2 := by omega
    simp [h, this]
  · have : (q + 1) % 4 = 3 := by omega
    simp [h, this]
  · have : (q + 1) % 4 = 0 := by omega
    simp [h, this]
theorem turnZ_bound (q x y B : Int) (h1 : -B ≤ x) (h2 : x ≤ B) (h3 : -B ≤ y) (h4 : y ≤ B) : (-B ≤ (turnZ q x y).1 ∧ (turnZ q x y).1 ≤ B) ∧ (-B ≤ (turnZ q x y).2 ∧ (turnZ q x y).2 ≤ B) := by
  unfold turnZ
  split
  · exact ⟨⟨by simp only; omega, by simp only; omega⟩, ⟨by simp only; omega, by simp only; omega⟩⟩
  · split
    · exact ⟨⟨by simp only; omega, by simp only; omega⟩, ⟨by simp only; omega, by simp only; omega⟩⟩
    · split
      · exact ⟨⟨by simp only; omega, by simp only; omega⟩, ⟨by simp only; omega, by simp only; omega⟩⟩
      · exact ⟨⟨by simp only; omega, by simp only; omega⟩, ⟨by simp only; omega, by simp only; omega⟩⟩
theorem tmod4 (q : Int) : -3 ≤ q.tmod 4 ∧ q.tmod 4 ≤ 3 ∧ (q.tmod 4 + 4) % 4 = q % 4 := by
  have h := Int.tmod_def q 4
  rcases Int.le_total 0 q with h0 | h0
  · have := Int.tmod_eq_emod_of_nonneg (b := 4) h0
    omega
  · have h1 : q.tmod 4 = -((-q).tmod 4) := by rw [Int.neg_tmod]; omega
    have h2 := Int.tmod_eq_emod_of_nonneg (a := -q) (b := 4) (by omega)
    omega
set_option maxHeartbeats 400000 in
theorem turned_any (x y q : Int) (w : World) (h1 : -1125899906842624 ≤ x) (h2 : x ≤ 1125899906842624) (h3 : -1125899906842624 ≤ y) (h4 : y ≤ 1125899906842624) :
    Calls Try.prog 6 #[.int .i64 x, .int .i64 y, .int .i64 q] w fun e w' => e = .returned (.tuple #[.int .i64 (turnZ q x y).1, .int .i64 (turnZ q x y).2]) ∧ w = w' := by
  obtain ⟨b1, b2, b3⟩ := tmod4 q
  obtain ⟨m, hm⟩ : ∃ m : Nat, (m : Int) = q % 4 := ⟨(q % 4).toNat, by omega⟩
  have hm3 : m ≤ 3 := by omega
  have H : turnZ q x y = turnZ m x y := by simp [turnZ, hm]
  rw [H]
  clear H
  rw [← hm] at b3
  clear hm
  obtain ⟨t, ht⟩ : ∃ t, q.tmod 4 = t := ⟨_, rfl⟩
  rw [ht] at b1 b2 b3
  go_enter Try.func6, Try.ntmps6
  go_wp2
  go_loop [0, 1, 12] (fun a b i => ∃ j : Nat, j ≤ m ∧ i = .int .i64 j ∧ a = .int .i64 (turnZ j x y).1 ∧ b = .int .i64 (turnZ j x y).2) (fun _ _ i => m - (intOf i).toNat)
  case atStart => exact ⟨0, Nat.zero_le _, rfl, by simp [turnZ], by simp [turnZ]⟩
  case round =>
    obtain ⟨j, hj, rfl, rfl, rfl⟩ := hrel
    obtain ⟨⟨c1, c2⟩, ⟨c3, c4⟩⟩ := turnZ_bound j x y 1125899906842624 h1 h2 h3 h4
    have hs := turnZ_succ j x y
    have e1 : (turnZ (j + 1 : Nat) x y).1 = -(turnZ j x y).2 := by rw [show ((j + 1 : Nat) : Int) = (j : Int) + 1 by simp, hs]
    have e2 : (turnZ (j + 1 : Nat) x y).2 = (turnZ j x y).1 := by rw [show ((j + 1 : Nat) : Int) = (j : Int) + 1 by simp, hs]
    have E1 := Lib.hid e1
    have E2 := Lib.hid e2
    clear hs e1 e2
    by_cases hlt : j < m
    · go_wp2
      go_round
      case rel => exact ⟨j + 1, by omega, by go_num, by rw [E1.out], by rw [E2.out]⟩
      case measure => simp [intOf]; omega
    · obtain rfl : j = m := by omega
      go_wp2
      go_ret2
      exact ⟨rfl, rfl⟩
end Go.Proofs.Ytccbhiijclncpaa.Tally
