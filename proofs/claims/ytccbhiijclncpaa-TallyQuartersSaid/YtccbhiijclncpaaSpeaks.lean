/- THE CONTRACT of speaks: it answers true. -/
import Derived.Test.YtccbhiijclncpaaEq
namespace Go.Proofs.Ytccbhiijclncpaa.Tally
open Go.RowKit
def listed (l : List Int) (j : Nat) : Int := l.getD j 0
theorem cells_listed (w : World) (g n : Nat) (l : List Int) (hl : l.length = n) (h : Row w g 3 ((l.map (Value.int .i64)).toArray)) : Cells w (some ⟨g, 0, none⟩) n (listed l) := fun _ => ⟨g, 0, rfl, h.lt, fun j hj => by
  rw [cell_of_row w g (0 + j) _ 3 _ h]
  simp [listed, List.getElem?_eq_getElem (show j < l.length by omega), List.getD]⟩
theorem small_listed (l : List Int) (h : ∀ x ∈ l, -1073741824 ≤ x ∧ x ≤ 1073741824) : Small (listed l) := fun j => by
  unfold listed
  rcases Nat.lt_or_ge j l.length with a | a
  · have e : l.getD j 0 = l[j] := by simp [List.getD, List.getElem?_eq_getElem a]
    rw [e]
    exact h _ (List.getElem_mem a)
  · have e : l.getD j 0 = 0 := by simp [List.getD, List.getElem?_eq_none a]
    rw [e]
    omega
theorem rep_three : Rep 3 4613937818241073152 := (by decide +kernel : floatOfInt .f64 3 = 4613937818241073152) ▸ rep_ofInt 3 (by decide)
theorem rep_one : Rep 1 4607182418800017408 := (by decide +kernel : floatOfInt .f64 1 = 4607182418800017408) ▸ rep_ofInt 1 (by decide)
theorem rep_minus : Rep (-1) 13830554455654793216 := (by decide +kernel : floatOfInt .f64 (-1) = 13830554455654793216) ▸ rep_ofInt (-1) (by decide)
set_option maxHeartbeats 1000000 in
theorem speaks_any (w : World) : Calls Try.prog 4 #[] w fun e w' => e = .returned (.bool true) ∧ Below w.heap.size w w' := by
  have hc1 := cells_listed (w.alloc (.cells #[.int .i64 5, .int .i64 3, .int .i64 2] 3)) w.heap.size 3 [5, 3, 2] rfl (heap_alloc_new _ _)
  have hs1 : Small (listed [5, 3, 2]) := small_listed _ (by simp)
  have hs2 : Small (listed [5, 3, 2, 0, 4]) := small_listed _ (by simp)
  have ht : turnB (-1) 4607182418800017408 0 = (0, Op.negFloat .f64 4607182418800017408) := rfl
  have e1 : (FloatKind.f64.format.order 0 0 == some .eq) = true := by rw [rep_eq rep_zero_bits rep_zero_bits]; rfl
  have e2 : (FloatKind.f64.format.order (Op.negFloat .f64 4607182418800017408) 13830554455654793216 == some .eq) = true := by rw [rep_eq (rep_negFloat rep_one) rep_minus]; rfl
  have a0 : acc (listed [5, 3, 2, 0, 4]) 0 5 = 9 := by decide
  have a1 : acc (listed [5, 3, 2, 0, 4]) 1 5 = 3 := by decide
  have a2 : acc (listed [5, 3, 2, 0, 4]) 2 5 = 2 := by decide
  have a3 : acc (listed [5, 3, 2, 0, 4]) 3 5 = 0 := by decide
  have hq : ∀ w : World, (binOp .eql 26 (.agg #[.int .i64 9, .int .i64 3, .int .i64 2, .int .i64 0]) (.agg #[.int .i64 9, .int .i64 3, .int .i64 2, .int .i64 0])).run Try.prog w = .ok (.bool true) w := fun w => run_eq_four w 9 3 2 0 9 3 2 0
  have hc2 := cells_listed ((w.alloc (.cells #[.int .i64 5, .int .i64 3, .int .i64 2] 3)).alloc (.cells #[.int .i64 5, .int .i64 3, .int .i64 2, .int .i64 0, .int .i64 4] 3)) (w.heap.size + 1) 5 [5, 3, 2, 0, 4] rfl (heap_alloc2_new _ _ _)
  have hb0 : Below w.heap.size w ((w.alloc (.cells #[.int .i64 5, .int .i64 3, .int .i64 2] 3)).alloc (.cells #[.int .i64 5, .int .i64 3, .int .i64 2, .int .i64 0, .int .i64 4] 3)) := ((Below.refl _ _).alloc (Nat.le_refl _) _).alloc (by simp) _
  go_enter Try.func4, Try.ntmps4
  go_wp2_with (first
    | (go_at_call 8; refine (quarter_any 1 _ _ _ _ _ (by omega) hs1 hc1).mono ?_; rintro e w' ⟨rfl, rfl⟩
       obtain ⟨hre, him⟩ := qB_rep 1 _ hs1 3 (by omega)
       generalize (qB 1 (listed [5, 3, 2]) 3).1 = re at *
       generalize (qB 1 (listed [5, 3, 2]) 3).2 = im at *
       have e3 : (FloatKind.f64.format.order re 4613937818241073152 == some .eq) = true := by rw [rep_eq hre rep_three]; decide
       have e4 : (FloatKind.f64.format.order im 4613937818241073152 == some .eq) = true := by rw [rep_eq him rep_three]; decide)
    | (go_at_call 10; refine (turn_any _ _ _ _).mono ?_; rintro e w' ⟨rfl, rfl⟩)
    | (go_at_call 5; refine (quarters_any _ _ _ _ _ (by omega) hs2 hc2).mono ?_; rintro e w1 ⟨v0, v1, v2, v3, rfl, hF, hb1⟩
       have hb2 := hb0.trans (hb1.mono (by simp; omega))
       clear hb1 hb0)
    | (go_at_call 9; refine (back_any _ _ (by omega) hs2 _ _ _ _ hF _).mono ?_; rw [a0, a1, a2, a3]; rintro e w2 ⟨rfl, hb3⟩
       have hb4 := hb2.trans (hb3.mono hb2.size)
       clear hb2 hb3))
  go_ret
  exact ⟨rfl, hb4⟩
end Go.Proofs.Ytccbhiijclncpaa.Tally
