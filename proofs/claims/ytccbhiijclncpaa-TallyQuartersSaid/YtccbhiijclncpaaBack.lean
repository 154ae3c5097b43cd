/- THE CONTRACT of Back: of the four quarters of at most 200 sizes of at most 2^30 each it gives the sums of every fourth size. -/
import Derived.Test.YtccbhiijclncpaaQuarters
namespace Go.Proofs.Ytccbhiijclncpaa.Tally
open Go.RowKit
/-- The sum of the first j quarters, turned back. -/
def bre (l : Nat → Int) (m n : Nat) : Nat → Int
  | 0 => 0
  | j + 1 => bre l m n j + (turnZ (-(j : Int) * n) (fre j l m) (fim j l m)).1
def bim (l : Nat → Int) (m n : Nat) : Nat → Int
  | 0 => 0
  | j + 1 => bim l m n j + (turnZ (-(j : Int) * n) (fre j l m) (fim j l m)).2
theorem back_four (l : Nat → Int) (m n : Nat) (hn : n < 4) : bre l m n 4 = 4 * acc l n m := by
  have e : n = 0 ∨ n = 1 ∨ n = 2 ∨ n = 3 := by omega
  rcases e with rfl | rfl | rfl | rfl <;> simp [bre, turnZ, fre, fim] <;> omega
theorem b_bound (l : Nat → Int) (hl : Small l) (m n : Nat) (hm : m ≤ 200) (j : Nat) : (-1099511627776 * (j : Int) ≤ bre l m n j ∧ bre l m n j ≤ 1099511627776 * (j : Int)) ∧ (-1099511627776 * (j : Int) ≤ bim l m n j ∧ bim l m n j ≤ 1099511627776 * (j : Int)) := by
  induction j with
  | zero => simp [bre, bim]
  | succ j ih =>
    obtain ⟨⟨b1, b2⟩, ⟨b3, b4⟩⟩ := f_bound j l hl m hm
    have t := turnZ_bound (-(j : Int) * n) _ _ 1099511627776 b1 b2 b3 b4
    simp only [bre, bim]
    omega
theorem pick4 {l : Nat → Int} {m : Nat} {v0 v1 v2 v3 : Value} (h : IsF l m 4 v0 v1 v2 v3) (j : Nat) (hj : j < 4) :
    ∃ a b, (∀ w, (Instr.index 28 (.agg #[v0, v1, v2, v3]) (.int .i64 (j : Int))).run Try.prog w = .ok (.complex .f64 a b) w) ∧ Rep (fre j l m) a ∧ Rep (fim j l m) b := by
  obtain ⟨h0, h1, h2, h3⟩ := h
  obtain ⟨a0, b0, rfl, c0, d0⟩ := h0 (by omega)
  obtain ⟨a1, b1, rfl, c1, d1⟩ := h1 (by omega)
  obtain ⟨a2, b2, rfl, c2, d2⟩ := h2 (by omega)
  obtain ⟨a3, b3, rfl, c3, d3⟩ := h3 (by omega)
  have e : j = 0 ∨ j = 1 ∨ j = 2 ∨ j = 3 := by omega
  rcases e with rfl | rfl | rfl | rfl
  · exact ⟨a0, b0, fun _ => by kernel_rfl, c0, d0⟩
  · exact ⟨a1, b1, fun _ => by kernel_rfl, c1, d1⟩
  · exact ⟨a2, b2, fun _ => by kernel_rfl, c2, d2⟩
  · exact ⟨a3, b3, fun _ => by kernel_rfl, c3, d3⟩
/-- The first n of the four sums. -/
def IsS (l : Nat → Int) (m n : Nat) (x0 x1 x2 x3 : Value) : Prop :=
  (0 < n → x0 = .int .i64 (acc l 0 m)) ∧ (1 < n → x1 = .int .i64 (acc l 1 m)) ∧ (2 < n → x2 = .int .i64 (acc l 2 m)) ∧ (3 < n → x3 = .int .i64 (acc l 3 m))
theorem IsS.succ {l : Nat → Int} {m n : Nat} {v0 v1 v2 v3 : Value} (h : IsS l m n v0 v1 v2 v3) (hj : n < 4) : ∃ a b c d, #[v0, v1, v2, v3].setIfInBounds n (.int .i64 (acc l n m)) = #[a, b, c, d] ∧ IsS l m (n + 1) a b c d := by
  obtain ⟨h0, h1, h2, h3⟩ := h
  have e : n = 0 ∨ n = 1 ∨ n = 2 ∨ n = 3 := by omega
  rcases e with rfl | rfl | rfl | rfl
  · exact ⟨_, _, _, _, rfl, fun _ => rfl, fun a => by omega, fun a => by omega, fun a => by omega⟩
  · exact ⟨_, _, _, _, rfl, fun _ => h0 (by omega), fun _ => rfl, fun a => by omega, fun a => by omega⟩
  · exact ⟨_, _, _, _, rfl, fun _ => h0 (by omega), fun _ => h1 (by omega), fun _ => rfl, fun a => by omega⟩
  · exact ⟨_, _, _, _, rfl, fun _ => h0 (by omega), fun _ => h1 (by omega), fun _ => h2 (by omega), fun _ => rfl⟩
abbrev zi : Value := .int .i64 0
theorem int_one (a b c d : Int) : (#[Value.int .i64 a, .int .i64 b, .int .i64 c, .int .i64 d].all fun x => x.oneCell') = true := by simp [Value.oneCell']
theorem heap_alloc3 (w : World) (A B C : Obj) : (((w.alloc A).alloc B).alloc C).heap[w.heap.size + 2]? = some C := by
  have h := heap_alloc_new ((w.alloc A).alloc B) C
  simpa using h
set_option maxHeartbeats 1000000 in
theorem back_any (l : Nat → Int) (m : Nat) (hm : m ≤ 200) (hl : Small l) (v0 v1 v2 v3 : Value) (hF : IsF l m 4 v0 v1 v2 v3) (w : World) :
    Calls Try.prog 9 #[.agg #[v0, v1, v2, v3]] w fun e w' => e = .returned (.agg #[.int .i64 (acc l 0 m), .int .i64 (acc l 1 m), .int .i64 (acc l 2 m), .int .i64 (acc l 3 m)]) ∧ Below w.heap.size w w' := by
  go_enter Try.func9, Try.ntmps9
  go_wp2
  have hb0 : Below w.heap.size w (((w.alloc (.cells #[v0, v1, v2, v3] 28)).alloc (.cells #[zi, zi, zi, zi] 26)).alloc (.cells #[zi, zi, zi, zi] 26)) := (((Below.refl _ _).alloc (Nat.le_refl _) _).alloc (by simp) _).alloc (by simp; omega) _
  have hr0 : Row (((w.alloc (.cells #[v0, v1, v2, v3] 28)).alloc (.cells #[zi, zi, zi, zi] 26)).alloc (.cells #[zi, zi, zi, zi] 26)) w.heap.size 28 #[v0, v1, v2, v3] := Row.alloc (Row.alloc (heap_alloc_new w _) _) _
  have hr1 : Row (((w.alloc (.cells #[v0, v1, v2, v3] 28)).alloc (.cells #[zi, zi, zi, zi] 26)).alloc (.cells #[zi, zi, zi, zi] 26)) (w.heap.size + 1) 26 #[zi, zi, zi, zi] := Row.alloc (heap_alloc2_new w _ _) _
  go_loopw [8] (fun i wr => ∃ n : Nat, ∃ x0 x1 x2 x3, n ≤ 4 ∧ i = .int .i64 n ∧ IsS l m n x0 x1 x2 x3 ∧ Row wr (w.heap.size + 1 + 1) 26 #[x0, x1, x2, x3] ∧ Row wr (w.heap.size + 1) 26 #[zi, zi, zi, zi] ∧ Row wr w.heap.size 28 #[v0, v1, v2, v3] ∧ Below w.heap.size w wr) (fun i _ => 4 - (intOf i).toNat)
  case atStart => exact ⟨0, zi, zi, zi, zi, by omega, rfl, ⟨fun h => by omega, fun h => by omega, fun h => by omega, fun h => by omega⟩, heap_alloc3 w _ _ _, hr1, hr0, hb0⟩
  case round =>
    clear hb0 hr0 hr1
    obtain ⟨n, x0, x1, x2, x3, hn, rfl, hS, hR, hZ, hV, hB⟩ := hrel
    by_cases hlt : n < 4
    · have hfz := frozen_of_row wr (w.heap.size + 1 + 1) n _ 26 hR
      obtain ⟨cu, hcu⟩ := row_four hR hlt
      obtain ⟨wo, rfl⟩ : ∃ wo : World, wo = wr := ⟨_, rfl⟩
      have hV' := hV
      unfold Row at hV'
      go_wp2_with (refine wpList_load_row rfl 28 (.tmp 1) rfl w.heap.size rfl 28 _ _ _ hV' Try.underlying28 rfl cells28 ?_)
      go_loop [5, 12] (fun s i => ∃ j re im : Nat, j ≤ 4 ∧ i = .int .i64 j ∧ s = .complex .f64 re im ∧ Rep (bre l m n j) re ∧ Rep (bim l m n j) im) (fun _ i => 4 - (intOf i).toNat)
      case atStart => exact ⟨0, 0, 0, by omega, rfl, rfl, rep_zero_bits, rep_zero_bits⟩
      case round =>
        obtain ⟨j, re, im, hj, rfl, rfl, hre, him⟩ := hrel
        by_cases hjt : j < 4
        · obtain ⟨a, b, hidx, ha, hb⟩ := pick4 hF j hjt
          obtain ⟨⟨b1, b2⟩, ⟨b3, b4⟩⟩ := b_bound l hl m n hm j
          obtain ⟨⟨b5, b6⟩, ⟨b7, b8⟩⟩ := b_bound l hl m n hm (j + 1)
          obtain ⟨t1, t2⟩ := rep_turn (-(j : Int) * n) _ _ _ _ ha hb
          simp only [bre, bim] at b5 b6 b7 b8
          obtain ⟨re', im', hsum, r1, r2⟩ := rep_csum hre him t1 t2 (by omega) (by omega)
          have hadd := fun w => run_complex_sum (P := Try.prog) w .add (Or.inl rfl) 27 .f64 _ _ _ _ _ _ hsum
          have hw : wrap64 (-(j : Int) * n) = -(j : Int) * n := by
            have e : j = 0 ∨ j = 1 ∨ j = 2 ∨ j = 3 := by omega
            rcases e with rfl | rfl | rfl | rfl <;> unfold wrap64 <;> omega
          clear hsum b1 b2 b3 b4 b5 b6 b7 b8 hre him t1 t2 ha hb hfz hcu hV'
          go_wp2_with (go_at_call 10; refine (turn_any _ _ (-(j : Int) * n) _).mono ?_; rintro e w' ⟨rfl, rfl⟩)
          go_round
          case rel => exact ⟨j + 1, re', im', by omega, by go_num, rfl, r1, r2⟩
          case measure => simp [intOf]; omega
        · have h4 : 4 ≤ j := by omega
          have hre4 : Rep (4 * acc l n m) re := by
            have e : j = 4 := by omega
            rw [e, back_four l m n hlt] at hre
            exact hre
          obtain ⟨q1, q2⟩ := acc_bound l hl n m
          have hcv := fun w => run_convert_float_int (P := Try.prog) w 37 3 .f64 .i64 re _ (by rw [Try.underlying37]; rfl) Try.underlying3 (rep_floatToInt hre4 (by omega))
          obtain ⟨X, hX⟩ : ∃ X, X = 4 * acc l n m := ⟨_, rfl⟩
          have hq : X.tdiv 4 = acc l n m := by rw [hX]; exact Int.mul_tdiv_cancel_left _ (by decide)
          rw [← hX] at hcv
          have hw2 : wrap64 (acc l n m) = acc l n m := by unfold wrap64; omega
          clear hre4 hX q1 q2 hre him hV'
          go_wp2
          have hR1 := hR.stored n (.int .i64 (acc l n m))
          have hZ1 := hZ.other ⟨w.heap.size + 1 + 1, n, none⟩ (by simp) (.int .i64 (acc l n m))
          have hV1 := hV.other ⟨w.heap.size + 1 + 1, n, none⟩ (by simp; omega) (.int .i64 (acc l n m))
          have hB1 := hB.setCell (p := ⟨w.heap.size + 1 + 1, n, none⟩) (by simp; omega) (.int .i64 (acc l n m))
          obtain ⟨a, b, c, d, e1, hS1⟩ := hS.succ hlt
          rw [e1] at hR1
          exact ⟨⟨n + 1, a, b, c, d, by omega, by go_num, hS1, hR1, hZ1, hV1, hB1⟩, by simp [intOf]; omega⟩
    · have h4 : 4 ≤ n := by omega
      have hS4 : IsS l m 4 x0 x1 x2 x3 := (by omega : n = 4) ▸ hS
      clear hS
      obtain ⟨e0, e1, e2, e3⟩ := hS4
      obtain rfl := e0 (by omega)
      obtain rfl := e1 (by omega)
      obtain rfl := e2 (by omega)
      obtain rfl := e3 (by omega)
      clear e0 e1 e2 e3
      have hR' := hR
      unfold Row at hR' hZ
      go_wp2_with (first | (refine wpList_load_row rfl 26 (.tmp 3) rfl (w.heap.size + 1 + 1) rfl 26 _ _ _ hR' Try.underlying26 rfl cells26 ?_) | (refine wpList_store_row rfl 26 (.tmp 2) (.tmp 32) rfl (w.heap.size + 1) _ rfl rfl 26 _ hZ cells26 rfl (int_one _ _ _ _) ?_))
      refine bodyPost_ret (v := .agg #[.int .i64 (acc l 0 m), .int .i64 (acc l 1 m), .int .i64 (acc l 2 m), .int .i64 (acc l 3 m)]) (results_cell_row (p := 2) (ty := 26) rfl _ _ (w.heap.size + 1) 26 _ (0, 0) _ rfl (setRow_heap _ _ _ _ _ _ hZ) Try.underlying26 rfl cells26) rfl ?_
      exact ⟨rfl, below_setRow hB (by omega) _⟩
end Go.Proofs.Ytccbhiijclncpaa.Tally
