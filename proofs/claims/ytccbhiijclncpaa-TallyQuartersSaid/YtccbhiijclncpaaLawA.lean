/- THE WALK of the law's first half: the sizes are collected, and summed up by fours. -/
import Derived.Test.YtccbhiijclncpaaSpeaks
import Derived.OwnWalk
import Derived.Laws.OwnMore
import Derived.Deep.AppendLies
import Derived.OneCell
import Derived.Deep.RegionHeld3
namespace Go.Proofs.Ytccbhiijclncpaa.Tally
open Go.RowKit
set_option linter.unusedVariables false
def Cells32 (w : World) (A : Option Addr) (n : Nat) (s : Nat → Int) : Prop := 0 < n → ∃ b o, A = some ⟨b, o, none⟩ ∧ b < w.heap.size ∧ ∀ j, j < n → w.cell? ⟨b, o + j, none⟩ = some (.int .i32 (s j))
theorem Cells32.below {w w' : World} {B : Nat} {A : Option Addr} {n : Nat} {l : Nat → Int} (h : Cells32 w A n l) (hb : Below B w w') (hB : w.heap.size ≤ B) : Cells32 w' A n l := fun hn => by
  obtain ⟨b, o, e, hlt, hc⟩ := h hn
  exact ⟨b, o, e, Nat.lt_of_lt_of_le hlt hb.size, fun j hj => (hb.cell (p := ⟨b, o + j, none⟩) (Nat.lt_of_lt_of_le hlt hB)).trans (hc j hj)⟩
/-- A size, cut. -/
def cutl (s : Nat → Int) (j : Nat) : Int := (s j).tmod 1073741824
def Wide (s : Nat → Int) : Prop := ∀ j, -2147483648 ≤ s j ∧ s j ≤ 2147483647
theorem tmod_most (q : Int) : -1073741824 ≤ q.tmod 1073741824 ∧ q.tmod 1073741824 ≤ 1073741824 := by
  rcases Int.le_total 0 q with h0 | h0
  · have := Int.tmod_eq_emod_of_nonneg (b := 1073741824) h0
    omega
  · have h1 : q.tmod 1073741824 = -((-q).tmod 1073741824) := by rw [Int.neg_tmod]; omega
    have h2 := Int.tmod_eq_emod_of_nonneg (a := -q) (b := 1073741824) (by omega)
    omega
theorem cut_small (s : Nat → Int) : Small (cutl s) := fun j => tmod_most (s j)
def sumsOf (l : Nat → Int) (j : Nat) : Array Value := #[.int .i64 (acc l 0 j), .int .i64 (acc l 1 j), .int .i64 (acc l 2 j), .int .i64 (acc l 3 j)]
def listOf (l : Nat → Int) (j : Nat) : List Value := (List.range j).map fun i => .int .i64 (l i)
theorem listOf_succ (l : Nat → Int) (j : Nat) : listOf l (j + 1) = listOf l j ++ [.int .i64 (l j)] := by simp [listOf, List.range_succ]
theorem sums_at (l : Nat → Int) (j : Nat) : (sumsOf l j)[j % 4]? = some (.int .i64 (acc l (j % 4) j)) := by
  have e : j % 4 = 0 ∨ j % 4 = 1 ∨ j % 4 = 2 ∨ j % 4 = 3 := by omega
  rcases e with e | e | e | e <;> rw [e] <;> rfl
theorem sums_succ (l : Nat → Int) (j : Nat) : (sumsOf l j).setIfInBounds (j % 4) (.int .i64 (acc l (j % 4) j + l j)) = sumsOf l (j + 1) := by
  have e : j % 4 = 0 ∨ j % 4 = 1 ∨ j % 4 = 2 ∨ j % 4 = 3 := by omega
  rcases e with e | e | e | e <;> simp [sumsOf, acc, e]
theorem i64_info : (Try.prog.info? 3).map (fun i => (i.zero, i.size, i.bytes)) = some (some (.int .i64 0), 1, 8) := by kernel_rfl
theorem Row.grown {w w' : World} {g : Nat} {t : TypeId} {cs : Array Value} {row : Option Nat} (h : Row w g t cs) (hg : w.grownBy w' row) (hr : ∀ k, row = some k → g < k) : Row w' g t cs := (hg.block g h.lt (fun e => by have := hr g e.symm; omega)).trans h
theorem int_cells (x : Int) : ∀ u ∈ [Value.int .i64 x], u.oneCell' = true := by simp [Value.oneCell']
theorem one_new (w : World) (x : Value) (t : TypeId) : ∀ (j : Nat) (u : Value), [x][j]? = some u → (w.alloc (.cells #[x] t)).cell? ((⟨w.heap.size, 0, none⟩ : Addr).add j) = some u := by
  intro j u h
  cases j with
  | zero =>
    obtain rfl : x = u := by simpa using h
    exact cell_of_row _ _ 0 #[x] t _ (heap_alloc_new w _)
  | succ j => simp at h
theorem add_zero_off (g j : Nat) : (⟨g, 0, none⟩ : Addr).add j = ⟨g, 0 + j, none⟩ := by
  unfold Addr.add
  split <;> simp_all
theorem own_cells {w : World} {base j : Nat} {v : Value} {l : Nat → Int} (h : w.ownsRow base 3 1 v j (listOf l j)) : ∃ A c, v = .slice A j c ∧ Cells w A j l := by
  rcases h.2 with ⟨rfl, rfl⟩ | ⟨g, cap, cur, rfl, hg, hh, _⟩
  · exact ⟨none, 0, rfl, fun h => by omega⟩
  · refine ⟨some ⟨g, 0, none⟩, cap, rfl, fun _ => ⟨g, 0, rfl, (h.lt g rfl).2, fun i hi => ?_⟩⟩
    have hx := h.cells (g := g) rfl i (.int .i64 (l i)) (by simp [listOf, hi])
    rw [← add_zero_off]
    exact hx
theorem cf_setRow (w : World) (g : Nat) (cs : Array Value) : (w.setRow g cs).heap.size = w.heap.size := by simp
theorem Row.setRow_other {w : World} {g g' : Nat} {t : TypeId} {cs cs' : Array Value} (h : Row w g t cs) (hne : g ≠ g') : Row (w.setRow g' cs') g t cs := (Go.setRow_other w g' g cs' hne).trans h
theorem IsF.one {l : Nat → Int} {n : Nat} {v0 v1 v2 v3 : Value} (h : IsF l n 4 v0 v1 v2 v3) : (#[v0, v1, v2, v3].all fun x => x.oneCell') = true := by
  obtain ⟨a0, b0, a1, b1, a2, b2, a3, b3, rfl, rfl, rfl, rfl⟩ := h.shape
  exact four_one _ _ _ _ _ _ _ _
theorem turnZ_mod (p q x y : Int) (h : p % 4 = q % 4) : turnZ p x y = turnZ q x y := by unfold turnZ; rw [h]
theorem f_step (q : Nat) (l : Nat → Int) (p : Nat) : fre q l (p + 1) = fre q l p + (turnZ ((q : Int) * p) (l p) 0).1 ∧ fim q l (p + 1) = fim q l p + (turnZ ((q : Int) * p) (l p) 0).2 := by
  have h := f_succ q l p
  have e : ((q : Int) * p) % 4 = ((q : Int) % 4 * ((p : Int) % 4)) % 4 := Int.mul_emod _ _ _
  rw [turnZ_mod _ _ (l p) 0 e]
  exact h
theorem mul_four (q p : Nat) (hq : q < 4) (hp : p < 200) : wrap64 ((q : Int) * p) = (q : Int) * p := by
  have e : q = 0 ∨ q = 1 ∨ q = 2 ∨ q = 3 := by omega
  rcases e with rfl | rfl | rfl | rfl <;> unfold wrap64 <;> omega
theorem quiet_left {P : Program} {f : FuncId} {args : Array Value} {w : World} {n : Nat} {v : Value} (h : Calls P f args (w.drewN n) fun e w' => e = .returned v ∧ w.drewN n = w') :
    Calls P f args (w.drewN n) fun e w'' => e = .returned v ∧ ∃ m, w'' = w.drewN m := h.mono fun _ _ ⟨he, hm⟩ => ⟨he, n, hm.symm⟩
theorem IsF.cell {l : Nat → Int} {n : Nat} {v0 v1 v2 v3 : Value} (h : IsF l n 4 v0 v1 v2 v3) (q : Nat) (hq : q < 4) : ∃ a b, #[v0, v1, v2, v3][q]? = some (.complex .f64 a b) ∧ Rep (fre q l n) a ∧ Rep (fim q l n) b := by
  obtain ⟨h0, h1, h2, h3⟩ := h
  obtain ⟨a0, b0, rfl, c0, d0⟩ := h0 (by omega)
  obtain ⟨a1, b1, rfl, c1, d1⟩ := h1 (by omega)
  obtain ⟨a2, b2, rfl, c2, d2⟩ := h2 (by omega)
  obtain ⟨a3, b3, rfl, c3, d3⟩ := h3 (by omega)
  have e : q = 0 ∨ q = 1 ∨ q = 2 ∨ q = 3 := by omega
  rcases e with rfl | rfl | rfl | rfl
  · exact ⟨a0, b0, rfl, c0, d0⟩
  · exact ⟨a1, b1, rfl, c1, d1⟩
  · exact ⟨a2, b2, rfl, c2, d2⟩
  · exact ⟨a3, b3, rfl, c3, d3⟩
theorem drewN_below (B : Nat) (w : World) (n : Nat) : Below B w (w.drewN n) := ⟨rfl, rfl, rfl, Nat.le_refl _, fun _ _ => rfl⟩
theorem rep_same {a : Int} {x y : Nat} (ha : Rep a x) (hb : Rep a y) : (FloatKind.f64.format.order x y == some .eq) = true := by rw [rep_eq ha hb]; simp
/-- What was there has stayed. -/
def Stay (a b : World) : Prop := Below a.heap.size a b
theorem Stay.drew (a : World) : Stay a a.drew := (Below.refl _ _).drew
theorem Stay.next {a b c : World} (h : Stay a b) (k : Below b.heap.size b c) : Stay a c := Below.trans h (k.mono h.size)
theorem turn_back (k z0 z1 : Int) (h1 : -2147483648 ≤ z0) (h2 : z0 ≤ 2147483647) (h3 : -2147483648 ≤ z1) (h4 : z1 ≤ 2147483647) :
    ((FloatKind.f64.format.order (turnB k (floatOfInt .f64 z0) (floatOfInt .f64 z1)).1 (floatOfInt .f64 (turnZ (k.tmod 4) z0 z1).1) == some .eq) = true ∧ (FloatKind.f64.format.order (turnB k (floatOfInt .f64 z0) (floatOfInt .f64 z1)).2 (floatOfInt .f64 (turnZ (k.tmod 4) z0 z1).2) == some .eq) = true) ∧
    ((FloatKind.f64.format.order (turnB (-3) (turnB 3 (floatOfInt .f64 z0) (floatOfInt .f64 z1)).1 (turnB 3 (floatOfInt .f64 z0) (floatOfInt .f64 z1)).2).1 (turnB 1 (floatOfInt .f64 (turnZ 3 z0 z1).1) (floatOfInt .f64 (turnZ 3 z0 z1).2)).1 == some .eq) = true ∧
     (FloatKind.f64.format.order (turnB (-3) (turnB 3 (floatOfInt .f64 z0) (floatOfInt .f64 z1)).1 (turnB 3 (floatOfInt .f64 z0) (floatOfInt .f64 z1)).2).2 (turnB 1 (floatOfInt .f64 (turnZ 3 z0 z1).1) (floatOfInt .f64 (turnZ 3 z0 z1).2)).2 == some .eq) = true) := by
  obtain ⟨r1, r2⟩ := rep_turn k z0 z1 _ _ (rep_ofInt z0 (by omega)) (rep_ofInt z1 (by omega))
  obtain ⟨r3, r4⟩ := rep_turn 3 z0 z1 _ _ (rep_ofInt z0 (by omega)) (rep_ofInt z1 (by omega))
  obtain ⟨r5, r6⟩ := rep_turn (-3) _ _ _ _ r3 r4
  obtain ⟨⟨b1, b2⟩, ⟨b3, b4⟩⟩ := turnZ_bound (k.tmod 4) z0 z1 2147483648 (by omega) (by omega) (by omega) (by omega)
  obtain ⟨⟨b5, b6⟩, ⟨b7, b8⟩⟩ := turnZ_bound 3 z0 z1 2147483648 (by omega) (by omega) (by omega) (by omega)
  obtain ⟨r7, r8⟩ := rep_turn 1 _ _ _ _ (rep_ofInt (turnZ 3 z0 z1).1 (by omega)) (rep_ofInt (turnZ 3 z0 z1).2 (by omega))
  have e : turnZ (k.tmod 4) z0 z1 = turnZ k z0 z1 := turnZ_mod _ _ _ _ (by have := (tmod4 k).2.2; omega)
  have e3 : turnZ (-3) (turnZ 3 z0 z1).1 (turnZ 3 z0 z1).2 = turnZ 1 (turnZ 3 z0 z1).1 (turnZ 3 z0 z1).2 := turnZ_mod _ _ _ _ (by decide)
  rw [e] at b1 b2 b3 b4 ⊢
  rw [e3] at r5 r6
  exact ⟨⟨rep_same r1 (rep_ofInt _ (by omega)), rep_same r2 (rep_ofInt _ (by omega))⟩, ⟨rep_same r5 r7, rep_same r6 r8⟩⟩
set_option maxHeartbeats 2000000 in
set_option maxRecDepth 100000 in
theorem law_any (A : Option Addr) (n cap : Nat) (s : Nat → Int) (k z0 z1 : Int) (w : World) (hn : n ≤ 200) (hs : Wide s) (hc : Cells32 w A n s) (hk1 : -9223372036854775808 ≤ k) (hk2 : k ≤ 9223372036854775807)
    (hz1 : -2147483648 ≤ z0) (hz2 : z0 ≤ 2147483647) (hz3 : -2147483648 ≤ z1) (hz4 : z1 ≤ 2147483647) :
    Calls Try.prog 3 #[.slice A n cap, .int .i64 k, .agg #[.int .i32 z0, .int .i32 z1]] w fun e w' => e = .returned (.bool true) ∧ Below w.heap.size w w' := by
  obtain ⟨i0, hi, hz, hsz, hby⟩ := info_parts i64_info
  go_enter Try.func3, Try.ntmps3
  go_wp2_with (go_at_call 4; refine (speaks_any _).mono ?_; rintro e w1 ⟨rfl, hb1⟩)
  have hB1 : Below w.heap.size w w1 := ((Below.refl _ _).alloc (Nat.le_refl _) _).trans (hb1.mono (by simp))
  have hZ1 : Row w1 w.heap.size 23 #[.int .i32 z0, .int .i32 z1] := Row.below (heap_alloc_new w _) hb1 (by simp)
  have hsz1 : w.heap.size < w1.heap.size := by have := hb1.size; simp at this; omega
  have hC1 := hc.below hB1 (Nat.le_refl _)
  clear hb1 hc
  have hb0 : Below w1.heap.size w1 (w1.alloc (.cells #[zi, zi, zi, zi] 26)) := (Below.refl _ _).alloc (Nat.le_refl _) _
  go_loopw [7, 30] (fun v i wr => ∃ j : Nat, j ≤ n ∧ i = .int .i64 j ∧ wr.ownsRow (w1.heap.size + 1) 3 1 v j (listOf (cutl s) j) ∧ Row wr w1.heap.size 26 (sumsOf (cutl s) j) ∧ Below w1.heap.size w1 wr ∧ w1.heap.size < wr.heap.size) (fun _ i _ => n - (intOf i).toNat)
  case atStart => exact ⟨0, Nat.zero_le _, rfl, World.ownsRow_nil _ _ _ _, heap_alloc_new _ _, hb0, by simp⟩
  case round =>
    clear hb0
    obtain ⟨j, hj, rfl, hown, hS, hB, hsz2⟩ := hrel
    by_cases hlt : j < n
    · obtain ⟨b, o, rfl, _, hcell⟩ := hC1.below hB (Nat.le_refl _) (by omega)
      have hcj := hcell j hlt
      obtain ⟨b1, b2⟩ := hs j
      obtain ⟨b3, b4⟩ := tmod_most (s j)
      obtain ⟨b5, b6⟩ := acc_bound (cutl s) (cut_small s) (j % 4) j
      have hlj : (s j).tmod 1073741824 = cutl s j := rfl
      rw [hlj] at b3 b4
      clear hcell
      go_wp2_with (first
        | (at_builtin; refine wpList_append_own _ rfl (.tmp 35) (.tmp 39) 25 rfl (w1.heap.size + 1) 3 i0 (.int .i64 0) 1 8 Try.underlying25 hi hz hsz hby rfl (by omega) u7 j (listOf (cutl s) j) rfl (hown.alloc _) ⟨wr.heap.size, 0, none⟩ 1 1 [.int .i64 (cutl s j)] rfl rfl ?c1 (int_cells _) ?c3 ?c4 ?c5 ?_
           case c1 => exact one_new _ _ _
           case c3 => simp only [maxLen]; omega
           case c4 => omega
           case c5 => simp; omega
           intro v' wA hown' hgrow _
           have hlk : ∀ k, u7.ownBlock = some k → w1.heap.size < k := fun k hk => by have := (hown.lt k hk).1; omega
           have hSA := (hS.alloc (.cells #[.int .i64 (cutl s j)] 3)).grown hgrow hlk
           have hBA := (hB.alloc (by omega) (.cells #[.int .i64 (cutl s j)] 3)).grown hgrow (by simp; omega) (fun k hk => Nat.le_of_lt (hlk k hk))
           have hzA : w1.heap.size < wA.heap.size := by have := hgrow.size; simp at this; omega
           rw [← listOf_succ] at hown'
           have hcl : wA.cell? ⟨w1.heap.size, j % 4, none⟩ = some (.int .i64 (acc (cutl s) (j % 4) j)) := (cell_of_row wA w1.heap.size (j % 4) _ 26 _ hSA).trans (sums_at _ _)
           have hfr : wA.frozen? ⟨w1.heap.size, j % 4, none⟩ = false := frozen_of_row wA w1.heap.size (j % 4) _ 26 hSA
           clear hlk hgrow hown hS hB hsz2))
      go_roundw
      case rel =>
        have hS2 := hSA.stored (j % 4) (.int .i64 (acc (cutl s) (j % 4) j + cutl s j))
        rw [sums_succ] at hS2
        have hne : v'.ownBlock ≠ some w1.heap.size := fun e => by have := (hown'.lt _ e).1; omega
        exact ⟨j + 1, by omega, by go_num, ownsRow_setCell_other hown' hne _, hS2, hBA.setCell (p := ⟨w1.heap.size, j % 4, none⟩) (Nat.le_refl _) _, by simpa using hzA⟩
      case measure => simp [intOf]; omega
    · obtain rfl : j = n := by omega
      obtain ⟨A', c', rfl, hCl⟩ := own_cells hown
      have hB2 := hB1.trans (hB.mono (by omega))
      have hZ2 := hZ1.below hB hsz1
      clear hlt hj hC1 hown
      go_wp2_with (first
        | (go_at_call 5; refine (quarters_any _ _ _ _ _ hn (cut_small s) hCl).mono ?_; rintro e w2 ⟨v0, v1, v2, v3, rfl, hF, hb2⟩
           have hB3 := hB2.trans (hb2.mono (by have := hB2.size; omega))
           have hZ3 := hZ2.below hb2 (by omega)
           have hS3 := hS.below hb2 hsz2
           have hC3 := hCl.below hb2 (Nat.le_refl _)
           have hsz3 : wr.heap.size ≤ w2.heap.size := hb2.size
           have hN : Row (w2.alloc (.cells #[zc, zc, zc, zc] 28)) w2.heap.size 28 #[zc, zc, zc, zc] := heap_alloc_new _ _
           have hN' := hN
           unfold Row at hN'
           clear hb2 hCl hZ2 hS hB hZ1)
        | (refine wpList_store_row rfl 28 (.tmp 11) (.tmp 52) rfl w2.heap.size _ rfl rfl 28 _ hN' cells28 rfl hF.one ?_
           have hN2 : Row ((w2.alloc (.cells #[zc, zc, zc, zc] 28)).setRow w2.heap.size #[v0, v1, v2, v3]) w2.heap.size 28 #[v0, v1, v2, v3] := setRow_heap _ _ _ _ _ _ hN
           have hB4 : Below w.heap.size w ((w2.alloc (.cells #[zc, zc, zc, zc] 28)).setRow w2.heap.size #[v0, v1, v2, v3]) := below_setRow (hB3.alloc (by have := hB2.size; omega) _) (by have := hB2.size; omega) _
           have hZ4 : Row ((w2.alloc (.cells #[zc, zc, zc, zc] 28)).setRow w2.heap.size #[v0, v1, v2, v3]) w.heap.size 23 _ := (hZ3.alloc _).setRow_other (by omega)
           have hS4 : Row ((w2.alloc (.cells #[zc, zc, zc, zc] 28)).setRow w2.heap.size #[v0, v1, v2, v3]) w1.heap.size 26 _ := (hS3.alloc _).setRow_other (by omega)
           have hb4 : Below w2.heap.size w2 ((w2.alloc (.cells #[zc, zc, zc, zc] 28)).setRow w2.heap.size #[v0, v1, v2, v3]) := below_setRow ((Below.refl _ _).alloc (Nat.le_refl _) _) (Nat.le_refl _) _
           have hC4 := hC3.below hb4 (Nat.le_refl _)
           have hsz4 : w2.heap.size < ((w2.alloc (.cells #[zc, zc, zc, zc] 28)).setRow w2.heap.size #[v0, v1, v2, v3]).heap.size := by simp
           clear hB3 hZ3 hS3 hC3 hb4 hN hN'
           generalize (w2.alloc (.cells #[zc, zc, zc, zc] 28)).setRow w2.heap.size #[v0, v1, v2, v3] = wF at *))
      go_loopw [53] (fun i wr => ∃ q : Nat, q ≤ 4 ∧ i = .int .i64 q ∧ Below wF.heap.size wF wr) (fun i _ => 4 - (intOf i).toNat)
      case atStart => exact ⟨0, by omega, rfl, Below.refl _ _⟩
      case round =>
        obtain ⟨q, hq, rfl, hB5⟩ := hrel
        have hC5 := hC4.below hB5 (Nat.le_refl _)
        have hN5 := hN2.below hB5 (by omega)
        by_cases hqt : q < 4
        · obtain ⟨wo, rfl⟩ : ∃ wo : World, wo = wr := ⟨_, rfl⟩
          have hqd : decide ((q : Int) < 4) = true := decide_eq_true (by omega)
          go_wp2
          clear hqd
          go_loop [13, 14, 58] (fun x y i => ∃ p : Nat, p ≤ j ∧ i = .int .i64 p ∧ x = .int .i64 (fre q (cutl s) p) ∧ y = .int .i64 (fim q (cutl s) p)) (fun _ _ i => j - (intOf i).toNat)
          case atStart => exact ⟨0, by omega, rfl, by simp [fre, acc], by simp [fim, acc]⟩
          case round =>
            obtain ⟨p, hp, rfl, rfl, rfl⟩ := hrel
            by_cases hpt : p < j
            · obtain ⟨b, o, rfl, _, hcell⟩ := hC5 (by omega)
              have hcp := hcell p hpt
              clear hcell
              obtain ⟨s1, s2⟩ := f_step q (cutl s) p
              obtain ⟨⟨b1, b2⟩, ⟨b3, b4⟩⟩ := f_bound q (cutl s) (cut_small s) p (by omega)
              obtain ⟨⟨b5, b6⟩, ⟨b7, b8⟩⟩ := f_bound q (cutl s) (cut_small s) (p + 1) (by omega)
              obtain ⟨b9, b10⟩ := cut_small s p
              have hw := mul_four q p hqt (by omega)
              have S1 := Lib.hid s1
              have S2 := Lib.hid s2
              rw [s1] at b5 b6
              rw [s2] at b7 b8
              clear s1 s2
              go_wp2_with (go_at_call 6; refine (turned_any _ _ (q * p) _ (by omega) (by omega) (by omega) (by omega)).mono ?_; rintro e w' ⟨rfl, rfl⟩)
              go_round
              case rel => exact ⟨p + 1, by omega, by go_num, by rw [S1.out], by rw [S2.out]⟩
              case measure => simp [intOf]; omega
            · obtain rfl : p = j := by omega
              obtain ⟨a, b, hab, ha, hb⟩ := hF.cell q hqt
              have hcq := (cell_of_row _ _ _ _ _ _ hN5).trans hab
              obtain ⟨⟨b1, b2⟩, ⟨b3, b4⟩⟩ := f_bound q (cutl s) (cut_small s) p (by omega)
              have o1 := rep_same ha (rep_ofInt _ (by omega))
              have o2 := rep_same hb (rep_ofInt _ (by omega))
              obtain ⟨r1, r2⟩ := qB_rep q (cutl s) (cut_small s) p hn
              have o3 := rep_same r1 ha
              have o4 := rep_same r2 hb
              clear hab r1 r2
              go_wp2
              go_quiet ((first | ((go_at_call 7; exact quiet_left (whole_any _ _ _))) | ((go_at_call 8; exact quiet_left (quarter_any _ _ _ _ _ _ hn (cut_small s) hC5)))))
              go_wp2
              exact ⟨⟨q + 1, by omega, by go_num, hB5.trans (drewN_below _ _ _)⟩, by simp [intOf]; omega⟩
        · have h4 : 4 ≤ q := by omega
          clear hqt hq
          have hS5 := hS4.below hB5 (by omega)
          have hZ5 := hZ4.below hB5 (by omega)
          have hB6 := hB4.trans (hB5.mono (by have := hB4.size; omega))
          have c0 : wr.cell? ⟨w.heap.size, 0, none⟩ = some (.int .i32 z0) := cell_of_row _ _ 0 _ _ _ hZ5
          have c1 : wr.cell? ⟨w.heap.size, 1, none⟩ = some (.int .i32 z1) := cell_of_row _ _ 1 _ _ _ hZ5
          go_wp2_with (first | (go_at_call 6; refine (turned_any _ _ _ _ (by omega) (by omega) (by omega) (by omega)).mono ?_; rintro e w' ⟨rfl, rfl⟩))
          have hq : ∀ w : World, (binOp .eql 26 (.agg #[.int .i64 (acc (cutl s) 0 j), .int .i64 (acc (cutl s) 1 j), .int .i64 (acc (cutl s) 2 j), .int .i64 (acc (cutl s) 3 j)]) (.agg #[.int .i64 (acc (cutl s) 0 j), .int .i64 (acc (cutl s) 1 j), .int .i64 (acc (cutl s) 2 j), .int .i64 (acc (cutl s) 3 j)])).run Try.prog w = .ok (.bool true) w := fun w => (run_eq_four w _ _ _ _ _ _ _ _).trans (by simp)
          obtain ⟨⟨o1, o2⟩, ⟨o3, o4⟩⟩ := turn_back k z0 z1 hz1 hz2 hz3 hz4
          have HB6 := Lib.hid hB6
          have HS : Hid (∀ wz, Stay wr wz → Stay wr wz ∧ wz.cell? ⟨w.heap.size, 0, none⟩ = some (.int .i32 z0) ∧ wz.cell? ⟨w.heap.size, 1, none⟩ = some (.int .i32 z1) ∧
              wz.cell? ⟨w2.heap.size, 0, none⟩ = some v0 ∧ wz.cell? ⟨w2.heap.size, 1, none⟩ = some v1 ∧ wz.cell? ⟨w2.heap.size, 2, none⟩ = some v2 ∧ wz.cell? ⟨w2.heap.size, 3, none⟩ = some v3 ∧
              wz.cell? ⟨w1.heap.size, 0, none⟩ = some (.int .i64 (acc (cutl s) 0 j)) ∧ wz.cell? ⟨w1.heap.size, 1, none⟩ = some (.int .i64 (acc (cutl s) 1 j)) ∧ wz.cell? ⟨w1.heap.size, 2, none⟩ = some (.int .i64 (acc (cutl s) 2 j)) ∧ wz.cell? ⟨w1.heap.size, 3, none⟩ = some (.int .i64 (acc (cutl s) 3 j))) := fun wz hs =>
            have z := hZ5.below hs hZ5.lt
            have f := hN5.below hs hN5.lt
            have a := hS5.below hs hS5.lt
            ⟨hs, cell_of_row _ _ 0 _ _ _ z, cell_of_row _ _ 1 _ _ _ z, cell_of_row _ _ 0 _ _ _ f, cell_of_row _ _ 1 _ _ _ f, cell_of_row _ _ 2 _ _ _ f, cell_of_row _ _ 3 _ _ _ f, cell_of_row _ _ 0 _ _ _ a, cell_of_row _ _ 1 _ _ _ a, cell_of_row _ _ 2 _ _ _ a, cell_of_row _ _ 3 _ _ _ a⟩
          clear hB1 hB2 hB4 hB5 hB6 hN2 hN5 hZ4 hZ5 hS4 hS5 hC4 hC5 c0 c1 hsz1 hsz2 hsz3 hsz4
          have hw0 : IntKind.i64.wrap z0 = z0 := by rw [IntKind.wrap_i64]; omega
          have hw1 : IntKind.i64.wrap z1 = z1 := by rw [IntKind.wrap_i64]; omega
          go_region_held3 (fun wz => Stay wr wz ∧ wz.cell? ⟨w.heap.size, 0, none⟩ = some (.int .i32 z0) ∧ wz.cell? ⟨w.heap.size, 1, none⟩ = some (.int .i32 z1) ∧
              wz.cell? ⟨w2.heap.size, 0, none⟩ = some v0 ∧ wz.cell? ⟨w2.heap.size, 1, none⟩ = some v1 ∧ wz.cell? ⟨w2.heap.size, 2, none⟩ = some v2 ∧ wz.cell? ⟨w2.heap.size, 3, none⟩ = some v3 ∧
              wz.cell? ⟨w1.heap.size, 0, none⟩ = some (.int .i64 (acc (cutl s) 0 j)) ∧ wz.cell? ⟨w1.heap.size, 1, none⟩ = some (.int .i64 (acc (cutl s) 1 j)) ∧ wz.cell? ⟨w1.heap.size, 2, none⟩ = some (.int .i64 (acc (cutl s) 2 j)) ∧ wz.cell? ⟨w1.heap.size, 3, none⟩ = some (.int .i64 (acc (cutl s) 3 j)))
            (first | exact HS.out _ (Stay.drew _) | exact HS.out _ (by assumption) | exact HS.out _ (And.left (by assumption)) | go_keep)
            (first
              | (go_at_call 7; refine (whole_any _ _ _).mono ?_; rintro e w' ⟨rfl, rfl⟩)
              | (go_at_call 10; refine (turn_any _ _ _ _).mono ?_; rintro e w' ⟨rfl, rfl⟩)
              | (go_at_call 9; refine (back_any _ _ hn (cut_small s) _ _ _ _ hF _).mono ?_; rintro e wn ⟨rfl, hbn⟩; have hst : Stay wr wn := Stay.next (by first | assumption | exact Stay.drew _ | exact And.left (by assumption)) hbn))
          go_wp2
          go_ret
          exact ⟨rfl, HB6.out.trans (Below.mono (show Below wr.heap.size wr wn from And.left (by assumption)) HB6.out.size)⟩
end Go.Proofs.Ytccbhiijclncpaa.Tally
