/- THE CONTRACT of Quarters: of at most 200 sizes of at most 2^30 each. -/
import Derived.Test.YtccbhiijclncpaaQuarter
import Derived.Laws.Rows
import Derived.Below
import Derived.Laws.CopyOwn
namespace Go.Proofs.Ytccbhiijclncpaa.Tally
open Go.RowKit
/-- A block that holds just these cells, none of them frozen. -/
def Row (w : World) (g : Nat) (t : TypeId) (cs : Array Value) : Prop := w.heap[g]? = some (.cells cs t (0, 0))
theorem Cells.below {w w' : World} {B : Nat} {A : Option Addr} {n : Nat} {l : Nat → Int} (h : Cells w A n l) (hb : Below B w w') (hB : w.heap.size ≤ B) : Cells w' A n l := fun hn => by
  obtain ⟨b, o, e, hlt, hc⟩ := h hn
  exact ⟨b, o, e, Nat.lt_of_lt_of_le hlt hb.size, fun j hj => (hb.cell (p := ⟨b, o + j, none⟩) (Nat.lt_of_lt_of_le hlt hB)).trans (hc j hj)⟩
/-- The four quarters of n sizes, as a value. -/
def IsF (l : Nat → Int) (n m : Nat) (v0 v1 v2 v3 : Value) : Prop :=
  (0 < m → ∃ a b, v0 = .complex .f64 a b ∧ Rep (fre 0 l n) a ∧ Rep (fim 0 l n) b) ∧ (1 < m → ∃ a b, v1 = .complex .f64 a b ∧ Rep (fre 1 l n) a ∧ Rep (fim 1 l n) b) ∧
  (2 < m → ∃ a b, v2 = .complex .f64 a b ∧ Rep (fre 2 l n) a ∧ Rep (fim 2 l n) b) ∧ (3 < m → ∃ a b, v3 = .complex .f64 a b ∧ Rep (fre 3 l n) a ∧ Rep (fim 3 l n) b)
def QuartersPost (l : Nat → Int) (n : Nat) (w : World) (e : Ending) (w' : World) : Prop := ∃ v0 v1 v2 v3, e = .returned (.agg #[v0, v1, v2, v3]) ∧ IsF l n 4 v0 v1 v2 v3 ∧ Below w.heap.size w w'
abbrev zc : Value := .complex .f64 0 0
section
variable {w w' : World} {g : Nat} {t : TypeId} {cs : Array Value}
theorem Row.lt (h : Row w g t cs) : g < w.heap.size := by
  rcases Nat.lt_or_ge g w.heap.size with a | a
  · exact a
  · unfold Row at h; rw [Array.getElem?_eq_none a] at h; cases h
theorem Row.stored (h : Row w g t cs) (i : Nat) (u : Value) : Row (w.setCell ⟨g, i, none⟩ u) g t (cs.setIfInBounds i u) := by
  unfold Row at h ⊢
  simp [World.setCell, Array.getElem?_modify, h]
theorem Row.other (h : Row w g t cs) (a : Addr) (ha : g ≠ a.block) (u : Value) : Row (w.setCell a u) g t cs := (Below.heap_setCell w a u g ha).trans h
theorem Row.below {B : Nat} (h : Row w g t cs) (hb : Below B w w') (hg : g < B) : Row w' g t cs := (hb.block g hg).trans h
theorem Row.alloc (h : Row w g t cs) (o : Obj) : Row (w.alloc o) g t cs := (Below.heap_alloc w o g h.lt).trans h
end
theorem IsF.zero (l : Nat → Int) (n : Nat) (a b c d : Value) : IsF l n 0 a b c d := ⟨fun h => by omega, fun h => by omega, fun h => by omega, fun h => by omega⟩
theorem row_four {w : World} {g j : Nat} {t : TypeId} {a b c d : Value} (h : Row w g t #[a, b, c, d]) (hj : j < 4) : ∃ u, w.cell? ⟨g, j, none⟩ = some u := by
  rw [cell_of_row w g j _ t _ h]
  exact ⟨_, Array.getElem?_eq_getElem (by simpa using hj)⟩
theorem IsF.succ {l : Nat → Int} {n j : Nat} {v0 v1 v2 v3 : Value} (h : IsF l n j v0 v1 v2 v3) (hj : j < 4) {re im : Nat} (hr : Rep (fre j l n) re) (hi : Rep (fim j l n) im) :
    ∃ a b c d, #[v0, v1, v2, v3].setIfInBounds j (.complex .f64 re im) = #[a, b, c, d] ∧ IsF l n (j + 1) a b c d := by
  obtain ⟨h0, h1, h2, h3⟩ := h
  have e : j = 0 ∨ j = 1 ∨ j = 2 ∨ j = 3 := by omega
  rcases e with rfl | rfl | rfl | rfl
  · exact ⟨_, _, _, _, rfl, fun _ => ⟨_, _, rfl, hr, hi⟩, fun a => by omega, fun a => by omega, fun a => by omega⟩
  · exact ⟨_, _, _, _, rfl, fun _ => h0 (by omega), fun _ => ⟨_, _, rfl, hr, hi⟩, fun a => by omega, fun a => by omega⟩
  · exact ⟨_, _, _, _, rfl, fun _ => h0 (by omega), fun _ => h1 (by omega), fun _ => ⟨_, _, rfl, hr, hi⟩, fun a => by omega⟩
  · exact ⟨_, _, _, _, rfl, fun _ => h0 (by omega), fun _ => h1 (by omega), fun _ => h2 (by omega), fun _ => ⟨_, _, rfl, hr, hi⟩⟩
theorem IsF.shape {l : Nat → Int} {n : Nat} {v0 v1 v2 v3 : Value} (h : IsF l n 4 v0 v1 v2 v3) :
    ∃ a0 b0 a1 b1 a2 b2 a3 b3, v0 = .complex .f64 a0 b0 ∧ v1 = .complex .f64 a1 b1 ∧ v2 = .complex .f64 a2 b2 ∧ v3 = .complex .f64 a3 b3 := by
  obtain ⟨h0, h1, h2, h3⟩ := h
  obtain ⟨a0, b0, e0, _⟩ := h0 (by omega)
  obtain ⟨a1, b1, e1, _⟩ := h1 (by omega)
  obtain ⟨a2, b2, e2, _⟩ := h2 (by omega)
  obtain ⟨a3, b3, e3, _⟩ := h3 (by omega)
  exact ⟨a0, b0, a1, b1, a2, b2, a3, b3, e0, e1, e2, e3⟩
theorem run_store_complex (P : Program) (w : World) (a : Addr) (m : Mode) (k : FloatKind) (x y : Nat) : (store a (.complex k x y) m).run P w = stored P w a (.complex k x y) m := run_store P w a _ m rfl
attribute [local go_sem] run_store_complex
theorem four_one (a b c d e f g h : Nat) : (#[Value.complex .f64 a b, .complex .f64 c d, .complex .f64 e f, .complex .f64 g h].all fun x => x.oneCell') = true := by simp [Value.oneCell']
theorem cells28 : (Try.prog.info? 28).map (·.size) = some 4 := by kernel_rfl
theorem cells26 : (Try.prog.info? 26).map (·.size) = some 4 := by kernel_rfl
set_option maxHeartbeats 1000000 in
theorem quarters_any (A : Option Addr) (n cap : Nat) (l : Nat → Int) (w : World) (hn : n ≤ 200) (hl : Small l) (hc : Cells w A n l) :
    Calls Try.prog 5 #[.slice A n cap] w (QuartersPost l n w) := by
  go_enter Try.func5, Try.ntmps5
  go_wp2
  have hb0 : Below w.heap.size w ((w.alloc (.cells #[zc, zc, zc, zc] 28)).alloc (.cells #[zc, zc, zc, zc] 28)) := ((Below.refl _ _).alloc (Nat.le_refl _) _).alloc (by simp) _
  go_loopw [4, 5, 6, 7, 8, 9, 10, 11, 12, 13] (fun _ i _ _ _ _ _ _ _ _ wr => ∃ j : Nat, ∃ v0 v1 v2 v3, j ≤ 4 ∧ i = .int .i64 j ∧ IsF l n j v0 v1 v2 v3 ∧ Row wr (w.heap.size + 1) 28 #[v0, v1, v2, v3] ∧ Row wr w.heap.size 28 #[zc, zc, zc, zc] ∧ Below w.heap.size w wr) (fun _ i _ _ _ _ _ _ _ _ _ => 4 - (intOf i).toNat)
  case atStart => exact ⟨0, zc, zc, zc, zc, by omega, rfl, IsF.zero _ _ _ _ _ _, heap_alloc2_new w _ _, heap_alloc2_old w _ _, hb0⟩
  case round =>
    clear hb0
    obtain ⟨j, v0, v1, v2, v3, hj, rfl, hF, hR, hZ, hB⟩ := hrel
    by_cases hlt : j < 4
    · have hfz := frozen_of_row wr (w.heap.size + 1) j _ 28 hR
      obtain ⟨cu, hcu⟩ := row_four hR hlt
      have hC := hc.below hB (Nat.le_refl _)
      go_wp2_with (go_at_call 8; refine (quarter_any _ _ _ _ _ _ hn hl hC).mono ?_; rintro e w' ⟨rfl, rfl⟩)
      obtain ⟨hre, him⟩ := qB_rep j l hl n hn
      generalize qB j l n = q at *
      obtain ⟨re, im⟩ := q
      have hR1 := hR.stored j (.complex .f64 re im)
      have hZ1 := hZ.other ⟨w.heap.size + 1, j, none⟩ (by simp) (.complex .f64 re im)
      have hB1 := hB.setCell (p := ⟨w.heap.size + 1, j, none⟩) (by simp) (.complex .f64 re im)
      obtain ⟨a, b, c, d, e1, hF1⟩ := hF.succ hlt hre him
      rw [e1] at hR1
      clear e1 hcu hfz hC hR hZ hB hF hre him
      go_roundw
      case rel => exact ⟨j + 1, a, b, c, d, by omega, by go_num, hF1, hR1, hZ1, hB1⟩
      case measure => simp [intOf]; omega
    · have h4 : 4 ≤ j := by omega
      have hF4 : IsF l n 4 v0 v1 v2 v3 := (by omega : j = 4) ▸ hF
      obtain ⟨a0, b0, a1, b1, a2, b2, a3, b3, rfl, rfl, rfl, rfl⟩ := hF4.shape
      clear hF
      have hR' := hR
      unfold Row at hR' hZ
      go_wp2_with (first | (refine wpList_load_row rfl 28 (.tmp 3) rfl (w.heap.size + 1) rfl 28 _ _ _ hR' Try.underlying28 rfl cells28 ?_) | (refine wpList_store_row rfl 28 (.tmp 2) (.tmp 14) rfl w.heap.size _ rfl rfl 28 _ hZ cells28 rfl (four_one _ _ _ _ _ _ _ _) ?_))
      refine bodyPost_ret (v := .agg #[.complex .f64 a0 b0, .complex .f64 a1 b1, .complex .f64 a2 b2, .complex .f64 a3 b3]) (results_cell_row (p := 2) (ty := 28) rfl _ _ w.heap.size 28 _ (0, 0) _ rfl (setRow_heap _ _ _ _ _ _ hZ) Try.underlying28 rfl cells28) rfl ?_
      exact ⟨_, _, _, _, rfl, hF4, below_setRow hB (Nat.le_refl _) _⟩
end Go.Proofs.Ytccbhiijclncpaa.Tally
