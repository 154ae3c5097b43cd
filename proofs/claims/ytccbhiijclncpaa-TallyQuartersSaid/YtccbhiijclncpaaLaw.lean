/- TallyQuarters: for every input the law returns true, and each argument reads behind the call as it read before. No condition. -/
import Derived.Test.YtccbhiijclncpaaRows
import Derived.Test.YtccbhiijclncpaaLawA
import Derived.ProofKit
import Derived.OpenShut
import Derived.ShutString
import Derived.ChangeOld
namespace Go.Proofs.Ytccbhiijclncpaa.Tally
open Go.ChangeShapes Go.WideShapes Go.ChangeAt Go.RowKit
set_option linter.unusedVariables false

theorem own : ownKnob Try.prog.godebug = none := by kernel_rfl
theorem laidOut : laidOutB Try.prog = true := by kernel_rfl

/-- What is known of a slice of integers that came in: it is nil, or it leads to a row of cells, the numbers zs, each fitting its kind. -/
def IsRow (k : IntKind) (w : World) (a : Option Addr) (len cap : Nat) (zs : List Int) : Prop :=
  (a = none ∧ len = 0 ∧ cap = 0 ∧ zs = []) ∨
  ∃ x, a = some x ∧ len ≤ cap ∧ cap ≤ maxLen ∧ zs.length = cap ∧ (∀ i, i < zs.length → w.cell? (x.add i) = some (.int k (zs.getD i 0))) ∧ ∀ n ∈ zs, (Lit.int k n).wf = true

theorem row_cells {w : World} {a : Option Addr} {len cap : Nat} {zs : List Int} (h : IsRow .i32 w a len cap zs) : Cells32 w a len (fun j => zs.getD j 0) ∧ Wide (fun j => zs.getD j 0) ∧ len ≤ maxLen := by
  rcases h with ⟨rfl, rfl, rfl, rfl⟩ | ⟨x, rfl, hl, hm, hz, hcell, hwz⟩
  · exact ⟨fun h => by omega, fun j => by simp, by simp [maxLen]⟩
  · refine ⟨fun hn => ?_, fun j => ?_, by omega⟩
    · obtain ⟨b, off, spot⟩ := x
      have hc := hcell 0 (by omega)
      have hspot : spot = none := by simpa [Addr.add] using World.cell?_spot hc
      subst hspot
      refine ⟨b, off, rfl, ?_, fun j hj => ?_⟩
      · have hc0 : w.cell? ⟨b, off, none⟩ = some (.int .i32 (zs.getD 0 0)) := by simpa [Addr.add] using hc
        exact block_lt_of_cell hc0
      · have hcj := hcell j (by omega)
        have e : (⟨b, off, none⟩ : Addr).add j = ⟨b, off + j, none⟩ := by
          unfold Addr.add
          split <;> simp_all
        rw [e] at hcj
        exact hcj
    · rcases Nat.lt_or_ge j zs.length with hj | hj
      · have e : zs.getD j 0 = zs[j] := by simp [List.getD, List.getElem?_eq_getElem hj]
        show -2147483648 ≤ zs.getD j 0 ∧ zs.getD j 0 ≤ 2147483647
        rw [e]
        exact bounds_i32 (hwz _ (List.getElem_mem hj))
      · have e : zs.getD j 0 = 0 := by simp [List.getD, List.getElem?_eq_none hj]
        show -2147483648 ≤ zs.getD j 0 ∧ zs.getD j 0 ≤ 2147483647
        rw [e]
        omega
set_option maxHeartbeats 1000000 in
set_option maxRecDepth 100000 in
theorem law_long (A : Option Addr) (n cap : Nat) (k z0 z1 : Int) (w : World) (hn : 200 < n) (hm : n ≤ maxLen) :
    Calls Try.prog 3 #[.slice A n cap, .int .i64 k, .agg #[.int .i32 z0, .int .i32 z1]] w fun e w' => e = .returned (.bool true) ∧ Below w.heap.size w w' := by
  unfold maxLen at hm
  go_enter Try.func3, Try.ntmps3
  go_wp2_with (go_at_call 4; refine (speaks_any _).mono ?_; rintro e w1 ⟨rfl, hb1⟩)
  have hB1 : Below w.heap.size w w1 := ((Below.refl _ _).alloc (Nat.le_refl _) _).trans (hb1.mono (by simp))
  go_ret
  exact ⟨rfl, hB1⟩
theorem walk (a0 : Option Addr) (len0 cap0 : Nat) (zs : List Int) (a1 z0 z1 : Int) (w : World) (w0 : IsRow .i32 w a0 len0 cap0 zs) (w1 : (Lit.int .i64 a1).wf = true) (w2 : (Lit.int .i32 z0).wf = true) (w3 : (Lit.int .i32 z1).wf = true) :
    Calls Try.prog 3 #[.slice a0 len0 cap0, .int .i64 a1, .agg #[.int .i32 z0, .int .i32 z1]] w fun e w' => e = .returned (.bool true) ∧ Below w.heap.size w w' := by
  obtain ⟨hc, hs, hm⟩ := row_cells w0
  have b1 := bounds_i64 w1
  have b2 := bounds_i32 w2
  have b3 := bounds_i32 w3
  by_cases hn : len0 ≤ 200
  · exact law_any a0 len0 cap0 _ a1 z0 z1 w hn hs hc b1.1 b1.2 b2.1 b2.2 b3.1 b3.2
  · exact law_long a0 len0 cap0 a1 z0 z1 w (by omega) hm
section
variable {H : Type} {enc : TypeId × Value → H} {w : World} {base : Nat} {spare : Nat → Bool} {held : Bool}
theorem okWide_two {r : Reach} {b0 : Nat} {v : Value} (h : Value.okWide Try.prog w r b0 23 v) : ∃ c0 c1, v = .agg #[c0, c1] := by
  unfold Value.okWide at h
  rw [Try.underlying23] at h
  obtain ⟨cs, rfl, hsz, _⟩ := h
  obtain ⟨l⟩ := cs
  have e : Try.prog.cellsOf 23 = 2 := by kernel_rfl
  rw [e] at hsz
  match l, hsz with
  | [c0, c1], _ => exact ⟨c0, c1, rfl⟩
theorem open_two {r : Reach} {b0 : Nat} {v : Value} {d : DataW H} {p : List MemPlace} (hv : Value.okWide Try.prog w r b0 23 v) (h : DataW.Trod enc Try.prog w base spare held 23 v d p) :
    ∃ z0 z1, v = .agg #[.int .i32 z0, .int .i32 z1] ∧ (Lit.int .i32 z0).wf = true ∧ (Lit.int .i32 z1).wf = true := by
  obtain ⟨c0, c1, rfl⟩ := okWide_two hv
  obtain ⟨fuel, hf⟩ := h
  obtain ⟨xs, m, _, _, hl, hlen, hx⟩ := DataW.trod_array Try.underlying23 hf
  have e : Try.prog.cellsOf 21 = 1 := by kernel_rfl
  rw [e] at hx
  match xs, hlen with
  | [y0, y1], _ =>
    have h0 := hx 0 (by omega)
    have h1 := hx 1 (by omega)
    obtain ⟨z0, e0, _, f0⟩ := DataW.trod_int Try.underlying21 h0
    obtain ⟨z1, e1, _, f1⟩ := DataW.trod_int Try.underlying21 h1
    simp [Value.cells] at e0 e1
    subst e0 e1
    exact ⟨z0, z1, rfl, f0, f1⟩
end
set_option maxRecDepth 100000 in
theorem lifted (os : Os) (started : os.Started) (H : Type) (enc : TypeId × Value → H) :
    ReturnsInHanded {} Try.checked os 3 .any (Rows.tallyQuartersSpec.pre6 enc Try.prog Try.f3 Rows.tallyQuartersRow.domain false) (Rows.tallyQuartersSpec.post enc Try.prog Try.f3 false true false false) := by
  refine returnsInHanded_of_change (C := Try.checked) own started (by kernel_rfl) Try.func3
    (ChangeSpec.witness6 (enc := enc) (C := Try.checked) false ⟨#[], #[.slice none 0 0, .int .i64 0, .agg #[.int .i32 0, .int .i32 0]], []⟩ 8 (by kernel_rfl) (by kernel_rfl) (by kernel_rfl) (by kernel_rfl)) ?_
  intro W base args ds gs before hval0 hW hcnd _
  have hval : ∀ (j : Nat) t v, Try.f3.params[j]? = some t → args[j]? = some v → Value.okWide Try.prog W .any base t v := hval0
  have hW' := hW
  obtain ⟨p, q, hA0, hV, rfl, hfz, hnd⟩ := hW
  have hA : DataW.TrodAll enc Try.prog W 0 (fun _ => true) true Try.f3.params.toList args.toList ds p := hA0
  rw [Try.params3] at hA hval
  obtain ⟨v0, vs0, d0, ds0, p0, q0, hargs, rfl, rfl, h0, r0⟩ := trodAll_cons hA
  obtain ⟨v1, vs1, d1, ds1, p1, q1, rfl, rfl, rfl, h1, r1⟩ := trodAll_cons r0
  obtain ⟨v2, vs2, d2, ds2, p2, q2, rfl, rfl, rfl, h2, r2⟩ := trodAll_cons r1
  obtain ⟨rfl, rfl, rfl⟩ := trodAll_nil r2
  obtain rfl : args = #[v0, v1, v2] := by cases args; simp_all
  obtain ⟨rfl, rfl⟩ := trodVars_none hV
  obtain ⟨a0, len0, cap0, rfl⟩ := okWide_slice Try.underlying22 (hval 0 22 v0 rfl rfl)
  have k0 := h0
  have lt0 : ∀ x ∈ p0, x.block < W.heap.size := by obtain ⟨m, hm⟩ := k0; exact DataW.trod_lt m _ _ _ hm
  obtain ⟨z0, w0⟩ : ∃ zs, IsRow .i32 W a0 len0 cap0 zs := by
    obtain ⟨fuel, hf⟩ := h0
    rcases open_ints Try.underlying22 Try.underlying21 (by kernel_rfl) hf with ⟨hcs, _⟩ | ⟨x, l, c, zs, hcs, _, hl, hm, hz, _, hcell, hwz⟩
    · simp [Value.cells] at hcs
      obtain ⟨rfl, rfl, rfl⟩ := hcs
      exact ⟨[], .inl ⟨rfl, rfl, rfl, rfl⟩⟩
    · simp [Value.cells] at hcs
      obtain ⟨rfl, rfl, rfl⟩ := hcs
      exact ⟨zs, .inr ⟨_, rfl, hl, hm, by simpa using hz, hcell, hwz⟩⟩
  obtain ⟨a1, rfl, rfl, rfl, w1⟩ := open_int Try.underlying3 (hval 1 3 v1 rfl rfl) h1
  have k2 := h2
  have lt2 : ∀ x ∈ p2, x.block < W.heap.size := by obtain ⟨m, hm⟩ := k2; exact DataW.trod_lt m _ _ _ hm
  obtain ⟨x0, x1, rfl, w2, w3⟩ := open_two (hval 2 23 v2 rfl rfl) h2
  clear hA0 hval0
  refine (walk a0 len0 cap0 z0 a1 x0 x1 W w0 w1 w2 w3).mono fun e W' ⟨he, bel⟩ => ?_
  subst he
  exact ⟨_, rfl, _, _, _, [], _, [], hW', trodAll_mk1 (shut_bool Try.underlying4 _), (trodAll_cons_mk (Below.trod laidOut (by kernel_rfl) (of_decide_eq_true (by kernel_rfl)) k0 bel lt0) (trodAll_cons_mk (shut_int Try.underlying3 w1) (trodAll_cons_mk (Below.trod laidOut (by kernel_rfl) (of_decide_eq_true (by kernel_rfl)) k2 bel lt2) trodAll_mk0))), rfl, bel.frame _, fun h => by cases h⟩

theorem over : Rows.tallyQuartersRow.holds Try.pinned (OpenSpec.ofChange Rows.tallyQuartersSpec) :=
  OpenClaim.holds_of_wide 3 Try.f3 rfl rfl rfl rfl rfl rfl rfl ⟨rfl, rfl, rfl, rfl, rfl⟩ rfl rfl rfl rfl rfl (by kernel_rfl) Try.func3 (by kernel_rfl)
    (of_decide_eq_true (by kernel_rfl)) (by unfold Func.isWrapper; first | (rw [if_pos (by decide +kernel)]; kernel_rfl) | (rw [if_neg (by decide +kernel)]; exact ⟨rfl, rfl⟩))
    (fun os started H enc _ => lifted os started H enc)

/-- The statement. -/
theorem TallyQuarters : Rows.TallyQuartersSaid := over
#print axioms TallyQuarters
end Go.Proofs.Ytccbhiijclncpaa.Tally
