/- THE CONTRACTS of Turn, whole and turned: what each call answers, in terms of the words' bits and of whole numbers. -/
import Derived.Test.YtccbhiijclncpaaProg
import Derived.Test.YtccbhiijclncpaaRep
import Derived.WalkKit
import Derived.WalkSpells
import Derived.WalkLawsBesides
import Derived.Deep.QuietTactic
import Derived.BigQuiet
import Derived.Lib.Hide
namespace Go.Proofs.Ytccbhiijclncpaa.Tally
open Go.RowKit
/-- What Turn does to the bits. -/
def turnB (q : Int) (re im : Nat) : Nat × Nat := if q % 4 = 1 then (Op.negFloat .f64 im, re) else if q % 4 = 2 then (Op.negFloat .f64 re, Op.negFloat .f64 im) else if q % 4 = 3 then (im, Op.negFloat .f64 re) else (re, im)
theorem and3 (q : Int) : bits .and .i64 q 3 = q % 4 := by
  have h : (BitVec.ofInt 64 q &&& BitVec.ofInt 64 3).toNat = (q % 4).toNat := by
    rw [BitVec.toNat_and, BitVec.toNat_ofInt]
    have : (BitVec.ofInt 64 3).toNat = 2 ^ 2 - 1 := by decide
    rw [this, Nat.and_two_pow_sub_one_eq_mod]
    omega
  show IntKind.i64.wrap ((BitVec.ofInt 64 q &&& BitVec.ofInt 64 3).toNat) = q % 4
  rw [h, IntKind.wrap_i64]
  omega
theorem run_neg_float {P : Program} (w : World) (k : FloatKind) (b : Nat) : (Op.unary .neg (.float k b)).run P w = .ok (.float k (Op.negFloat k b)) w := rfl
theorem run_neg_complex {P : Program} (w : World) (k : FloatKind) (a b : Nat) : (Op.unary .neg (.complex k a b)).run P w = .ok (.complex k (Op.negFloat k a) (Op.negFloat k b)) w := rfl
attribute [local go_sem] run_neg_float run_neg_complex
set_option maxHeartbeats 400000 in
theorem turn_any (re im : Nat) (q : Int) (w : World) : Calls Try.prog 10 #[.complex .f64 re im, .int .i64 q] w fun e w' => e = .returned (.complex .f64 (turnB q re im).1 (turnB q re im).2) ∧ w = w' := by
  have hb := and3 q
  obtain ⟨m, hm⟩ : ∃ m, m = q % 4 := ⟨_, rfl⟩
  rw [← hm] at hb
  have H := Lib.hid hm
  clear hm
  go_enter Try.func10, Try.ntmps10
  go_wp2
  · have hm := H.out
    go_ret
    exact ⟨by simp_all [turnB], rfl⟩
  · have hm := H.out
    go_ret
    exact ⟨by simp_all [turnB], rfl⟩
  · have hm := H.out
    go_ret
    exact ⟨by simp_all [turnB], rfl⟩
  · have hm := H.out
    go_ret
    exact ⟨by simp_all [turnB], rfl⟩
theorem run_conv {P : Program} (w : World) (src dst : TypeId) (k : IntKind) (n : Int) (hs : P.underlying src = some (.int k)) (hd : P.underlying dst = some (.float .f64)) : (convert src dst (.int k n)).run P w = .ok (.float .f64 (floatOfInt .f64 n)) w := by
  simp [convert, run_underlying hs, run_underlying hd, Conv.intToFloat, floatOfInt]
set_option maxHeartbeats 400000 in
theorem whole_any (x y : Int) (w : World) : Calls Try.prog 7 #[.int .i64 x, .int .i64 y] w fun e w' => e = .returned (.complex .f64 (floatOfInt .f64 x) (floatOfInt .f64 y)) ∧ w = w' := by
  have hc := fun (w : World) (n : Int) => run_conv (P := Try.prog) w 3 37 .i64 n Try.underlying3 Try.underlying37
  go_enter Try.func7, Try.ntmps7
  go_wp2
  go_ret
  exact ⟨rfl, rfl⟩
end Go.Proofs.Ytccbhiijclncpaa.Tally
