/- Fixnums as words, and back: value and tandemref04. -/
import Derived.Test.YtanjiecefioffaaHeapRead
namespace Go.Proofs.Ytanjiecefioffaa
open Go.RowKit

theorem u64_or_low (i : Nat) (x y : Int) (hx : 0 ≤ x) (hx2 : x < 2 ^ i) (hy : 0 ≤ y) (hi : i < 64) (hs : 2 ^ i * y < 18446744073709551616) : bits .or .u64 (2 ^ i * y) x = x + 2 ^ i * y := by
  obtain ⟨m, rfl⟩ := Int.eq_ofNat_of_zero_le hx
  obtain ⟨n, rfl⟩ := Int.eq_ofNat_of_zero_le hy
  have hp : ((2 ^ i : Nat) : Int) = (2 : Int) ^ i := by simp
  have hlt : 2 ^ i < 18446744073709551616 := Nat.pow_lt_pow_right (by decide) (show i < 64 from hi)
  have e : ((2 : Int) ^ i * (n : Int)) = ((2 ^ i * n : Nat) : Int) := by simp
  rw [e] at hs ⊢
  have hm : m < 2 ^ i := by omega
  rw [u64_or_nat _ _ (by omega) (by omega), ← Nat.two_pow_add_eq_or_of_lt hm]
  omega

def fixW (n : Int) : Int := if -2305843009213693952 ≤ n ∧ n < 2305843009213693952 then (4 * n + 1) % 18446744073709551616 else 0
def fixB (n : Int) : Bool := decide (-2305843009213693952 ≤ n) && decide (n < 2305843009213693952)
def intW (w : Int) : Int := if w % 4 = 1 then (if w < 9223372036854775808 then w / 4 else (w - 18446744073709551616) / 4) else 0
def intB (w : Int) : Bool := decide (w % 4 = 1)

set_option maxRecDepth 100000 in
theorem Fix_any (w : World) (n : Int) (h0 : -9223372036854775808 ≤ n) (h1 : n < 9223372036854775808) :
    Calls Try.prog 12 #[.int .i64 n] w (Says (.tuple #[.int .u64 (fixW n), .bool (fixB n)]) w) := by
  by_cases ha : n < -2305843009213693952
  · have b1 : decide (n < -2305843009213693952) = true := by simp [ha]
    go_enter Try.func12, Try.ntmps12
    go_wp2_with fail
    go_ret2
    have hf : fixW n = 0 := by unfold fixW; rw [if_neg (by omega)]
    have hb : fixB n = false := by unfold fixB; simp; omega
    rw [hf, hb]
    exact ⟨rfl, 0, rfl⟩
  · by_cases hb : n < 2305843009213693952
    · have b1 : decide (n < -2305843009213693952) = false := by simp; omega
      have b2 : decide (n ≥ 2305843009213693952) = false := by simp; omega
      go_enter Try.func12, Try.ntmps12
      go_wp2_with fail
      go_ret2
      have hw : IntKind.u64.wrap (IntKind.u64.wrap n * 4) = 2 ^ 2 * ((IntKind.u64.wrap (IntKind.u64.wrap n * 4)) / 4) := by rw [IntKind.wrap_u64, IntKind.wrap_u64]; omega
      have hl : 0 ≤ IntKind.u64.wrap (IntKind.u64.wrap n * 4) ∧ IntKind.u64.wrap (IntKind.u64.wrap n * 4) < 18446744073709551616 := by rw [IntKind.wrap_u64]; omega
      have ho := u64_or_low 2 1 ((IntKind.u64.wrap (IntKind.u64.wrap n * 4)) / 4) (by omega) (by omega) (by omega) (by omega) (by rw [← hw]; exact hl.2)
      rw [← hw] at ho
      have hb : fixB n = true := by unfold fixB; simp; omega
      have hf : bits .or .u64 (IntKind.u64.wrap (IntKind.u64.wrap n * 4)) 1 = fixW n := by
        rw [ho, IntKind.wrap_u64, IntKind.wrap_u64]; unfold fixW; rw [if_pos (by omega)]; omega
      rw [← hf, hb]
      exact ⟨rfl, 0, rfl⟩
    · have b1 : decide (n < -2305843009213693952) = false := by simp; omega
      have b2 : decide (n ≥ 2305843009213693952) = true := by simp; omega
      go_enter Try.func12, Try.ntmps12
      go_wp2_with fail
      go_ret2
      have hf : fixW n = 0 := by unfold fixW; rw [if_neg (by omega)]
      have hb : fixB n = false := by unfold fixB; simp; omega
      rw [hf, hb]
      exact ⟨rfl, 0, rfl⟩

set_option maxRecDepth 100000 in
theorem Int_any (w : World) (x : Int) (h0 : 0 ≤ x) (h1 : x < 18446744073709551616) :
    Calls Try.prog 14 #[.int .u64 x] w (Says (.tuple #[.int .i64 (intW x), .bool (intB x)]) w) := by
  have hm : bits .and .u64 x 3 = x % 4 := u64_mask2 x h0 h1
  by_cases ha : x % 4 = 1
  · have b1 : (x % 4 != 1) = false := by simp [ha]
    go_enter Try.func14, Try.ntmps14
    go_wp2_with fail
    go_ret2
    have hf : wrap64 x / 4 = intW x := by unfold wrap64 intW; rw [if_pos ha]; split <;> omega
    have hb : intB x = true := by unfold intB; simp [ha]
    rw [← hf, hb]
    exact ⟨rfl, 0, rfl⟩
  · have b1 : (x % 4 != 1) = true := by simp [ha]
    go_enter Try.func14, Try.ntmps14
    go_wp2_with fail
    go_ret2
    have hf : intW x = 0 := by unfold intW; rw [if_neg ha]
    have hb : intB x = false := by unfold intB; simp [ha]
    rw [hf, hb]
    exact ⟨rfl, 0, rfl⟩

set_option maxRecDepth 100000 in
theorem rFix_any (w : World) (n : Int) (h0 : -9223372036854775808 ≤ n) (h1 : n < 9223372036854775808) :
    Calls Try.prog 13 #[.int .i64 n] w (Says (.tuple #[.int .u64 (fixW n), .bool (fixB n)]) w) := by
  by_cases ha : n < -2305843009213693952
  · have b1 : decide (n < -2305843009213693952) = true := by simp [ha]
    go_enter Try.func13, Try.ntmps13
    go_wp2_with fail
    go_ret2
    have hf : fixW n = 0 := by unfold fixW; rw [if_neg (by omega)]
    have hb : fixB n = false := by unfold fixB; simp; omega
    rw [hf, hb]
    exact ⟨rfl, 0, rfl⟩
  · by_cases hb : n < 2305843009213693952
    · have b1 : decide (n < -2305843009213693952) = false := by simp; omega
      have b2 : decide (n ≥ 2305843009213693952) = false := by simp; omega
      go_enter Try.func13, Try.ntmps13
      go_wp2_with fail
      go_ret2
      have hw : IntKind.u64.wrap (IntKind.u64.wrap n * 4) = 2 ^ 2 * ((IntKind.u64.wrap (IntKind.u64.wrap n * 4)) / 4) := by rw [IntKind.wrap_u64, IntKind.wrap_u64]; omega
      have hl : 0 ≤ IntKind.u64.wrap (IntKind.u64.wrap n * 4) ∧ IntKind.u64.wrap (IntKind.u64.wrap n * 4) < 18446744073709551616 := by rw [IntKind.wrap_u64]; omega
      have hb : fixB n = true := by unfold fixB; simp; omega
      have hf : IntKind.u64.wrap (IntKind.u64.wrap (IntKind.u64.wrap n * 4) + 1) = fixW n := by
        rw [IntKind.wrap_u64, IntKind.wrap_u64, IntKind.wrap_u64]; unfold fixW; rw [if_pos (by omega)]; omega
      rw [← hf, hb]
      exact ⟨rfl, 0, rfl⟩
    · have b1 : decide (n < -2305843009213693952) = false := by simp; omega
      have b2 : decide (n ≥ 2305843009213693952) = true := by simp; omega
      go_enter Try.func13, Try.ntmps13
      go_wp2_with fail
      go_ret2
      have hf : fixW n = 0 := by unfold fixW; rw [if_neg (by omega)]
      have hb : fixB n = false := by unfold fixB; simp; omega
      rw [hf, hb]
      exact ⟨rfl, 0, rfl⟩

set_option maxRecDepth 100000 in
theorem rInt_any (w : World) (x : Int) (h0 : 0 ≤ x) (h1 : x < 18446744073709551616) :
    Calls Try.prog 15 #[.int .u64 x] w (Says (.tuple #[.int .i64 (intW x), .bool (intB x)]) w) := by
  by_cases ha : x % 4 = 1
  · have b1 : (x % 4 != 1) = false := by simp [ha]
    go_enter Try.func15, Try.ntmps15
    go_wp2_with fail
    go_ret2
    have hf : wrap64 x / 4 = intW x := by unfold wrap64 intW; rw [if_pos ha]; split <;> omega
    have hb : intB x = true := by unfold intB; simp [ha]
    rw [← hf, hb]
    exact ⟨rfl, 0, rfl⟩
  · have b1 : (x % 4 != 1) = true := by simp [ha]
    go_enter Try.func15, Try.ntmps15
    go_wp2_with fail
    go_ret2
    have hf : intW x = 0 := by unfold intW; rw [if_neg ha]
    have hb : intB x = false := by unfold intB; simp [ha]
    rw [hf, hb]
    exact ⟨rfl, 0, rfl⟩
end Go.Proofs.Ytanjiecefioffaa
