/- Package delay by contracts: products. -/
import Derived.Test.YtlijncmjcecppaaDoorDelay
import Derived.Shelf.Bits.Mul64
namespace Go.Proofs.YtlijncmjcecppaaDoor
open Go.RowKit

set_option maxHeartbeats 1000000 in
theorem mul64_any (x y : Nat) (hx : x < 18446744073709551616) (hy : y < 18446744073709551616) (w : World) :
    Calls Tryd.prog 30 #[.int .u64 x, .int .u64 y] w fun e w' => e = .returned (.tuple #[.int .u64 ((x * y / 18446744073709551616 : Nat) : Int), .int .u64 ((x * y % 18446744073709551616 : Nat) : Int)]) ∧ w = w' := by
  obtain ⟨bd, bt, bw, hhi⟩ := Lib.mul64_hi x y hx hy
  have ba := Lib.half_mul_le (a := x / 4294967296) (b := y / 4294967296) (by omega) (by omega)
  have bb := Lib.half_mul_le (a := x / 4294967296) (b := y % 4294967296) (by omega) (by omega)
  have bc := Lib.half_mul_le (a := x % 4294967296) (b := y / 4294967296) (by omega) (by omega)
  have ba' : x / 4294967296 * (y / 4294967296) < 18446744073709551616 := by omega
  have bb' : x / 4294967296 * (y % 4294967296) < 18446744073709551616 := by omega
  have bc' : x % 4294967296 * (y / 4294967296) < 18446744073709551616 := by omega
  have bh1 : x / 4294967296 * (y / 4294967296) + (x / 4294967296 * (y % 4294967296) + x % 4294967296 * (y % 4294967296) / 4294967296) / 4294967296 < 18446744073709551616 := by omega
  have bh : x / 4294967296 * (y / 4294967296) + (x / 4294967296 * (y % 4294967296) + x % 4294967296 * (y % 4294967296) / 4294967296) / 4294967296 + ((x / 4294967296 * (y % 4294967296) + x % 4294967296 * (y % 4294967296) / 4294967296) % 4294967296 + x % 4294967296 * (y / 4294967296)) / 4294967296 < 18446744073709551616 := by omega
  have H := hid hhi
  clear hhi
  go_enter Tryd.func30, Tryd.ntmps30
  go_wp2
  simp only [Mul64.maskN x hx, Mul64.maskN y hy, Mul64.divN, Mul64.mulN, Mul64.addN, Mul64.wrapN _ bd, Mul64.wrapN _ bb', Mul64.wrapN _ bt, Mul64.maskN _ bt, Mul64.wrapN _ bc', Mul64.wrapN _ bw, Mul64.wrapN _ ba', Mul64.wrapN _ bh1, Mul64.wrapN _ bh, Mul64.wrapM (x * y)]
  rw [H.out]
  go_ret2
  exact ⟨rfl, rfl⟩

namespace Dly
/-- A number without its sign. -/
def absN (n : Int) : Nat := n.natAbs
theorem conv_neg {n : Int} (h : I64 n) (h0 : n < 0) : IntKind.u64.wrap (-IntKind.u64.wrap n) = (absN n : Nat) := by
  unfold I64 at h
  rw [IntKind.wrap_u64, IntKind.wrap_u64]
  unfold absN
  omega
theorem conv_pos {n : Int} (h : I64 n) (h0 : ¬ n < 0) : IntKind.u64.wrap n = (absN n : Nat) := by
  unfold I64 at h
  rw [IntKind.wrap_u64]
  unfold absN
  omega
theorem absN_le {n : Int} (h : I64 n) : absN n ≤ 9223372036854775808 := by
  unfold I64 at h
  unfold absN
  omega
end Dly

theorem size_any (n : Int) (w : World) (h : I64 n) :
    Calls Tryd.prog 31 #[.int .i64 n] w fun e w' => e = .returned (.int .u64 (Dly.absN n : Nat)) ∧ w = w' := by
  by_cases h0 : n < 0
  · have e := hid (Dly.conv_neg h h0)
    clear h
    go_enter Tryd.func31, Tryd.ntmps31
    go_wp2
    go_ret
    exact ⟨ret_int e.out, rfl⟩
  · have e := hid (Dly.conv_pos h h0)
    clear h
    go_enter Tryd.func31, Tryd.ntmps31
    go_wp2
    go_ret
    exact ⟨ret_int e.out, rfl⟩

theorem mul_ok (a b H L : Int) (w : World) (ha : I64 a) (hb : I64 b)
    (hc : Calls Tryd.prog 30 #[.int .u64 (Dly.absN a : Nat), .int .u64 (Dly.absN b : Nat)] w fun e w' => e = .returned (.tuple #[.int .u64 H, .int .u64 L]) ∧ w = w')
    (h1 : ¬ 0 < H) (h2 : ((a < 0) ↔ (b < 0)) → ¬ 9223372036854775807 < L) (h3 : ¬ ((a < 0) ↔ (b < 0)) → ¬ 9223372036854775808 < L) (h4 : -9223372036854775808 ≤ a * b) (h5 : a * b ≤ 9223372036854775807) :
    Calls Tryd.prog 15 #[.int .i64 a, .int .i64 b] w fun r w' => r = .returned (.tuple #[.int .i64 (a * b), .nilIface]) ∧ w = w' := by
  have C := hid hc
  have sa := hid (fun W => size_any a W ha)
  have sb := hid (fun W => size_any b W hb)
  clear hc ha hb
  have g4 : (decide (a < 0) = true ∧ decide (b < 0) = true ∧ ¬ 9223372036854775807 < L) ∨ (decide (a < 0) = false ∧ decide (b < 0) = false ∧ ¬ 9223372036854775807 < L) ∨ (decide (a < 0) = true ∧ decide (b < 0) = false ∧ ¬ 9223372036854775808 < L) ∨ (decide (a < 0) = false ∧ decide (b < 0) = true ∧ ¬ 9223372036854775808 < L) := by
    by_cases ga : a < 0 <;> by_cases gb : b < 0 <;> simp [ga, gb] at h2 h3 ⊢ <;> omega
  clear h2 h3
  rcases g4 with ⟨ga, gb, g⟩ | ⟨ga, gb, g⟩ | ⟨ga, gb, g⟩ | ⟨ga, gb, g⟩
  all_goals
    go_enter Tryd.func15, Tryd.ntmps15
    go_wp2_with fail
    refine (sa.out _).mono ?_
    rintro r w' ⟨rfl, rfl⟩
    go_wp2_with fail
    refine (sb.out _).mono ?_
    rintro r w' ⟨rfl, rfl⟩
    go_wp2_with fail
    refine C.out.mono ?_
    rintro r w' ⟨rfl, rfl⟩
    go_wp2
    go_ret2
    exact ⟨rfl, rfl⟩
theorem mul_bad (a b H L : Int) (w : World) (ha : I64 a) (hb : I64 b)
    (hc : Calls Tryd.prog 30 #[.int .u64 (Dly.absN a : Nat), .int .u64 (Dly.absN b : Nat)] w fun e w' => e = .returned (.tuple #[.int .u64 H, .int .u64 L]) ∧ w = w')
    (h2 : ((a < 0) ↔ (b < 0)) → 0 < H ∨ 9223372036854775807 < L) (h3 : ¬ ((a < 0) ↔ (b < 0)) → 0 < H ∨ 9223372036854775808 < L) :
    Calls Tryd.prog 15 #[.int .i64 a, .int .i64 b] w (RetIE w 0 6) := by
  have C := hid hc
  have sa := hid (fun W => size_any a W ha)
  have sb := hid (fun W => size_any b W hb)
  clear hc ha hb
  have g4 : (decide (a < 0) = true ∨ decide (a < 0) = false) ∧ (decide (b < 0) = true ∨ decide (b < 0) = false) := ⟨by cases decide (a < 0) <;> simp, by cases decide (b < 0) <;> simp⟩
  obtain ⟨ga, gb⟩ := g4
  by_cases g0 : 0 < H
  · clear h2 h3
    rcases ga with ga | ga <;> rcases gb with gb | gb
    all_goals
      go_enter Tryd.func15, Tryd.ntmps15
      go_wp2_with fail
      refine (sa.out _).mono ?_
      rintro r w' ⟨rfl, rfl⟩
      go_wp2_with fail
      refine (sb.out _).mono ?_
      rintro r w' ⟨rfl, rfl⟩
      go_wp2_with fail
      refine C.out.mono ?_
      rintro r w' ⟨rfl, rfl⟩
      go_wp2_with (go_at_call 29; refine (far_any _).mono ?_; rintro r w' ⟨x, rfl, hx, hb⟩)
      go_ret2
      exact ⟨x, rfl, hx, hb⟩
  · have g4 : (decide (a < 0) = true ∧ decide (b < 0) = true ∧ 9223372036854775807 < L) ∨ (decide (a < 0) = false ∧ decide (b < 0) = false ∧ 9223372036854775807 < L) ∨ (decide (a < 0) = true ∧ decide (b < 0) = false ∧ 9223372036854775808 < L) ∨ (decide (a < 0) = false ∧ decide (b < 0) = true ∧ 9223372036854775808 < L) := by
      by_cases ga : a < 0 <;> by_cases gb : b < 0 <;> simp [ga, gb] at h2 h3 ⊢ <;> omega
    clear h2 h3 ga gb
    rcases g4 with ⟨ga, gb, g⟩ | ⟨ga, gb, g⟩ | ⟨ga, gb, g⟩ | ⟨ga, gb, g⟩
    all_goals
      go_enter Tryd.func15, Tryd.ntmps15
      go_wp2_with fail
      refine (sa.out _).mono ?_
      rintro r w' ⟨rfl, rfl⟩
      go_wp2_with fail
      refine (sb.out _).mono ?_
      rintro r w' ⟨rfl, rfl⟩
      go_wp2_with fail
      refine C.out.mono ?_
      rintro r w' ⟨rfl, rfl⟩
      go_wp2_with (go_at_call 29; refine (far_any _).mono ?_; rintro r w' ⟨x, rfl, hx, hb⟩)
      go_ret2
      exact ⟨x, rfl, hx, hb⟩
namespace Dly
theorem abs_mul (a b : Int) : absN a * absN b = (a * b).natAbs := (Int.natAbs_mul a b).symm
theorem sign_same {a b : Int} (h : (a < 0) ↔ (b < 0)) : 0 ≤ a * b := by
  by_cases ha : a < 0
  · have hb := h.1 ha
    exact Int.mul_nonneg_of_nonpos_of_nonpos (by omega) (by omega)
  · have hb : ¬ b < 0 := fun x => ha (h.2 x)
    exact Int.mul_nonneg (by omega) (by omega)
theorem sign_other {a b : Int} (h : ¬ ((a < 0) ↔ (b < 0))) : a * b ≤ 0 := by
  by_cases ha : a < 0
  · have hb : ¬ b < 0 := fun x => h ⟨fun _ => x, fun _ => ha⟩
    exact Int.mul_nonpos_of_nonpos_of_nonneg (by omega) (by omega)
  · have hb : b < 0 := by
      rcases Int.lt_or_le b 0 with x | x
      · exact x
      · exact absurd ⟨fun y => absurd y ha, fun y => absurd y (by omega)⟩ h
    exact Int.mul_nonpos_of_nonneg_of_nonpos (by omega) (by omega)
end Dly
theorem mul_any (a b : Int) (w : World) (ha : I64 a) (hb : I64 b) : Calls Tryd.prog 15 #[.int .i64 a, .int .i64 b] w (RetIE w (Dly.mulN a b) (Dly.mulC a b)) := by
  have la := Dly.absN_le ha
  have lb := Dly.absN_le hb
  have hc := mul64_any (Dly.absN a) (Dly.absN b) (by omega) (by omega) w
  rw [Dly.abs_mul] at hc
  have s1 := @Dly.sign_same a b
  have s2 := @Dly.sign_other a b
  unfold Dly.mulN Dly.mulC
  by_cases h : Dly.fits (a * b) = true
  · rw [if_pos h, if_pos h]
    have h' := Dly.fits_iff.1 h
    unfold I64 at h'
    refine (mul_ok a b _ _ w ha hb hc ?_ ?_ ?_ h'.1 h'.2).mono fun r w' ⟨h1, h2⟩ => ⟨_, h1, .inl ⟨rfl, rfl⟩, h2 ▸ Below.refl _ _⟩
    · omega
    · intro hs; have := s1 hs; omega
    · intro hs; have := s2 hs; omega
  · rw [if_neg h, if_neg h]
    have hn : ¬ I64 (a * b) := fun h' => h (Dly.fits_iff.2 h')
    unfold I64 at hn
    refine mul_bad a b _ _ w ha hb hc ?_ ?_
    · intro hs; have := s1 hs; omega
    · intro hs; have := s2 hs; omega
end Go.Proofs.YtlijncmjcecppaaDoor
