/- DelaySums by contracts: any two numbers. -/
import Derived.Test.YtlijncmjcecppaaDoorLawSums
namespace Go.Proofs.YtlijncmjcecppaaDoor
open Go.RowKit

theorem Dly.addN_comm (a b : Int) : Dly.addN b a = Dly.addN a b := by unfold Dly.addN; rw [Int.add_comm]
theorem Dly.addC_comm (a b : Int) : Dly.addC b a = Dly.addC a b := by unfold Dly.addC; rw [Int.add_comm]
theorem Dly.mulN_comm (a b : Int) : Dly.mulN b a = Dly.mulN a b := by unfold Dly.mulN; rw [Int.mul_comm]
theorem Dly.mulC_comm (a b : Int) : Dly.mulC b a = Dly.mulC a b := by unfold Dly.mulC; rw [Int.mul_comm]
theorem Dly.wrap_fits {n : Int} (h : I64 n) : wrap64 n = n := by
  unfold I64 at h
  unfold wrap64
  omega
theorem sums_any (a b : Int) (w : World) (hg : ErrTypeAt w) (ha : I64 a) (hb : I64 b) :
    Calls Tryd.prog 4 #[.int .i64 a, .int .i64 b] w fun r w' => r = .returned (.bool true) ∧ Below w.heap.size w w' := by
  have h1 := fun W => add_any a b W ha hb
  have h2 := fun W => mul_any a b W ha hb
  have h3 := fun W => add_any b a W hb ha
  have h4 := fun W => mul_any b a W hb ha
  simp only [Dly.addN_comm a b, Dly.addC_comm a b] at h3
  simp only [Dly.mulN_comm a b, Dly.mulC_comm a b] at h4
  have ha' := ha
  have hb' := hb
  unfold I64 at ha' hb'
  -- the product
  have P : (Dly.mulC a b = 6 ∧ Dly.mulN a b = 0 ∧ (a != 0) = true ∧ (b != 0) = true) ∨ (Dly.mulC a b = 0 ∧ Dly.mulN a b = 0 ∧ (a == 0) = true) ∨
      (Dly.mulC a b = 0 ∧ ¬ a = 0 ∧ (a == 0) = false ∧ (wrap64 ((Dly.mulN a b).tdiv a) == b) = true ∧ ((Dly.mulN a b).tmod a == 0) = true ∧ (a != 0) = true) := by
    unfold Dly.mulC Dly.mulN
    by_cases h : Dly.fits (a * b) = true
    · rw [if_pos h, if_pos h]
      by_cases e : a = 0
      · exact .inr (.inl ⟨rfl, by rw [e, Int.zero_mul], by simp [e]⟩)
      · refine .inr (.inr ⟨rfl, e, by simp [e], ?_, ?_, by simp [e]⟩)
        · rw [Int.mul_tdiv_cancel_left _ e, Dly.wrap_fits hb]
          simp
        · rw [Int.mul_tmod_right]
          simp
    · rw [if_neg h, if_neg h]
      refine .inl ⟨rfl, rfl, ?_, ?_⟩
      · simp only [bne_iff_ne]
        intro e
        exact h (Dly.fits_iff.2 (by rw [e, Int.zero_mul]; exact ⟨by omega, by omega⟩))
      · simp only [bne_iff_ne]
        intro e
        exact h (Dly.fits_iff.2 (by rw [e, Int.mul_zero]; exact ⟨by omega, by omega⟩))
  by_cases h : Dly.fits (a + b) = true
  · have e1 : Dly.addN a b = a + b := if_pos h
    have e2 : Dly.addC a b = 0 := if_pos h
    have hf := Dly.fits_iff.1 h
    unfold I64 at hf
    rw [e1, e2] at h1 h3
    have g1 : (a + b - a == b) = true := by rw [beq_iff_eq]; omega
    have g2 : -9223372036854775808 ≤ a + b - a := by omega
    have g3 : a + b - a ≤ 9223372036854775807 := by omega
    rcases P with ⟨p1, p2, p3, p4⟩ | ⟨p1, p2, p3⟩ | ⟨p1, p2, p3, p4, p5, p6⟩
    · rw [p1, p2] at h2 h4
      by_cases c1 : b < 0
      · exact sums_20 a b (a + b) w hg h1 h2 h3 h4 g1 g2 g3 (by simpa using c1) (by simp; omega) (by simp; omega) p3 p4
      · by_cases c2 : 0 < b
        · exact sums_30 a b (a + b) w hg h1 h2 h3 h4 g1 g2 g3 (by simp; omega) (by simp; omega) (by simpa using c2) p3 p4
        · exact sums_40 a b (a + b) w hg h1 h2 h3 h4 g1 g2 g3 (by simp; omega) (by simp; omega) (by simp; omega) (by simp; omega) p3 p4
    · rw [p1, p2] at h2 h4
      by_cases c1 : b < 0
      · exact sums_21 a b (a + b) w hg h1 h2 h3 h4 g1 g2 g3 (by simpa using c1) (by simp; omega) (by simp; omega) p3
      · by_cases c2 : 0 < b
        · exact sums_31 a b (a + b) w hg h1 h2 h3 h4 g1 g2 g3 (by simp; omega) (by simp; omega) (by simpa using c2) p3
        · exact sums_41 a b (a + b) w hg h1 h2 h3 h4 g1 g2 g3 (by simp; omega) (by simp; omega) (by simp; omega) (by simp; omega) p3
    · rw [p1] at h2 h4
      by_cases c1 : b < 0
      · exact sums_22 a b (a + b) _ w hg h1 h2 h3 h4 g1 g2 g3 (by simpa using c1) (by simp; omega) (by simp; omega) p2 p3 p4 p5 p6
      · by_cases c2 : 0 < b
        · exact sums_32 a b (a + b) _ w hg h1 h2 h3 h4 g1 g2 g3 (by simp; omega) (by simp; omega) (by simpa using c2) p2 p3 p4 p5 p6
        · exact sums_42 a b (a + b) _ w hg h1 h2 h3 h4 g1 g2 g3 (by simp; omega) (by simp; omega) (by simp; omega) (by simp; omega) p2 p3 p4 p5 p6
  · have e1 : Dly.addN a b = 0 := if_neg h
    have e2 : Dly.addC a b = 6 := if_neg h
    have hf : ¬ I64 (a + b) := fun h' => h (Dly.fits_iff.2 h')
    unfold I64 at hf
    rw [e1, e2] at h1 h3
    by_cases c1 : 0 < a
    · have g1 : decide (0 < a) = true := by simpa using c1
      have g2 : decide (0 < b) = true := by simp; omega
      rcases P with ⟨p1, p2, p3, p4⟩ | ⟨p1, p2, p3⟩ | ⟨p1, p2, p3, p4, p5, p6⟩
      · rw [p1, p2] at h2 h4
        exact sums_00 a b w hg h1 h2 h3 h4 g1 g2 p3 p4
      · rw [p1, p2] at h2 h4
        exact sums_01 a b w hg h1 h2 h3 h4 g1 g2 p3
      · rw [p1] at h2 h4
        exact sums_02 a b _ w hg h1 h2 h3 h4 g1 g2 p2 p3 p4 p5 p6
    · have g1 : decide (0 < a) = false := by simp; omega
      have g2 : decide (0 < b) = false := by simp; omega
      rcases P with ⟨p1, p2, p3, p4⟩ | ⟨p1, p2, p3⟩ | ⟨p1, p2, p3, p4, p5, p6⟩
      · rw [p1, p2] at h2 h4
        exact sums_10 a b w hg h1 h2 h3 h4 g1 g2 p3 p4
      · rw [p1, p2] at h2 h4
        exact sums_11 a b w hg h1 h2 h3 h4 g1 g2 p3
      · rw [p1] at h2 h4
        exact sums_12 a b _ w hg h1 h2 h3 h4 g1 g2 p2 p3 p4 p5 p6
end Go.Proofs.YtlijncmjcecppaaDoor
