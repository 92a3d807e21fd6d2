/- Package delay by contracts: sums, products, ways. -/
import Derived.Test.YtlijncmjcecppaaDoorFcode
import Derived.Test.YtlijncmjcecppaaDoorCfgPlain
import Derived.Lib.Mul64
import Derived.Laws.Bits64b
import Derived.BigQuiet
import Derived.Deep.QuietTactic
namespace Go.Proofs.YtlijncmjcecppaaDoor
open Go.RowKit

/-- A number and an error of the number c. -/
def RetIE (w : World) (n c : Int) (r : Ending) (w' : World) : Prop := ∃ x, r = .returned (.tuple #[.int .i64 n, x]) ∧ ErrIs w' x c ∧ Below w.heap.size w w'

namespace Dly
def fits (n : Int) : Bool := decide (-9223372036854775808 ≤ n) && decide (n ≤ 9223372036854775807)
theorem fits_iff {n : Int} : fits n = true ↔ I64 n := by simp [fits, I64]
def addN (a b : Int) : Int := if fits (a + b) then a + b else 0
def addC (a b : Int) : Int := if fits (a + b) then 0 else 6
def mulN (a b : Int) : Int := if fits (a * b) then a * b else 0
def mulC (a b : Int) : Int := if fits (a * b) then 0 else 6
def wayN (a b : Int) : Int := if a < 0 ∨ b < 1 then 0 else a / b
def wayC (a b : Int) : Int := if a < 0 ∨ b < 1 then 1 else 0
theorem wrap_hi {a b : Int} (ha : I64 a) (hb : I64 b) (h : 9223372036854775807 < a + b) : wrap64 (a + b) < a ∧ ¬ b < 0 := by
  unfold I64 at *
  unfold wrap64
  omega
theorem wrap_lo {a b : Int} (ha : I64 a) (hb : I64 b) (h : a + b < -9223372036854775808) : ¬ wrap64 (a + b) < a ∧ b < 0 := by
  unfold I64 at *
  unfold wrap64
  omega
end Dly

theorem far_any (w : World) : Calls Tryd.prog 29 #[] w (RetIE w 0 6) := by
  go_enter Tryd.func29, Tryd.ntmps29
  go_wp2_with (go_at_call 42; refine (new_err _ _ _ (by omega)).mono ?_; rintro r w' ⟨x, rfl, hx, _, hb⟩)
  go_ret2
  exact ⟨x, rfl, hx, hb⟩
theorem add_ok (a b : Int) (w : World) (h1 : -9223372036854775808 ≤ a + b) (h2 : a + b ≤ 9223372036854775807) :
    Calls Tryd.prog 14 #[.int .i64 a, .int .i64 b] w fun r w' => r = .returned (.tuple #[.int .i64 (a + b), .nilIface]) ∧ w = w' := by
  by_cases hb : b < 0
  · have h3 : a + b < a := by omega
    go_enter Tryd.func14, Tryd.ntmps14
    go_wp2
    go_ret2
    exact ⟨rfl, rfl⟩
  · have h3 : ¬ a + b < a := by omega
    go_enter Tryd.func14, Tryd.ntmps14
    go_wp2
    go_ret2
    exact ⟨rfl, rfl⟩
theorem add_bad (a b : Int) (w : World) (h : (wrap64 (a + b) < a ∧ ¬ b < 0) ∨ (¬ wrap64 (a + b) < a ∧ b < 0)) :
    Calls Tryd.prog 14 #[.int .i64 a, .int .i64 b] w (RetIE w 0 6) := by
  rcases h with ⟨h1, h2⟩ | ⟨h1, h2⟩
  · go_enter Tryd.func14, Tryd.ntmps14
    go_wp2_with (go_at_call 29; refine (far_any _).mono ?_; rintro r w' ⟨x, rfl, hx, hb⟩)
    go_ret2
    exact ⟨x, rfl, hx, hb⟩
  · go_enter Tryd.func14, Tryd.ntmps14
    go_wp2_with (go_at_call 29; refine (far_any _).mono ?_; rintro r w' ⟨x, rfl, hx, hb⟩)
    go_ret2
    exact ⟨x, rfl, hx, hb⟩
theorem add_any (a b : Int) (w : World) (ha : I64 a) (hb : I64 b) : Calls Tryd.prog 14 #[.int .i64 a, .int .i64 b] w (RetIE w (Dly.addN a b) (Dly.addC a b)) := by
  unfold Dly.addN Dly.addC
  by_cases h : Dly.fits (a + b) = true
  · rw [if_pos h, if_pos h]
    have h' := Dly.fits_iff.1 h
    exact (add_ok a b w h'.1 h'.2).mono fun r w' ⟨h1, h2⟩ => ⟨_, h1, .inl ⟨rfl, rfl⟩, h2 ▸ Below.refl _ _⟩
  · rw [if_neg h, if_neg h]
    refine add_bad a b w ?_
    by_cases h2 : 9223372036854775807 < a + b
    · exact .inl (Dly.wrap_hi ha hb h2)
    · refine .inr (Dly.wrap_lo ha hb ?_)
      have : ¬ I64 (a + b) := fun h' => h (Dly.fits_iff.2 h')
      unfold I64 at this
      omega

theorem way_ok (a b : Int) (w : World) (h1 : 0 ≤ a) (h2 : 1 ≤ b) (h3 : a ≤ 9223372036854775807) (h4 : b ≤ 9223372036854775807) :
    Calls Tryd.prog 27 #[.int .i64 a, .int .i64 b] w fun r w' => r = .returned (.tuple #[.int .i64 (a / b), .nilIface]) ∧ w = w' := by
  have g1 : ¬ a < 0 := by omega
  have g2 : ¬ b < 1 := by omega
  have g3 : 0 ≤ a / b := Int.ediv_nonneg h1 (by omega)
  have g4 : a / b ≤ a := Int.ediv_le_self _ h1
  go_enter Tryd.func27, Tryd.ntmps27
  go_wp2
  go_ret2
  exact ⟨rfl, rfl⟩
theorem way_bad (a b : Int) (w : World) (h : a < 0 ∨ b < 1) :
    Calls Tryd.prog 27 #[.int .i64 a, .int .i64 b] w (RetIE w 0 1) := by
  by_cases h1 : a < 0
  · go_enter Tryd.func27, Tryd.ntmps27
    go_wp2_with (go_at_call 42; refine (new_err _ _ _ (by omega)).mono ?_; rintro r w' ⟨x, rfl, hx, _, hb⟩)
    go_ret2
    exact ⟨x, rfl, hx, hb⟩
  · have h2 : b < 1 := by omega
    clear h
    go_enter Tryd.func27, Tryd.ntmps27
    go_wp2_with (go_at_call 42; refine (new_err _ _ _ (by omega)).mono ?_; rintro r w' ⟨x, rfl, hx, _, hb⟩)
    go_ret2
    exact ⟨x, rfl, hx, hb⟩
theorem way_any (a b : Int) (w : World) (ha : I64 a) (hb : I64 b) : Calls Tryd.prog 27 #[.int .i64 a, .int .i64 b] w (RetIE w (Dly.wayN a b) (Dly.wayC a b)) := by
  unfold Dly.wayN Dly.wayC
  unfold I64 at ha hb
  by_cases h : a < 0 ∨ b < 1
  · rw [if_pos h, if_pos h]
    exact way_bad a b w h
  · rw [if_neg h, if_neg h]
    exact (way_ok a b w (by omega) (by omega) (by omega) (by omega)).mono fun r w' ⟨h1, h2⟩ => ⟨_, h1, .inl ⟨rfl, rfl⟩, h2 ▸ Below.refl _ _⟩
end Go.Proofs.YtlijncmjcecppaaDoor
