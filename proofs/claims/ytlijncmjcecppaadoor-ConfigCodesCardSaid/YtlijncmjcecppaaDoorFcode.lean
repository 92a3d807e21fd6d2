/- fault.Code: the number of an error. -/
import Derived.Test.YtlijncmjcecppaaDoorCode
namespace Go.Proofs.YtlijncmjcecppaaDoor
open Go.RowKit

theorem code_nil (w : World) : Calls Tryd.prog 16 #[.nilIface] w fun r w' => r = .returned (.int .i64 0) ∧ w = w' := by
  go_enter Tryd.func16, Tryd.ntmps16
  go_wp2
  go_ret
  exact ⟨rfl, rfl⟩
theorem code_some (n : Nat) (v : Value) (e : Int) (w : World) (hg : ErrTypeAt w) (he : ErrAt w n v e) :
    Calls Tryd.prog 16 #[v] w fun r w' => r = .returned (.int .i64 e) ∧ Below w.heap.size w w' := by
  obtain ⟨tx, x, rfl⟩ := he.form
  have hb1 : Below w.heap.size w (w.alloc (.cells #[.int .i64 0] 32)) := (Below.refl _ _).alloc (Nat.le_refl _) _
  have C := hid (as_any n _ e ⟨w.heap.size, 0, none⟩ (.int .i64 0) _ (hg.below hb1) (he.below hb1) (by simp) (by simp))
  have B := hid hb1
  clear hb1 he hg
  go_enter Tryd.func16, Tryd.ntmps16
  go_wp2_with (go_at_call 32; refine C.out.mono ?_; rintro r w' ⟨rfl, hc, hk⟩)
  go_ret
  refine ⟨rfl, Keep.below (S := fun k => k = w.heap.size) ((Keep.ofBelow B.out).trans hk ?_) ?_⟩
  · intro i hi h; exact h
  · intro i hi h; omega
theorem code_any (v : Value) (e : Int) (w : World) (hg : ErrTypeAt w) (he : ErrIs w v e) :
    Calls Tryd.prog 16 #[v] w fun r w' => r = .returned (.int .i64 e) ∧ Below w.heap.size w w' := by
  rcases he with ⟨rfl, rfl⟩ | ⟨_, n, _, he⟩
  · exact (code_nil w).mono fun r w' ⟨h1, h2⟩ => ⟨h1, h2 ▸ Below.refl _ _⟩
  · exact code_some n v e w hg he
end Go.Proofs.YtlijncmjcecppaaDoor
