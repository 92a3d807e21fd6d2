/- Errors: what fault.New, fault.Wrap and fault.Code do; errors.As at the target *Errno, of a chain of steps. -/
import Derived.Test.YtlijncmjcecppaaDoorBase
import Derived.Test.YtlijncmjcecppaaDoorProg
import Derived.LaidEql
import Derived.Stop.Asserts
import Derived.RowKitTokens
namespace Go.Proofs.YtlijncmjcecppaaDoor
open Go.RowKit Go.Extern.Stop Go.Stop Go.Extern

/-- An error: n steps, one in the other, and in the last the number e. -/
def ErrAt (w : World) : Nat → Value → Int → Prop
  | 0, v, e => v = .iface 32 (.int .i64 e)
  | n + 1, v, e => ∃ (b : Nat) (s : ByteArray) (v' : Value), v = .iface 109 (.pointer (some ⟨b, 0, none⟩)) ∧ w.cell? ⟨b, 0, none⟩ = some (.string s) ∧ w.cell? ⟨b, 1, none⟩ = some v' ∧ ErrAt w n v' e

/-- An error of the number e, 0: none; no more than three steps. -/
def ErrIs (w : World) (v : Value) (e : Int) : Prop := (v = .nilIface ∧ e = 0) ∨ (e ≠ 0 ∧ ∃ n, 1 ≤ n ∧ ErrAt w n v e)

theorem ErrAt.keep {w w' : World} (hk : ∀ a : Addr, a.block < w.heap.size → w'.cell? a = w.cell? a) : ∀ {n : Nat} {v : Value} {e : Int}, ErrAt w n v e → ErrAt w' n v e
  | 0, _, _, h => h
  | _ + 1, _, _, ⟨b, s, v', h1, h2, h3, h4⟩ =>
    ⟨b, s, v', h1, (hk _ (World.block_lt_of_cell? w _ h2)).trans h2, (hk _ (World.block_lt_of_cell? w _ h3)).trans h3, ErrAt.keep hk h4⟩
theorem ErrAt.below {w w' : World} {n : Nat} {v : Value} {e : Int} (h : ErrAt w n v e) (hb : Below w.heap.size w w') : ErrAt w' n v e := h.keep fun _ ha => hb.cell ha
theorem ErrIs.below {w w' : World} {v : Value} {e : Int} (h : ErrIs w v e) (hb : Below w.heap.size w w') : ErrIs w' v e := by
  rcases h with h | ⟨h0, n, hn, h⟩
  · exact .inl h
  · exact .inr ⟨h0, n, hn, h.below hb⟩

/-- fault.New. -/
theorem new_any (e : Int) (s : ByteArray) (w : World) (he : (e == 0) = false) :
    Calls Tryd.prog 42 #[.int .i64 e, .string s] w fun v w' => v = .returned (.iface 109 (.pointer (some ⟨w.heap.size, 0, none⟩))) ∧ w' = w.alloc (.cells #[.string s, .iface 32 (.int .i64 e)] 111) := by
  go_enter Tryd.func42, Tryd.ntmps42
  go_wp2
  go_ret
  exact ⟨rfl, rfl⟩
theorem new_err (e : Int) (s : ByteArray) (w : World) (he : e ≠ 0) :
    Calls Tryd.prog 42 #[.int .i64 e, .string s] w fun v w' => ∃ x, v = .returned x ∧ ErrIs w' x e ∧ x ≠ .nilIface ∧ Below w.heap.size w w' := by
  refine (new_any e s w (beq_eq_false_iff_ne.2 he)).mono ?_
  rintro v w' ⟨rfl, rfl⟩
  refine ⟨_, rfl, .inr ⟨he, 1, by omega, ?_⟩, (by intro h; cases h), (Below.refl _ _).alloc (Nat.le_refl _) _⟩
  exact ⟨w.heap.size, s, _, rfl, by simp, by simp, rfl⟩

/-- fault.Wrap. -/
theorem wrap_nil (s : ByteArray) (w : World) :
    Calls Tryd.prog 33 #[.nilIface, .string s] w fun v w' => v = .returned .nilIface ∧ w = w' := by
  go_enter Tryd.func33, Tryd.ntmps33
  go_wp2
  go_ret
  exact ⟨rfl, rfl⟩
theorem wrap_some (t : TypeId) (x : Value) (s : ByteArray) (w : World) :
    Calls Tryd.prog 33 #[.iface t x, .string s] w fun v w' => v = .returned (.iface 109 (.pointer (some ⟨w.heap.size, 0, none⟩))) ∧ w' = w.alloc (.cells #[.string s, .iface t x] 111) := by
  go_enter Tryd.func33, Tryd.ntmps33
  go_wp2
  go_ret
  exact ⟨rfl, rfl⟩
theorem wrap_any (v : Value) (e : Int) (s : ByteArray) (w : World) (h : ErrIs w v e) :
    Calls Tryd.prog 33 #[v, .string s] w fun r w' => ∃ x, r = .returned x ∧ ErrIs w' x e ∧ (x = .nilIface ↔ v = .nilIface) ∧ Below w.heap.size w w' := by
  rcases h with ⟨rfl, rfl⟩ | ⟨h0, n, hn, h⟩
  · refine (wrap_nil s w).mono ?_
    rintro r w' ⟨rfl, rfl⟩
    exact ⟨_, rfl, .inl ⟨rfl, rfl⟩, Iff.rfl, Below.refl _ _⟩
  · obtain ⟨n, rfl⟩ : ∃ m, n = m + 1 := ⟨n - 1, by omega⟩
    have h' := h
    obtain ⟨b, s', v', rfl, h2, h3, h4⟩ := h
    refine (wrap_some _ _ s w).mono ?_
    rintro r w' ⟨rfl, rfl⟩
    have hb : Below w.heap.size w (w.alloc (.cells #[.string s, .iface 109 (.pointer (some ⟨b, 0, none⟩))] 111)) := (Below.refl _ _).alloc (Nat.le_refl _) _
    exact ⟨_, rfl, .inr ⟨h0, n + 2, by omega, w.heap.size, s, _, rfl, by simp, by simp, h'.below hb⟩, by simp, hb⟩
end Go.Proofs.YtlijncmjcecppaaDoor
