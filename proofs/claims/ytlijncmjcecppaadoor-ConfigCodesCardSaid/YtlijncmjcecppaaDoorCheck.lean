/- Package config by contracts: the bounds of numbers, lines, times; Check. -/
import Derived.Test.YtlijncmjcecppaaDoorDelay
import Derived.StillTailTactics
import Derived.BigRegion
namespace Go.Proofs.YtlijncmjcecppaaDoor
open Go.RowKit

theorem in_any (n a b : Int) (w : World) : Calls Tryd.prog 49 #[.int .i64 n, .int .i64 a, .int .i64 b] w fun r w' => r = .returned (.bool (Cfg.inB n a b)) ∧ w = w' := by
  by_cases h1 : a ≤ n <;> by_cases h2 : n ≤ b
  all_goals
    have e : Cfg.inB n a b = (decide (a ≤ n) && decide (n ≤ b)) := rfl
    simp only [h1, h2, decide_true, decide_false, Bool.and_true, Bool.and_false] at e
    rw [e]
    clear e
    go_enter Tryd.func49, Tryd.ntmps49
    go_wp2
    go_ret
    exact ⟨rfl, rfl⟩

/-- The pointers to ten numbers that lie one behind the other. -/
def tenPtrs (b o : Nat) : Array Value := #[.pointer (some ⟨b, o, none⟩), .pointer (some ⟨b, o + 1, none⟩), .pointer (some ⟨b, o + 2, none⟩), .pointer (some ⟨b, o + 3, none⟩), .pointer (some ⟨b, o + 4, none⟩), .pointer (some ⟨b, o + 5, none⟩), .pointer (some ⟨b, o + 6, none⟩), .pointer (some ⟨b, o + 7, none⟩), .pointer (some ⟨b, o + 8, none⟩), .pointer (some ⟨b, o + 9, none⟩)]
set_option maxHeartbeats 1000000 in
set_option maxRecDepth 100000 in
theorem times_any (b o : Nat) (w : World) : Calls Tryd.prog 35 #[.pointer (some ⟨b, o, none⟩)] w fun r w' => r = .returned (.agg (tenPtrs b o)) ∧ Below w.heap.size w w' := by
  go_enter Tryd.func35, Tryd.ntmps35
  go_wp2_with fail
  go_still_tail 31, (by kernel_rfl)
  change wpList _ _ _ _ _ (World.drew _)
  go_wp2
  refine bodyPost_ret (v := .agg (tenPtrs b o)) (by simp [results, Tryd.results35, go_sem, tenPtrs]) rfl ⟨rfl, ?_⟩
  exact ((Below.refl _ _).alloc (Nat.le_refl _) _).drew

/-- A line as a value, a crossing as a value. -/
def lnA (l : Ln) : Array Value := #[.int .i64 l.strike, .int .i64 l.signal, .int .i64 l.s0, .int .i64 l.s1, .int .i64 l.s2]
def lnVs (l : Ln) : List Value := (lnA l).toList
def linesVs (ls : List Ln) : List Value := ls.flatMap lnVs

theorem ix3_0 (a b c : Value) (w : World) : (Instr.index 22 (.agg #[a, b, c]) (.int .i64 0)).run Tryd.prog w = .ok a w := by kernel_rfl
theorem ix3_1 (a b c : Value) (w : World) : (Instr.index 22 (.agg #[a, b, c]) (.int .i64 1)).run Tryd.prog w = .ok b w := by kernel_rfl
theorem ix3_2 (a b c : Value) (w : World) : (Instr.index 22 (.agg #[a, b, c]) (.int .i64 2)).run Tryd.prog w = .ok c w := by kernel_rfl

/-- A line's values as a struct. -/
theorem right_no0 (st sg s0 s1 s2 : Int) (w : World) (h : Cfg.inB s0 1 5000 = false) :
    Calls Tryd.prog 52 #[.agg #[.int .i64 st, .int .i64 sg, .int .i64 s0, .int .i64 s1, .int .i64 s2]] w fun r w' => r = .returned (.bool false) ∧ Below w.heap.size w w' := by
  have i0 := hid (fun W => in_any s0 1 5000 W)
  rw [h] at i0
  clear h
  have x0 := ix3_0
  go_enter Tryd.func52, Tryd.ntmps52
  go_wp2_with fail
  refine wp_loop_rounds 4 ?_
  rw [rounds_succ]
  go_wp2_with (go_at_call 49; refine (i0.out _).mono ?_; rintro r w' ⟨rfl, rfl⟩)
  go_ret
  exact ⟨rfl, (Below.refl _ _).alloc (Nat.le_refl _) _⟩
theorem right_no1 (st sg s0 s1 s2 : Int) (w : World) (h0 : Cfg.inB s0 1 5000 = true) (h : Cfg.inB s1 1 5000 = false) :
    Calls Tryd.prog 52 #[.agg #[.int .i64 st, .int .i64 sg, .int .i64 s0, .int .i64 s1, .int .i64 s2]] w fun r w' => r = .returned (.bool false) ∧ Below w.heap.size w w' := by
  have i0 := hid (fun W => in_any s0 1 5000 W)
  have i1 := hid (fun W => in_any s1 1 5000 W)
  rw [h0] at i0
  rw [h] at i1
  clear h h0
  have x0 := ix3_0
  have x1 := ix3_1
  go_enter Tryd.func52, Tryd.ntmps52
  go_wp2_with fail
  refine wp_loop_rounds 4 ?_
  rw [rounds_succ]
  go_wp2_with (go_at_call 49; refine (i0.out _).mono ?_; rintro r w' ⟨rfl, rfl⟩)
  rw [rounds_succ]
  go_wp2_with (go_at_call 49; refine (i1.out _).mono ?_; rintro r w' ⟨rfl, rfl⟩)
  go_ret
  exact ⟨rfl, (Below.refl _ _).alloc (Nat.le_refl _) _⟩
theorem right_no2 (st sg s0 s1 s2 : Int) (w : World) (h0 : Cfg.inB s0 1 5000 = true) (h1 : Cfg.inB s1 1 5000 = true) (h : Cfg.inB s2 1 5000 = false) :
    Calls Tryd.prog 52 #[.agg #[.int .i64 st, .int .i64 sg, .int .i64 s0, .int .i64 s1, .int .i64 s2]] w fun r w' => r = .returned (.bool false) ∧ Below w.heap.size w w' := by
  have i0 := hid (fun W => in_any s0 1 5000 W)
  have i1 := hid (fun W => in_any s1 1 5000 W)
  have i2 := hid (fun W => in_any s2 1 5000 W)
  rw [h0] at i0
  rw [h1] at i1
  rw [h] at i2
  clear h h0 h1
  have x0 := ix3_0
  have x1 := ix3_1
  have x2 := ix3_2
  go_enter Tryd.func52, Tryd.ntmps52
  go_wp2_with fail
  refine wp_loop_rounds 4 ?_
  rw [rounds_succ]
  go_wp2_with (go_at_call 49; refine (i0.out _).mono ?_; rintro r w' ⟨rfl, rfl⟩)
  rw [rounds_succ]
  go_wp2_with (go_at_call 49; refine (i1.out _).mono ?_; rintro r w' ⟨rfl, rfl⟩)
  rw [rounds_succ]
  go_wp2_with (go_at_call 49; refine (i2.out _).mono ?_; rintro r w' ⟨rfl, rfl⟩)
  go_ret
  exact ⟨rfl, (Below.refl _ _).alloc (Nat.le_refl _) _⟩
theorem right_rest (st sg s0 s1 s2 : Int) (w : World) (h0 : Cfg.inB s0 1 5000 = true) (h1 : Cfg.inB s1 1 5000 = true) (h2 : Cfg.inB s2 1 5000 = true) :
    Calls Tryd.prog 52 #[.agg #[.int .i64 st, .int .i64 sg, .int .i64 s0, .int .i64 s1, .int .i64 s2]] w fun r w' => r = .returned (.bool (Cfg.inB st 2 1000000 && Cfg.inB sg 1 (st - 1))) ∧ Below w.heap.size w w' := by
  have i0 := hid (fun W => in_any s0 1 5000 W)
  have i1 := hid (fun W => in_any s1 1 5000 W)
  have i2 := hid (fun W => in_any s2 1 5000 W)
  have i3 := hid (fun W => in_any st 2 1000000 W)
  have i4 := hid (fun W => in_any sg 1 (st - 1) W)
  rw [h0] at i0
  rw [h1] at i1
  rw [h2] at i2
  clear h2 h0 h1
  have x0 := ix3_0
  have x1 := ix3_1
  have x2 := ix3_2
  cases e : Cfg.inB st 2 1000000
  · rw [e] at i3
    rw [Bool.false_and]
    clear e
    go_enter Tryd.func52, Tryd.ntmps52
    go_wp2_with fail
    refine wp_loop_rounds 4 ?_
    rw [rounds_succ]
    go_wp2_with (go_at_call 49; refine (i0.out _).mono ?_; rintro r w' ⟨rfl, rfl⟩)
    rw [rounds_succ]
    go_wp2_with (go_at_call 49; refine (i1.out _).mono ?_; rintro r w' ⟨rfl, rfl⟩)
    rw [rounds_succ]
    go_wp2_with (go_at_call 49; refine (i2.out _).mono ?_; rintro r w' ⟨rfl, rfl⟩)
    rw [rounds_succ]
    go_wp2_with (go_at_call 49; refine (i3.out _).mono ?_; rintro r w' ⟨rfl, rfl⟩)
    go_ret
    exact ⟨rfl, (Below.refl _ _).alloc (Nat.le_refl _) _⟩
  · rw [e] at i3
    rw [Bool.true_and]
    have hb := Cfg.inB_iff.1 e
    obtain ⟨hb1, hb2⟩ := hb
    clear e
    go_enter Tryd.func52, Tryd.ntmps52
    go_wp2_with fail
    refine wp_loop_rounds 4 ?_
    rw [rounds_succ]
    go_wp2_with (go_at_call 49; refine (i0.out _).mono ?_; rintro r w' ⟨rfl, rfl⟩)
    rw [rounds_succ]
    go_wp2_with (go_at_call 49; refine (i1.out _).mono ?_; rintro r w' ⟨rfl, rfl⟩)
    rw [rounds_succ]
    go_wp2_with (go_at_call 49; refine (i2.out _).mono ?_; rintro r w' ⟨rfl, rfl⟩)
    rw [rounds_succ]
    go_wp2_with fail
    refine (i3.out _).mono ?_
    rintro r w' ⟨rfl, rfl⟩
    go_wp2_with fail
    refine (i4.out _).mono ?_
    rintro r w' ⟨rfl, rfl⟩
    go_wp2
    go_ret
    exact ⟨rfl, (Below.refl _ _).alloc (Nat.le_refl _) _⟩
theorem right_any (l : Ln) (w : World) :
    Calls Tryd.prog 52 #[.agg (lnA l)] w fun r w' => r = .returned (.bool (Cfg.lineOk l)) ∧ Below w.heap.size w w' := by
  cases l with
  | mk st sg s0 s1 s2 =>
    have e : Cfg.lineOk ⟨st, sg, s0, s1, s2⟩ = (Cfg.inB s0 1 5000 && Cfg.inB s1 1 5000 && Cfg.inB s2 1 5000 && Cfg.inB st 2 1000000 && Cfg.inB sg 1 (st - 1)) := rfl
    rw [e]
    cases h0 : Cfg.inB s0 1 5000
    · exact right_no0 st sg s0 s1 s2 w h0
    · cases h1 : Cfg.inB s1 1 5000
      · exact right_no1 st sg s0 s1 s2 w h0 h1
      · cases h2 : Cfg.inB s2 1 5000
        · exact right_no2 st sg s0 s1 s2 w h0 h1 h2
        · exact right_rest st sg s0 s1 s2 w h0 h1 h2
end Go.Proofs.YtlijncmjcecppaaDoor
