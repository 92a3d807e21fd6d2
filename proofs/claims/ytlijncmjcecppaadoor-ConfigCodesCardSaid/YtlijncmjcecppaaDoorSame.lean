/- crossbuckref08.Same by contract: two crossings. -/
import Derived.Test.YtlijncmjcecppaaDoorDecMain
import Derived.Deep.QuietTactic
import Derived.BigQuiet
namespace Go.Proofs.YtlijncmjcecppaaDoor
open Go.RowKit

def tmA (t : Tm) : Array Value := #[.int .i64 t.amber, .int .i64 t.red, .int .i64 t.entry, .int .i64 t.travel, .int .i64 t.prove, .int .i64 t.opened, .int .i64 t.override, .int .i64 t.fresh, .int .i64 t.approach, .int .i64 t.warn]
theorem eq_times (a0 a1 a2 a3 a4 a5 a6 a7 a8 a9 b0 b1 b2 b3 b4 b5 b6 b7 b8 b9 : Int) (w : World) : (Op.equalIn 10000 37 (.agg #[.int .i64 a0, .int .i64 a1, .int .i64 a2, .int .i64 a3, .int .i64 a4, .int .i64 a5, .int .i64 a6, .int .i64 a7, .int .i64 a8, .int .i64 a9]) (.agg #[.int .i64 b0, .int .i64 b1, .int .i64 b2, .int .i64 b3, .int .i64 b4, .int .i64 b5, .int .i64 b6, .int .i64 b7, .int .i64 b8, .int .i64 b9])).run Tryd.prog w =
    .ok (decide (a0 = b0 ∧ a1 = b1 ∧ a2 = b2 ∧ a3 = b3 ∧ a4 = b4 ∧ a5 = b5 ∧ a6 = b6 ∧ a7 = b7 ∧ a8 = b8 ∧ a9 = b9)) w := by
  have hs : Tryd.prog.stoodInHeld 37 = false := by kernel_rfl
  go_simp
  repeat' split
  all_goals simp_all

theorem eq_arr3 (d : Nat) (a2 a3 a4 b2 b3 b4 : Int) (w : World) : (Op.equalIn (d + 1 + 1) 22 (.agg #[.int .i64 a2, .int .i64 a3, .int .i64 a4]) (.agg #[.int .i64 b2, .int .i64 b3, .int .i64 b4])).run Tryd.prog w =
    .ok (decide (a2 = b2 ∧ a3 = b3 ∧ a4 = b4)) w := by
  have hsz : ∀ W, (sizeOf 3).run Tryd.prog W = .ok 1 W := fun W => by kernel_rfl
  rw [Op.equalIn]
  simp only [Sem.run_bind, run_underlying Tryd.underlying22, Result.andThen_ok, hsz]
  simp only [Std.Legacy.Range.forIn_eq_forIn_range', Std.Legacy.Range.size, List.range', List.forIn_cons, List.forIn_nil]
  go_simp
  repeat' split
  all_goals simp_all
theorem eq_line (a b : Ln) (w : World) : (Op.equalIn 10000 24 (.agg (lnA a)) (.agg (lnA b))).run Tryd.prog w = .ok (decide (a = b)) w := by
  cases a with
  | mk a0 a1 a2 a3 a4 =>
  cases b with
  | mk b0 b1 b2 b3 b4 =>
    have hs : Tryd.prog.stoodInHeld 24 = false := by kernel_rfl
    have h3 : ∀ W, (Op.equalIn 9999 22 (.agg #[.int .i64 a2, .int .i64 a3, .int .i64 a4]) (.agg #[.int .i64 b2, .int .i64 b3, .int .i64 b4])).run Tryd.prog W = .ok (decide (a2 = b2 ∧ a3 = b3 ∧ a4 = b4)) W := fun W => eq_arr3 9997 _ _ _ _ _ _ W
    simp only [lnA, Ln.mk.injEq]
    go_simp
    repeat' split
    all_goals simp_all
theorem eq_tm (a b : Tm) (w : World) : (Op.equalIn 10000 37 (.agg (tmA a)) (.agg (tmA b))).run Tryd.prog w = .ok (decide (a = b)) w := by
  cases a
  cases b
  simp only [tmA, Tm.mk.injEq]
  exact eq_times _ _ _ _ _ _ _ _ _ _ _ _ _ _ _ _ _ _ _ _ w

theorem same_times (c d : Cf) (A A' : Option Addr) (cap cap' : Nat) (w : World) (h : c.times ≠ d.times) :
    Calls Tryd.prog 25 #[cfV A c.lines.length cap c.times, cfV A' d.lines.length cap' d.times] w fun r w' => r = .returned (.bool false) ∧ Below w.heap.size w w' := by
  have hE := fun W => eq_tm c.times d.times W
  rw [decide_eq_false h] at hE
  clear h
  simp only [cfV]
  simp only [tmA] at hE
  go_enter Tryd.func25, Tryd.ntmps25
  go_wp2
  go_ret
  exact ⟨rfl, ((Below.refl _ _).alloc (Nat.le_refl _) _).alloc (by simp) _⟩
theorem same_len (c d : Cf) (A A' : Option Addr) (cap cap' : Nat) (w : World) (h : c.times = d.times) (hl : c.lines.length ≠ d.lines.length) :
    Calls Tryd.prog 25 #[cfV A c.lines.length cap c.times, cfV A' d.lines.length cap' d.times] w fun r w' => r = .returned (.bool false) ∧ Below w.heap.size w w' := by
  have hE := fun W => eq_tm c.times d.times W
  rw [decide_eq_true h] at hE
  rw [h] at hE ⊢
  have hn : ((c.lines.length : Int) != (d.lines.length : Int)) = true := by rw [bne_iff_ne]; omega
  generalize c.lines.length = n at hn ⊢
  generalize d.lines.length = m at hn ⊢
  clear h hl
  simp only [cfV]
  simp only [tmA] at hE
  go_enter Tryd.func25, Tryd.ntmps25
  go_wp2
  go_ret
  exact ⟨rfl, ((Below.refl _ _).alloc (Nat.le_refl _) _).alloc (by simp) _⟩

set_option maxHeartbeats 1000000 in
theorem same_rest (ls ms : List Ln) (t : Tm) (A A' : Option Addr) (cap cap' : Nat) (w : World) (hl : ls.length = ms.length) (hs : Sees w A (linesVs ls)) (hs' : Sees w A' (linesVs ms)) (hbig : ls.length ≤ 1000000000000000) :
    Calls Tryd.prog 25 #[cfV A ls.length cap t, cfV A' ms.length cap' t] w fun r w' => r = .returned (.bool (decide (ls = ms))) ∧ Below w.heap.size w w' := by
  have hE := fun W => eq_tm t t W
  rw [decide_eq_true rfl] at hE
  have HS := hid (And.intro hs hs')
  obtain ⟨n, hn⟩ : ∃ n, n = ls.length := ⟨_, rfl⟩
  rw [← hl, ← hn]
  rw [← hn] at hbig
  have HN := hid (And.intro hn (hn.trans hl))
  obtain ⟨q, hq⟩ : ∃ q, q = decide (ls = ms) := ⟨_, rfl⟩
  rw [← hq]
  have HQ := hid hq
  clear hn hl hs hs' hq
  simp only [cfV]
  simp only [tmA] at hE
  have HB0 := hid (((Below.refl w.heap.size w).alloc (Nat.le_refl _) (.cells #[.slice A n cap, .int .i64 t.amber, .int .i64 t.red, .int .i64 t.entry, .int .i64 t.travel, .int .i64 t.prove, .int .i64 t.opened, .int .i64 t.override, .int .i64 t.fresh, .int .i64 t.approach, .int .i64 t.warn] 39)).alloc (by simp) (.cells #[.slice A' n cap', .int .i64 t.amber, .int .i64 t.red, .int .i64 t.entry, .int .i64 t.travel, .int .i64 t.prove, .int .i64 t.opened, .int .i64 t.override, .int .i64 t.fresh, .int .i64 t.approach, .int .i64 t.warn] 39))
  have bx1 := (Box.new w 39 #[.slice A n cap, .int .i64 t.amber, .int .i64 t.red, .int .i64 t.entry, .int .i64 t.travel, .int .i64 t.prove, .int .i64 t.opened, .int .i64 t.override, .int .i64 t.fresh, .int .i64 t.approach, .int .i64 t.warn]).alloc (.cells #[.slice A' n cap', .int .i64 t.amber, .int .i64 t.red, .int .i64 t.entry, .int .i64 t.travel, .int .i64 t.prove, .int .i64 t.opened, .int .i64 t.override, .int .i64 t.fresh, .int .i64 t.approach, .int .i64 t.warn] 39)
  have bx2 := Box.new (w.alloc (.cells #[.slice A n cap, .int .i64 t.amber, .int .i64 t.red, .int .i64 t.entry, .int .i64 t.travel, .int .i64 t.prove, .int .i64 t.opened, .int .i64 t.override, .int .i64 t.fresh, .int .i64 t.approach, .int .i64 t.warn] 39)) 39 #[.slice A' n cap', .int .i64 t.amber, .int .i64 t.red, .int .i64 t.entry, .int .i64 t.travel, .int .i64 t.prove, .int .i64 t.opened, .int .i64 t.override, .int .i64 t.fresh, .int .i64 t.approach, .int .i64 t.warn]
  rw [World.size_alloc] at bx2
  have BX := hid (And.intro bx1 bx2)
  clear bx1 bx2
  go_enter Tryd.func25, Tryd.ntmps25
  go_wp2_with fail
  obtain ⟨w0, hw0⟩ : ∃ w0, w0 = (w.alloc (.cells #[.slice A n cap, .int .i64 t.amber, .int .i64 t.red, .int .i64 t.entry, .int .i64 t.travel, .int .i64 t.prove, .int .i64 t.opened, .int .i64 t.override, .int .i64 t.fresh, .int .i64 t.approach, .int .i64 t.warn] 39)).alloc (.cells #[.slice A' n cap', .int .i64 t.amber, .int .i64 t.red, .int .i64 t.entry, .int .i64 t.travel, .int .i64 t.prove, .int .i64 t.opened, .int .i64 t.override, .int .i64 t.fresh, .int .i64 t.approach, .int .i64 t.warn] 39) := ⟨_, rfl⟩
  rw [← hw0] at HB0 BX ⊢
  clear hw0 hE
  go_loopg [5] n (fun gg s5 wr => ∃ kk : Nat, kk ≤ n ∧ n - kk ≤ gg ∧ s5 = .int .i64 kk ∧ Hid (Below w0.heap.size w0 wr ∧ ls.take kk = ms.take kk))
  case atStart => exact ⟨0, by omega, by omega, rfl, Below.refl _ _, by simp⟩
  case round =>
    obtain ⟨kk, hkk, hg, rfl, HR⟩ := hrel
    have b1 := BX.out.1.below HR.out.1 BX.out.1.lt
    have b2 := BX.out.2.below HR.out.1 BX.out.2.lt
    have d1 := (b1.cell 0).trans (show _ = some (.slice A n cap) from rfl)
    have d2 := (b2.cell 0).trans (show _ = some (.slice A' n cap') from rfl)
    clear b1 b2
    by_cases hlt : kk < n
    · have hkl : kk < ls.length := by rw [← HN.out.1]; exact hlt
      have hkm : kk < ms.length := by rw [← HN.out.2]; exact hlt
      obtain ⟨bb, off, rfl, _, hc⟩ := ((HS.out.1.below HB0.out).below HR.out.1).form (by rw [linesVs_length]; omega)
      obtain ⟨bb', off', rfl, _, hc'⟩ := ((HS.out.2.below HB0.out).below HR.out.1).form (by rw [linesVs_length]; omega)
      obtain ⟨c0, c1, c2, c3, c4⟩ := line_cells hc kk hkl
      obtain ⟨e0, e1, e2, e3, e4⟩ := line_cells hc' kk hkm
      have hE := fun W => eq_line ls[kk] ms[kk] W
      have htk : (ls[kk] = ms[kk]) → ls.take (kk + 1) = ms.take (kk + 1) := by
        intro h
        rw [List.take_succ_eq_append_getElem hkl, List.take_succ_eq_append_getElem hkm, HR.out.2, h]
      have hnk : (ls[kk] ≠ ms[kk]) → q = false := by
        intro h
        rw [HQ.out]
        refine decide_eq_false fun e => h ?_
        subst e
        rfl
      generalize ls[kk] = l at c0 c1 c2 c3 c4 hE htk hnk
      generalize ms[kk] = m at e0 e1 e2 e3 e4 hE htk hnk
      clear hc hc'
      by_cases hlm : l = m
      · have HT := hid (htk hlm)
        rw [decide_eq_true hlm] at hE
        subst hlm
        simp only [lnA] at hE
        clear htk hnk
        go_wp2_with fail
        go_quiet (fail)
        go_wp2
        go_roundg (n - (kk + 1))
        case measure => omega
        case rel => exact ⟨kk + 1, by omega, by omega, by go_num, below_drewN HR.out.1 _, HT.out⟩
      · obtain rfl := hnk hlm
        have HT := hid hlm
        rw [decide_eq_false hlm] at hE
        simp only [lnA] at hE
        clear htk hnk hlm
        go_wp2_with fail
        go_quiet (fail)
        go_wp2
        go_ret
        exact ⟨rfl, HB0.out.trans ((below_drewN HR.out.1 _).mono HB0.out.size)⟩
    · have e : kk = n := by omega
      subst e
      have hq : q = true := by
        rw [HQ.out]
        refine decide_eq_true ?_
        have := HR.out.2
        rw [List.take_of_length_le (by rw [← HN.out.1]; exact Nat.le_refl _), List.take_of_length_le (by rw [← HN.out.2]; exact Nat.le_refl _)] at this
        exact this
      subst hq
      clear hg hkk hlt
      go_wp2
      go_ret
      exact ⟨rfl, HB0.out.trans (HR.out.1.mono HB0.out.size)⟩

theorem same_any (c d : Cf) (A A' : Option Addr) (cap cap' : Nat) (w : World) (hs : Sees w A (linesVs c.lines)) (hs' : Sees w A' (linesVs d.lines)) (hbig : c.lines.length ≤ 1000000000000000) :
    Calls Tryd.prog 25 #[cfV A c.lines.length cap c.times, cfV A' d.lines.length cap' d.times] w fun r w' => r = .returned (.bool (decide (c = d))) ∧ Below w.heap.size w w' := by
  by_cases ht : c.times = d.times
  · by_cases hl : c.lines.length = d.lines.length
    · have e : (decide (c = d)) = decide (c.lines = d.lines) := by
        cases c
        cases d
        simp only at ht
        subst ht
        simp
      rw [e, ht]
      exact same_rest _ _ _ _ _ _ _ w hl hs hs' hbig
    · rw [decide_eq_false (by rintro rfl; exact hl rfl)]
      exact same_len c d A A' cap cap' w ht hl
  · rw [decide_eq_false (by rintro rfl; exact ht rfl)]
    exact same_times c d A A' cap cap' w ht
end Go.Proofs.YtlijncmjcecppaaDoor
