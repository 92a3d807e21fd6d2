/- DelayBounds by contracts. -/
import Derived.Test.YtlijncmjcecppaaDoorSmall9
import Derived.Deep.Cut
namespace Go.Proofs.YtlijncmjcecppaaDoor
open Go.RowKit

/-- The cells of a crossing's block. -/
def cfA (A : Option Addr) (n cap : Nat) (t : Tm) : Array Value := #[.slice A n cap, .int .i64 t.amber, .int .i64 t.red, .int .i64 t.entry, .int .i64 t.travel, .int .i64 t.prove, .int .i64 t.opened, .int .i64 t.override, .int .i64 t.fresh, .int .i64 t.approach, .int .i64 t.warn]
theorem cfV_eq (A : Option Addr) (n cap : Nat) (t : Tm) : cfV A n cap t = .agg (cfA A n cap t) := rfl

set_option maxRecDepth 100000 in
set_option maxHeartbeats 4000000 in
theorem bounds_big (A A' : Option Addr) (n n' cap cap' : Nat) (t t' : Tm) (w : World) (hg : ErrTypeAt w) (h : decide (20 < (n : Int)) = true ∨ (decide (20 < (n : Int)) = false ∧ decide (20 < (n' : Int)) = true)) :
    Calls Tryd.prog 5 #[cfV A n cap t, cfV A' n' cap' t'] w fun r w' => r = .returned (.bool true) ∧ Below w.heap.size w w' := by
  have G := hid hg
  have hb1 : Below w.heap.size w ((w.alloc (.cells (cfA A n cap t) 39)).alloc (.cells (cfA A' n' cap' t') 39)) := ((Below.refl _ _).alloc (Nat.le_refl _) _).alloc (by simp) _
  have bx1 := (Box.new w 39 (cfA A n cap t)).alloc (.cells (cfA A' n' cap' t') 39)
  have bx2 := Box.new (w.alloc (.cells (cfA A n cap t) 39)) 39 (cfA A' n' cap' t')
  rw [World.size_alloc] at bx2
  have HB1 := hid (And.intro hb1 (And.intro bx1 bx2))
  clear hb1 bx1 bx2 hg
  simp only [cfV_eq]
  simp only [cfA] at HB1 ⊢
  rcases h with h | ⟨h, h'⟩
  all_goals
    go_enter Tryd.func5, Tryd.ntmps5
    go_wp2_with fail
    refine (small9_any _ (G.out.keepTo HB1.out.1)).mono ?_
    rintro r wa ⟨rfl, hba⟩
    have c0 := ((HB1.out.2.1.below hba HB1.out.2.1.lt).cell 0).trans (show _ = some (.slice A n cap) from rfl)
    have d0 := ((HB1.out.2.2.below hba HB1.out.2.2.lt).cell 0).trans (show _ = some (.slice A' n' cap') from rfl)
    have BA := hid (HB1.out.1.trans (hba.mono (by simp; omega)))
    clear hba HB1
    go_wp2
    go_ret
    exact ⟨rfl, BA.out⟩

set_option maxRecDepth 100000 in
set_option maxHeartbeats 4000000 in
theorem bounds_bb (A A' : Option Addr) (n n' cap cap' : Nat) (t t' : Tm) (w : World) (hg : ErrTypeAt w) (h : ¬ 20 < (n : Int)) (h' : ¬ 20 < (n' : Int))
    (vs vs' : List Value) (hs : Sees w A vs) (hs' : Sees w A' vs')
    (q : ∀ W, Sees W A vs → Calls Tryd.prog 17 #[cfV A n cap t] W (RetIE W 0 6))
    (q' : ∀ W, Sees W A' vs' → Calls Tryd.prog 17 #[cfV A' n' cap' t'] W (RetIE W 0 6)) :
    Calls Tryd.prog 5 #[cfV A n cap t, cfV A' n' cap' t'] w fun r w' => r = .returned (.bool true) ∧ Below w.heap.size w w' := by
  have G := hid hg
  have Q := hid q
  have Q' := hid q'
  have hb1 : Below w.heap.size w ((w.alloc (.cells (cfA A n cap t) 39)).alloc (.cells (cfA A' n' cap' t') 39)) := ((Below.refl _ _).alloc (Nat.le_refl _) _).alloc (by simp) _
  have bx1 := (Box.new w 39 (cfA A n cap t)).alloc (.cells (cfA A' n' cap' t') 39)
  have bx2 := Box.new (w.alloc (.cells (cfA A n cap t) 39)) 39 (cfA A' n' cap' t')
  rw [World.size_alloc] at bx2
  have HB1 := hid (And.intro hb1 (And.intro bx1 bx2))
  have HS := hid (And.intro hs hs')
  clear hb1 bx1 bx2 hg q q' hs hs'
  simp only [cfV_eq] at Q Q' ⊢
  simp only [cfA] at HB1 Q Q' ⊢
  go_enter Tryd.func5, Tryd.ntmps5
  go_wp2_with fail
  refine (small9_any _ (G.out.keepTo HB1.out.1)).mono ?_
  rintro r wa ⟨rfl, hba⟩
  have BX := hid (And.intro (HB1.out.2.1.below hba HB1.out.2.1.lt) (HB1.out.2.2.below hba HB1.out.2.2.lt))
  have c0 := (BX.out.1.cell 0).trans (show _ = some (.slice A n cap) from rfl)
  have d0 := (BX.out.2.cell 0).trans (show _ = some (.slice A' n' cap') from rfl)
  have BA := hid (HB1.out.1.trans (hba.mono (by simp; omega)))
  clear hba HB1
  go_upto_region 4 with (fail)
  clear c0 d0
  go_step
  with_reducible refine wpList_load_row rfl 39 (.tmp 2) rfl w.heap.size ?_ _ _ _ _ BX.out.1.heap Tryd.underlying39 ?_ ?_ ?_
  · rfl
  · rfl
  · kernel_rfl
  go_wp2_with fail
  refine (Q.out _ (HS.out.1.below BA.out)).mono ?_
  rintro r wb ⟨x, rfl, hx, hbb⟩
  have BY := hid (And.intro (BX.out.1.below hbb BX.out.1.lt) (BX.out.2.below hbb BX.out.2.lt))
  have BB := hid (BA.out.trans (hbb.mono BA.out.size))
  have X := hid hx
  clear hbb hx BX BA
  go_upto_region 5 with (fail)
  go_step
  with_reducible refine wpList_load_row rfl 39 (.tmp 3) rfl (w.heap.size + 1) ?_ _ _ _ _ BY.out.2.heap Tryd.underlying39 ?_ ?_ ?_
  · rfl
  · rfl
  · kernel_rfl
  go_wp2_with fail
  refine (Q'.out _ (HS.out.2.below BB.out)).mono ?_
  rintro r wc ⟨x', rfl, hx', hbb⟩
  have BX := hid (And.intro (BY.out.1.below hbb BY.out.1.lt) (BY.out.2.below hbb BY.out.2.lt))
  have BA := hid (BB.out.trans (hbb.mono BB.out.size))
  clear hbb BY BB
  first | obtain rfl := X.out.nilOf | obtain ⟨t1, y1, rfl⟩ := X.out.ifaceOf (by omega)
  first | obtain rfl := hx'.nilOf | obtain ⟨t2, y2, rfl⟩ := hx'.ifaceOf (by omega)
  clear X hx'

  go_wp2
  go_ret
  exact ⟨rfl, BA.out⟩

set_option maxRecDepth 100000 in
set_option maxHeartbeats 4000000 in
theorem bounds_bo (A A' : Option Addr) (n n' cap cap' : Nat) (t t' : Tm) (m : Int) (w : World) (hg : ErrTypeAt w) (h : ¬ 20 < (n : Int)) (h' : ¬ 20 < (n' : Int))
    (vs vs' : List Value) (hs : Sees w A vs) (hs' : Sees w A' vs')
    (q : ∀ W, Sees W A vs → Calls Tryd.prog 17 #[cfV A n cap t] W (RetIE W 0 6))
    (q' : ∀ W, Sees W A' vs' → Calls Tryd.prog 17 #[cfV A' n' cap' t'] W (RetIE W m 0)) :
    Calls Tryd.prog 5 #[cfV A n cap t, cfV A' n' cap' t'] w fun r w' => r = .returned (.bool true) ∧ Below w.heap.size w w' := by
  have G := hid hg
  have Q := hid q
  have Q' := hid q'
  have hb1 : Below w.heap.size w ((w.alloc (.cells (cfA A n cap t) 39)).alloc (.cells (cfA A' n' cap' t') 39)) := ((Below.refl _ _).alloc (Nat.le_refl _) _).alloc (by simp) _
  have bx1 := (Box.new w 39 (cfA A n cap t)).alloc (.cells (cfA A' n' cap' t') 39)
  have bx2 := Box.new (w.alloc (.cells (cfA A n cap t) 39)) 39 (cfA A' n' cap' t')
  rw [World.size_alloc] at bx2
  have HB1 := hid (And.intro hb1 (And.intro bx1 bx2))
  have HS := hid (And.intro hs hs')
  clear hb1 bx1 bx2 hg q q' hs hs'
  simp only [cfV_eq] at Q Q' ⊢
  simp only [cfA] at HB1 Q Q' ⊢
  go_enter Tryd.func5, Tryd.ntmps5
  go_wp2_with fail
  refine (small9_any _ (G.out.keepTo HB1.out.1)).mono ?_
  rintro r wa ⟨rfl, hba⟩
  have BX := hid (And.intro (HB1.out.2.1.below hba HB1.out.2.1.lt) (HB1.out.2.2.below hba HB1.out.2.2.lt))
  have c0 := (BX.out.1.cell 0).trans (show _ = some (.slice A n cap) from rfl)
  have d0 := (BX.out.2.cell 0).trans (show _ = some (.slice A' n' cap') from rfl)
  have BA := hid (HB1.out.1.trans (hba.mono (by simp; omega)))
  clear hba HB1
  go_upto_region 4 with (fail)
  clear c0 d0
  go_step
  with_reducible refine wpList_load_row rfl 39 (.tmp 2) rfl w.heap.size ?_ _ _ _ _ BX.out.1.heap Tryd.underlying39 ?_ ?_ ?_
  · rfl
  · rfl
  · kernel_rfl
  go_wp2_with fail
  refine (Q.out _ (HS.out.1.below BA.out)).mono ?_
  rintro r wb ⟨x, rfl, hx, hbb⟩
  have BY := hid (And.intro (BX.out.1.below hbb BX.out.1.lt) (BX.out.2.below hbb BX.out.2.lt))
  have BB := hid (BA.out.trans (hbb.mono BA.out.size))
  have X := hid hx
  clear hbb hx BX BA
  go_upto_region 5 with (fail)
  go_step
  with_reducible refine wpList_load_row rfl 39 (.tmp 3) rfl (w.heap.size + 1) ?_ _ _ _ _ BY.out.2.heap Tryd.underlying39 ?_ ?_ ?_
  · rfl
  · rfl
  · kernel_rfl
  go_wp2_with fail
  refine (Q'.out _ (HS.out.2.below BB.out)).mono ?_
  rintro r wc ⟨x', rfl, hx', hbb⟩
  have BX := hid (And.intro (BY.out.1.below hbb BY.out.1.lt) (BY.out.2.below hbb BY.out.2.lt))
  have BA := hid (BB.out.trans (hbb.mono BB.out.size))
  clear hbb BY BB
  first | obtain rfl := X.out.nilOf | obtain ⟨t1, y1, rfl⟩ := X.out.ifaceOf (by omega)
  first | obtain rfl := hx'.nilOf | obtain ⟨t2, y2, rfl⟩ := hx'.ifaceOf (by omega)
  clear X hx'

  go_wp2
  go_ret
  exact ⟨rfl, BA.out⟩

set_option maxRecDepth 100000 in
set_option maxHeartbeats 4000000 in
theorem bounds_ob (A A' : Option Addr) (n n' cap cap' : Nat) (t t' : Tm) (m : Int) (w : World) (hg : ErrTypeAt w) (h : ¬ 20 < (n : Int)) (h' : ¬ 20 < (n' : Int))
    (vs vs' : List Value) (hs : Sees w A vs) (hs' : Sees w A' vs')
    (q : ∀ W, Sees W A vs → Calls Tryd.prog 17 #[cfV A n cap t] W (RetIE W m 0))
    (q' : ∀ W, Sees W A' vs' → Calls Tryd.prog 17 #[cfV A' n' cap' t'] W (RetIE W 0 6)) :
    Calls Tryd.prog 5 #[cfV A n cap t, cfV A' n' cap' t'] w fun r w' => r = .returned (.bool true) ∧ Below w.heap.size w w' := by
  have G := hid hg
  have Q := hid q
  have Q' := hid q'
  have hb1 : Below w.heap.size w ((w.alloc (.cells (cfA A n cap t) 39)).alloc (.cells (cfA A' n' cap' t') 39)) := ((Below.refl _ _).alloc (Nat.le_refl _) _).alloc (by simp) _
  have bx1 := (Box.new w 39 (cfA A n cap t)).alloc (.cells (cfA A' n' cap' t') 39)
  have bx2 := Box.new (w.alloc (.cells (cfA A n cap t) 39)) 39 (cfA A' n' cap' t')
  rw [World.size_alloc] at bx2
  have HB1 := hid (And.intro hb1 (And.intro bx1 bx2))
  have HS := hid (And.intro hs hs')
  clear hb1 bx1 bx2 hg q q' hs hs'
  simp only [cfV_eq] at Q Q' ⊢
  simp only [cfA] at HB1 Q Q' ⊢
  go_enter Tryd.func5, Tryd.ntmps5
  go_wp2_with fail
  refine (small9_any _ (G.out.keepTo HB1.out.1)).mono ?_
  rintro r wa ⟨rfl, hba⟩
  have BX := hid (And.intro (HB1.out.2.1.below hba HB1.out.2.1.lt) (HB1.out.2.2.below hba HB1.out.2.2.lt))
  have c0 := (BX.out.1.cell 0).trans (show _ = some (.slice A n cap) from rfl)
  have d0 := (BX.out.2.cell 0).trans (show _ = some (.slice A' n' cap') from rfl)
  have BA := hid (HB1.out.1.trans (hba.mono (by simp; omega)))
  clear hba HB1
  go_upto_region 4 with (fail)
  clear c0 d0
  go_step
  with_reducible refine wpList_load_row rfl 39 (.tmp 2) rfl w.heap.size ?_ _ _ _ _ BX.out.1.heap Tryd.underlying39 ?_ ?_ ?_
  · rfl
  · rfl
  · kernel_rfl
  go_wp2_with fail
  refine (Q.out _ (HS.out.1.below BA.out)).mono ?_
  rintro r wb ⟨x, rfl, hx, hbb⟩
  have BY := hid (And.intro (BX.out.1.below hbb BX.out.1.lt) (BX.out.2.below hbb BX.out.2.lt))
  have BB := hid (BA.out.trans (hbb.mono BA.out.size))
  have X := hid hx
  clear hbb hx BX BA
  go_upto_region 5 with (fail)
  go_step
  with_reducible refine wpList_load_row rfl 39 (.tmp 3) rfl (w.heap.size + 1) ?_ _ _ _ _ BY.out.2.heap Tryd.underlying39 ?_ ?_ ?_
  · rfl
  · rfl
  · kernel_rfl
  go_wp2_with fail
  refine (Q'.out _ (HS.out.2.below BB.out)).mono ?_
  rintro r wc ⟨x', rfl, hx', hbb⟩
  have BX := hid (And.intro (BY.out.1.below hbb BY.out.1.lt) (BY.out.2.below hbb BY.out.2.lt))
  have BA := hid (BB.out.trans (hbb.mono BB.out.size))
  clear hbb BY BB
  first | obtain rfl := X.out.nilOf | obtain ⟨t1, y1, rfl⟩ := X.out.ifaceOf (by omega)
  first | obtain rfl := hx'.nilOf | obtain ⟨t2, y2, rfl⟩ := hx'.ifaceOf (by omega)
  clear X hx'

  go_wp2
  go_ret
  exact ⟨rfl, BA.out⟩

set_option maxRecDepth 100000 in
set_option maxHeartbeats 4000000 in
theorem bounds_oo (A A' : Option Addr) (n n' cap cap' : Nat) (t t' : Tm) (m m' : Int) (w : World) (hg : ErrTypeAt w) (h : ¬ 20 < (n : Int)) (h' : ¬ 20 < (n' : Int))
    (vs vs' : List Value) (hs : Sees w A vs) (hs' : Sees w A' vs')
    (q : ∀ W, Sees W A vs → Calls Tryd.prog 17 #[cfV A n cap t] W (RetIE W m 0))
    (q' : ∀ W, Sees W A' vs' → Calls Tryd.prog 17 #[cfV A' n' cap' t'] W (RetIE W m' 0))
    (r1 : 1 ≤ t.travel ∧ t.travel ≤ 6000) (r2 : 1 ≤ t.fresh ∧ t.fresh ≤ 6000) (r3 : 1 ≤ t.approach ∧ t.approach ≤ 6000) (r4 : 1 ≤ t'.travel ∧ t'.travel ≤ 6000) (r5 : 1 ≤ t'.fresh ∧ t'.fresh ≤ 6000) (r6 : 1 ≤ t'.approach ∧ t'.approach ≤ 6000)
    (e1 : m = 8 + t.approach + t.fresh + t.fresh + t.travel) (e2 : m' = 8 + t'.approach + t'.fresh + t'.fresh + t'.travel) :
    Calls Tryd.prog 5 #[cfV A n cap t, cfV A' n' cap' t'] w fun r w' => r = .returned (.bool true) ∧ Below w.heap.size w w' := by
  have G := hid hg
  have EE := hid (And.intro e1 e2)
  clear e1 e2
  have Q := hid q
  have Q' := hid q'
  have hb1 : Below w.heap.size w ((w.alloc (.cells (cfA A n cap t) 39)).alloc (.cells (cfA A' n' cap' t') 39)) := ((Below.refl _ _).alloc (Nat.le_refl _) _).alloc (by simp) _
  have bx1 := (Box.new w 39 (cfA A n cap t)).alloc (.cells (cfA A' n' cap' t') 39)
  have bx2 := Box.new (w.alloc (.cells (cfA A n cap t) 39)) 39 (cfA A' n' cap' t')
  rw [World.size_alloc] at bx2
  have HB1 := hid (And.intro hb1 (And.intro bx1 bx2))
  have HS := hid (And.intro hs hs')
  clear hb1 bx1 bx2 hg q q' hs hs'
  simp only [cfV_eq] at Q Q' ⊢
  simp only [cfA] at HB1 Q Q' ⊢
  go_enter Tryd.func5, Tryd.ntmps5
  go_wp2_with fail
  refine (small9_any _ (G.out.keepTo HB1.out.1)).mono ?_
  rintro r wa ⟨rfl, hba⟩
  have BX := hid (And.intro (HB1.out.2.1.below hba HB1.out.2.1.lt) (HB1.out.2.2.below hba HB1.out.2.2.lt))
  have c0 := (BX.out.1.cell 0).trans (show _ = some (.slice A n cap) from rfl)
  have d0 := (BX.out.2.cell 0).trans (show _ = some (.slice A' n' cap') from rfl)
  have BA := hid (HB1.out.1.trans (hba.mono (by simp; omega)))
  clear hba HB1
  go_upto_region 4 with (fail)
  clear c0 d0
  go_step
  with_reducible refine wpList_load_row rfl 39 (.tmp 2) rfl w.heap.size ?_ _ _ _ _ BX.out.1.heap Tryd.underlying39 ?_ ?_ ?_
  · rfl
  · rfl
  · kernel_rfl
  go_wp2_with fail
  refine (Q.out _ (HS.out.1.below BA.out)).mono ?_
  rintro r wb ⟨x, rfl, hx, hbb⟩
  have BY := hid (And.intro (BX.out.1.below hbb BX.out.1.lt) (BX.out.2.below hbb BX.out.2.lt))
  have BB := hid (BA.out.trans (hbb.mono BA.out.size))
  have X := hid hx
  clear hbb hx BX BA
  go_upto_region 5 with (fail)
  go_step
  with_reducible refine wpList_load_row rfl 39 (.tmp 3) rfl (w.heap.size + 1) ?_ _ _ _ _ BY.out.2.heap Tryd.underlying39 ?_ ?_ ?_
  · rfl
  · rfl
  · kernel_rfl
  go_wp2_with fail
  refine (Q'.out _ (HS.out.2.below BB.out)).mono ?_
  rintro r wc ⟨x', rfl, hx', hbb⟩
  have BX := hid (And.intro (BY.out.1.below hbb BY.out.1.lt) (BY.out.2.below hbb BY.out.2.lt))
  have BA := hid (BB.out.trans (hbb.mono BB.out.size))
  clear hbb BY BB
  first | obtain rfl := X.out.nilOf | obtain ⟨t1, y1, rfl⟩ := X.out.ifaceOf (by omega)
  first | obtain rfl := hx'.nilOf | obtain ⟨t2, y2, rfl⟩ := hx'.ifaceOf (by omega)
  clear X hx'
  have ca := (BX.out.1.cell 4).trans (show _ = some (.int .i64 t.travel) from rfl)
  have da := (BX.out.2.cell 4).trans (show _ = some (.int .i64 t'.travel) from rfl)
  have cb := (BX.out.1.cell 8).trans (show _ = some (.int .i64 t.fresh) from rfl)
  have db := (BX.out.2.cell 8).trans (show _ = some (.int .i64 t'.fresh) from rfl)
  have cc := (BX.out.1.cell 9).trans (show _ = some (.int .i64 t.approach) from rfl)
  have dc := (BX.out.2.cell 9).trans (show _ = some (.int .i64 t'.approach) from rfl)
  obtain ⟨r1, s1⟩ := r1
  obtain ⟨r2, s2⟩ := r2
  obtain ⟨r3, s3⟩ := r3
  obtain ⟨r4, s4⟩ := r4
  obtain ⟨r5, s5⟩ := r5
  obtain ⟨r6, s6⟩ := r6
  obtain ⟨e1, e2⟩ := EE.out
  have e3 : m - m' = t.approach - t'.approach + 2 * (t.fresh - t'.fresh) + t.travel - t'.travel := by omega
  have e4 : 12 ≤ m := by omega
  have e5 : -100000 ≤ m - m' := by omega
  have e6 : m - m' ≤ 100000 := by omega
  have e7 : (m - m' == t.approach - t'.approach + 2 * (t.fresh - t'.fresh) + t.travel - t'.travel) = true := beq_iff_eq.2 e3
  clear e1 e2 e3
  go_wp2
  go_ret
  exact ⟨rfl, BA.out⟩

theorem bounds_any (c c' : Cf) (A A' : Option Addr) (cap cap' : Nat) (w : World) (hg : ErrTypeAt w) (hs : Sees w A (linesVs c.lines)) (hs' : Sees w A' (linesVs c'.lines)) :
    Calls Tryd.prog 5 #[cfV A c.lines.length cap c.times, cfV A' c'.lines.length cap' c'.times] w fun r w' => r = .returned (.bool true) ∧ Below w.heap.size w w' := by
  by_cases h : 20 < (c.lines.length : Int) ∨ 20 < (c'.lines.length : Int)
  · refine bounds_big _ _ _ _ _ _ _ _ w hg ?_
    simp only [decide_eq_true_eq, decide_eq_false_iff_not]
    omega
  · have q := fun W (x : Sees W A (linesVs c.lines)) => bound_any c A cap W x (by omega)
    have q' := fun W (x : Sees W A' (linesVs c'.lines)) => bound_any c' A' cap' W x (by omega)
    have n1 : ¬ 20 < (c.lines.length : Int) := by omega
    have n2 : ¬ 20 < (c'.lines.length : Int) := by omega
    unfold Cfg.code Dly.boundN at q q'
    cases e : Cfg.ok c <;> cases e' : Cfg.ok c' <;> rw [e] at q <;> rw [e'] at q' <;> simp only [Bool.false_eq_true, if_false, if_true] at q q'
    · exact bounds_bb _ _ _ _ _ _ _ _ w hg n1 n2 _ _ hs hs' q q'
    · exact bounds_bo _ _ _ _ _ _ _ _ _ w hg n1 n2 _ _ hs hs' q q'
    · exact bounds_ob _ _ _ _ _ _ _ _ _ w hg n1 n2 _ _ hs hs' q q'
    · have r := ((Cfg.ok_iff c).1 e).2.1
      have r' := ((Cfg.ok_iff c').1 e').2.1
      exact bounds_oo _ _ _ _ _ _ _ _ _ _ w hg n1 n2 _ _ hs hs' q q' (r _ (by simp [Tm.nums])) (r _ (by simp [Tm.nums])) (r _ (by simp [Tm.nums])) (r' _ (by simp [Tm.nums])) (r' _ (by simp [Tm.nums])) (r' _ (by simp [Tm.nums])) rfl rfl
end Go.Proofs.YtlijncmjcecppaaDoor
