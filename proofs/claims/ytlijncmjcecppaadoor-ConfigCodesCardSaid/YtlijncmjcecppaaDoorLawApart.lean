/- ConfigApart by contracts. -/
import Derived.Test.YtlijncmjcecppaaDoorLawTurned
import Derived.Deep.RegionHeld3
namespace Go.Proofs.YtlijncmjcecppaaDoor
open Go.RowKit

theorem cfgCells {w : World} {g : Nat} {t' : TypeId} {A : Option Addr} {n cap : Nat} {t : Tm} (h : Box w g t' (cfR A n cap t)) : w.cell? ⟨g, 0, none⟩ = some (.slice A n cap) ∧ w.cell? ⟨g, 1, none⟩ = some (.int .i64 t.amber) ∧ w.cell? ⟨g, 2, none⟩ = some (.int .i64 t.red) ∧ w.cell? ⟨g, 3, none⟩ = some (.int .i64 t.entry) ∧ w.cell? ⟨g, 4, none⟩ = some (.int .i64 t.travel) ∧ w.cell? ⟨g, 5, none⟩ = some (.int .i64 t.prove) ∧ w.cell? ⟨g, 6, none⟩ = some (.int .i64 t.opened) ∧ w.cell? ⟨g, 7, none⟩ = some (.int .i64 t.override) ∧ w.cell? ⟨g, 8, none⟩ = some (.int .i64 t.fresh) ∧ w.cell? ⟨g, 9, none⟩ = some (.int .i64 t.approach) ∧ w.cell? ⟨g, 10, none⟩ = some (.int .i64 t.warn) :=
  ⟨(h.cell 0).trans rfl, (h.cell 1).trans rfl, (h.cell 2).trans rfl, (h.cell 3).trans rfl, (h.cell 4).trans rfl, (h.cell 5).trans rfl, (h.cell 6).trans rfl, (h.cell 7).trans rfl, (h.cell 8).trans rfl, (h.cell 9).trans rfl, (h.cell 10).trans rfl⟩

theorem below_pre {B : Nat} {w w' : World} (h : Below B w.drew w') : Below B w w' := ⟨h.os, h.tape, h.output, h.size, h.block⟩
/-- Two crossings in the newest two blocks. -/
theorem boxes2 (w : World) (x y : Array Value) : Box ((w.alloc (.cells x 39)).alloc (.cells y 39)) w.heap.size 39 x ∧ Box ((w.alloc (.cells x 39)).alloc (.cells y 39)) (w.heap.size + 1) 39 y ∧ Below w.heap.size w ((w.alloc (.cells x 39)).alloc (.cells y 39)) := by
  refine ⟨(Box.new w _ x).alloc _, ?_, ((Below.refl _ _).alloc (Nat.le_refl _) _).alloc (by simp) _⟩
  have := Box.new (w.alloc (.cells x 39)) 39 y
  rw [World.size_alloc] at this
  exact this

set_option maxHeartbeats 1000000 in
theorem apart_skip (A A' : Option Addr) (n n' cap cap' : Nat) (t t' : Tm) (w : World) (hg : ErrTypeAt w) (h : decide (20 < (n : Int)) = true ∨ (decide (20 < (n : Int)) = false ∧ decide (20 < (n' : Int)) = true)) :
    Calls Tryd.prog 11 #[cfV A n cap t, cfV A' n' cap' t'] w fun r w' => r = .returned (.bool true) ∧ Below w.heap.size w w' := by
  have HG := hid hg
  have B2 := hid (boxes2 w (cfR A n cap t) (cfR A' n' cap' t'))
  clear hg
  rw [cfR_eq, cfR_eq]
  rcases h with h | ⟨h, h'⟩
  all_goals
    go_enter Tryd.func11, Tryd.ntmps11
    go_wp2_with fail
    refine (small8_any _ (HG.out.keepTo B2.out.2.2)).mono ?_
    rintro r w1 ⟨rfl, hb1⟩
    have hc := cells_cfR (B2.out.1.below hb1 B2.out.1.lt)
    have hc' := cells_cfR (B2.out.2.1.below hb1 B2.out.2.1.lt)
    have H1 := hid (B2.out.2.2.trans (hb1.mono (by simp; omega)))
    clear hb1
    go_wp2
    go_ret
    exact ⟨rfl, H1.out⟩

/-- What Encode answers: bytes, or an error. -/
def EncPost (c : Cf) (w : World) (r : Ending) (w' : World) : Prop :=
  (Cfg.ok c = true ∧ ∃ A cap, r = .returned (.tuple #[.slice A (26 + 14 * c.lines.length) cap, .nilIface]) ∧ Byts w' (.slice A (26 + 14 * c.lines.length) cap) (Cfg.enc c) ∧ Below w.heap.size w w') ∨
  (Cfg.ok c = false ∧ ∃ t y, r = .returned (.tuple #[.slice none 0 0, .iface t y]) ∧ ErrIs w' (.iface t y) 6 ∧ Below w.heap.size w w')
theorem encode_any (c : Cf) (A : Option Addr) (cap : Nat) (w : World) (hs : Sees w A (linesVs c.lines)) (hbig : c.lines.length ≤ 1000000000000000) :
    Calls Tryd.prog 19 #[cfV A c.lines.length cap c.times] w (EncPost c w) := by
  cases hok : Cfg.ok c with
  | true =>
    refine (encode_ok c A cap w hs hok).mono ?_
    rintro r w' ⟨v, rfl, ho⟩
    obtain ⟨A', cap', rfl, _⟩ := ho.form
    exact .inl ⟨hok, A', cap', rfl, ho.byts, ho.bel⟩
  | false =>
    refine (encode_bad c A cap w hs hbig hok).mono ?_
    rintro r w' ⟨x, rfl, hx, hb⟩
    obtain ⟨t, y, rfl⟩ := hx.ifaceOf (by omega)
    exact .inr ⟨hok, t, y, rfl, hx, hb⟩

set_option maxHeartbeats 4000000 in
set_option maxRecDepth 100000 in
theorem apart_main (c d : Cf) (A A' : Option Addr) (cap cap' : Nat) (w : World) (hg : ErrTypeAt w) (hs : Sees w A (linesVs c.lines)) (hs' : Sees w A' (linesVs d.lines)) (h : decide (20 < (c.lines.length : Int)) = false) (h' : decide (20 < (d.lines.length : Int)) = false) :
    Calls Tryd.prog 11 #[cfV A c.lines.length cap c.times, cfV A' d.lines.length cap' d.times] w fun r w' => r = .returned (.bool true) ∧ Below w.heap.size w w' := by
  have HG := hid hg
  have hn : c.lines.length ≤ 20 := by simp at h; omega
  have hn' : d.lines.length ≤ 20 := by simp at h'; omega
  have E1 := hid (fun W (h : Sees W A (linesVs c.lines)) => encode_any c A cap W h (by omega))
  have E2 := hid (fun W (h : Sees W A' (linesVs d.lines)) => encode_any d A' cap' W h (by omega))
  have SM : Hid (∀ W, Sees W A (linesVs c.lines) → Sees W A' (linesVs d.lines) → Calls Tryd.prog 25 #[.agg #[.slice A c.lines.length cap, .int .i64 c.times.amber, .int .i64 c.times.red, .int .i64 c.times.entry, .int .i64 c.times.travel, .int .i64 c.times.prove, .int .i64 c.times.opened, .int .i64 c.times.override, .int .i64 c.times.fresh, .int .i64 c.times.approach, .int .i64 c.times.warn], .agg #[.slice A' d.lines.length cap', .int .i64 d.times.amber, .int .i64 d.times.red, .int .i64 d.times.entry, .int .i64 d.times.travel, .int .i64 d.times.prove, .int .i64 d.times.opened, .int .i64 d.times.override, .int .i64 d.times.fresh, .int .i64 d.times.approach, .int .i64 d.times.warn]] W fun r w' => r = .returned (.bool (decide (c = d))) ∧ Below W.heap.size W w') :=
    fun W h h' => same_any c d A A' cap cap' W h h' (by omega)
  have HS := hid (And.intro hs hs')
  have B2 := hid (boxes2 w (cfR A c.lines.length cap c.times) (cfR A' d.lines.length cap' d.times))
  clear hg hs hs'
  rw [cfR_eq] at E1 E2
  rw [cfR_eq, cfR_eq]
  unfold EncPost at E1 E2
  have HEQ : Hid (Cfg.ok c = true → Cfg.ok d = true → (Cfg.enc c == Cfg.enc d) = decide (c = d)) := fun h1 h2 => by
    by_cases e : c = d
    · subst e; simp
    · rw [decide_eq_false e]
      exact beq_eq_false_iff_ne.2 fun x => e (Cfg.enc_inj h1 h2 x)
  generalize decide (c = d) = q at SM HEQ
  generalize Cfg.enc c = X at E1 HEQ
  generalize Cfg.enc d = Y at E2 HEQ
  obtain ⟨n, hnn⟩ : ∃ n, n = c.lines.length := ⟨_, rfl⟩
  obtain ⟨n', hnn'⟩ : ∃ n, n = d.lines.length := ⟨_, rfl⟩
  rw [← hnn] at E1 SM B2 h hn ⊢
  rw [← hnn'] at E2 SM B2 h' hn' ⊢
  clear hnn hnn'
  go_enter Tryd.func11, Tryd.ntmps11
  go_wp2_with fail
  refine (small8_any _ (HG.out.keepTo B2.out.2.2)).mono ?_
  rintro r w1 ⟨rfl, hb1⟩
  have X1 := hid (B2.out.1.below hb1 B2.out.1.lt)
  have Y1 := hid (B2.out.2.1.below hb1 B2.out.2.1.lt)
  have hc := cells_cfR X1.out
  have hc' := cells_cfR Y1.out
  have H1 := hid (B2.out.2.2.trans (hb1.mono (by simp; omega)))
  clear hb1 B2
  go_wp2_with ((with_reducible refine wp_loadRow rfl 39 (.tmp 2) rfl X1 ?_ ?_ ?_); exact sConfig; rfl)
  refine (E1.out _ (HS.out.1.below H1.out)).mono ?_
  rintro r w2 hp
  have hb2 : Below w1.heap.size w1 w2 := by
    rcases hp with ⟨_, _, _, _, _, hb⟩ | ⟨_, _, _, _, _, hb⟩ <;> exact hb
  have X2 := hid (X1.out.below hb2 X1.out.lt)
  have Y2 := hid (Y1.out.below hb2 Y1.out.lt)
  have H2 := hid (H1.out.trans (hb2.mono H1.out.size))
  clear hb2 X1 Y1 hc hc' H1 E1
  rcases hp with ⟨hok, A2, cap2, rfl, hby, _⟩ | ⟨hok, t2, y2, rfl, _, _⟩
  · have K := hid (And.intro hok hby)
    clear hok hby
    go_wp2_with ((with_reducible refine wp_loadRow rfl 39 (.tmp 3) rfl Y2 ?_ ?_ ?_); exact sConfig; rfl)
    refine (E2.out _ (HS.out.2.below H2.out)).mono ?_
    rintro r w3 hp
    have hb3 : Below w2.heap.size w2 w3 := by
      rcases hp with ⟨_, _, _, _, _, hb⟩ | ⟨_, _, _, _, _, hb⟩ <;> exact hb
    have X3 := hid (X2.out.below hb3 X2.out.lt)
    have Y3 := hid (Y2.out.below hb3 Y2.out.lt)
    have H3 := hid (H2.out.trans (hb3.mono H2.out.size))
    have K3 := hid (K.out.2.below hb3)
    clear hb3 X2 Y2 H2 E2
    rcases hp with ⟨hok2, A3, cap3, rfl, hby2, _⟩ | ⟨hok2, t3, y3, rfl, _, _⟩
    · have L3 := hid hby2
      have hq : (X == Y) = q := HEQ.out K.out.1 hok2
      clear hok2 hby2 HEQ
      have cx : (convert 42 9 (.slice A2 (26 + 14 * n) cap2)).run Tryd.prog w3.drew = .ok (.string (bsOf X)) w3.drew := conv_byts (w := w3.drew) K3.out
      have cy : (convert 42 9 (.slice A3 (26 + 14 * n') cap3)).run Tryd.prog w3.drew = .ok (.string (bsOf Y)) w3.drew := conv_byts (w := w3.drew) L3.out
      go_wp2_with fail
      go_region_held3 (fun w' => ((w'.cell? ⟨w.heap.size, 0, none⟩ = some (.slice A n cap) ∧ w'.cell? ⟨w.heap.size, 1, none⟩ = some (.int .i64 c.times.amber) ∧ w'.cell? ⟨w.heap.size, 2, none⟩ = some (.int .i64 c.times.red) ∧ w'.cell? ⟨w.heap.size, 3, none⟩ = some (.int .i64 c.times.entry) ∧ w'.cell? ⟨w.heap.size, 4, none⟩ = some (.int .i64 c.times.travel) ∧ w'.cell? ⟨w.heap.size, 5, none⟩ = some (.int .i64 c.times.prove) ∧ w'.cell? ⟨w.heap.size, 6, none⟩ = some (.int .i64 c.times.opened) ∧ w'.cell? ⟨w.heap.size, 7, none⟩ = some (.int .i64 c.times.override) ∧ w'.cell? ⟨w.heap.size, 8, none⟩ = some (.int .i64 c.times.fresh) ∧ w'.cell? ⟨w.heap.size, 9, none⟩ = some (.int .i64 c.times.approach) ∧ w'.cell? ⟨w.heap.size, 10, none⟩ = some (.int .i64 c.times.warn)) ∧ (w'.cell? ⟨w.heap.size + 1, 0, none⟩ = some (.slice A' n' cap') ∧ w'.cell? ⟨w.heap.size + 1, 1, none⟩ = some (.int .i64 d.times.amber) ∧ w'.cell? ⟨w.heap.size + 1, 2, none⟩ = some (.int .i64 d.times.red) ∧ w'.cell? ⟨w.heap.size + 1, 3, none⟩ = some (.int .i64 d.times.entry) ∧ w'.cell? ⟨w.heap.size + 1, 4, none⟩ = some (.int .i64 d.times.travel) ∧ w'.cell? ⟨w.heap.size + 1, 5, none⟩ = some (.int .i64 d.times.prove) ∧ w'.cell? ⟨w.heap.size + 1, 6, none⟩ = some (.int .i64 d.times.opened) ∧ w'.cell? ⟨w.heap.size + 1, 7, none⟩ = some (.int .i64 d.times.override) ∧ w'.cell? ⟨w.heap.size + 1, 8, none⟩ = some (.int .i64 d.times.fresh) ∧ w'.cell? ⟨w.heap.size + 1, 9, none⟩ = some (.int .i64 d.times.approach) ∧ w'.cell? ⟨w.heap.size + 1, 10, none⟩ = some (.int .i64 d.times.warn))) ∧ (convert 42 9 (.slice A2 (26 + 14 * n) cap2)).run Tryd.prog w' = .ok (.string (bsOf X)) w' ∧ (convert 42 9 (.slice A3 (26 + 14 * n') cap3)).run Tryd.prog w' = .ok (.string (bsOf Y)) w')
        (first | exact ⟨⟨cfgCells X3.out, cfgCells Y3.out⟩, cx, cy⟩ | exact ⟨⟨cfgCells (X3.out.below H4.out X3.out.lt), cfgCells (Y3.out.below H4.out Y3.out.lt)⟩, cx', cy'⟩)
        (first | (go_at_call 25; (refine (SM.out _ (HS.out.1.below H3.out.drew) (HS.out.2.below H3.out.drew)).mono ?_; rintro r w4 ⟨rfl, hb4⟩; have H4 : Hid (Below w3.heap.size w3 w4) := below_pre hb4; have cx' := conv_byts (K3.out.below H4.out); have cy' := conv_byts (L3.out.below H4.out); clear hb4)))
      clear cx cy cx' cy'
      go_wp2
      go_ret
      exact ⟨rfl, H3.out.trans (H4.out.mono H3.out.size)⟩
    · go_wp2_with fail
      go_quiet (fail)
      go_wp2
      go_ret
      exact ⟨rfl, below_drewN H3.out _⟩
  · go_wp2_with ((with_reducible refine wp_loadRow rfl 39 (.tmp 3) rfl Y2 ?_ ?_ ?_); exact sConfig; rfl)
    refine (E2.out _ (HS.out.2.below H2.out)).mono ?_
    rintro r w3 hp
    have hb3 : Below w2.heap.size w2 w3 := by
      rcases hp with ⟨_, _, _, _, _, hb⟩ | ⟨_, _, _, _, _, hb⟩ <;> exact hb
    have H3 := hid (H2.out.trans (hb3.mono H2.out.size))
    clear hb3 X2 Y2 H2 E2
    rcases hp with ⟨_, A3, cap3, rfl, _, _⟩ | ⟨_, t3, y3, rfl, _, _⟩
    all_goals
      go_wp2_with fail
      go_quiet (fail)
      go_wp2
      go_ret
      exact ⟨rfl, below_drewN H3.out _⟩

theorem configApart_any (c d : Cf) (A A' : Option Addr) (cap cap' : Nat) (w : World) (hg : ErrTypeAt w) (hs : Sees w A (linesVs c.lines)) (hs' : Sees w A' (linesVs d.lines)) :
    Calls Tryd.prog 11 #[cfV A c.lines.length cap c.times, cfV A' d.lines.length cap' d.times] w fun r w' => r = .returned (.bool true) ∧ Below w.heap.size w w' := by
  by_cases h : 20 < (c.lines.length : Int)
  · exact apart_skip _ _ _ _ _ _ _ _ w hg (.inl (decide_eq_true h))
  · by_cases h' : 20 < (d.lines.length : Int)
    · exact apart_skip _ _ _ _ _ _ _ _ w hg (.inr ⟨decide_eq_false h, decide_eq_true h'⟩)
    · exact apart_main c d A A' cap cap' w hg hs hs' (decide_eq_false h) (decide_eq_false h')
end Go.Proofs.YtlijncmjcecppaaDoor
