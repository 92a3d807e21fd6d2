/- ConfigBack by contracts. -/
import Derived.Test.YtlijncmjcecppaaDoorLawApart
namespace Go.Proofs.YtlijncmjcecppaaDoor
open Go.RowKit

set_option maxHeartbeats 1000000 in
theorem back_skip (A A' : Option Addr) (n m cap cap' : Nat) (t : Tm) (w : World) (hg : ErrTypeAt w) (h : decide (20 < (n : Int)) = true ∨ (decide (20 < (n : Int)) = false ∧ decide (500 < (m : Int)) = true)) :
    Calls Tryd.prog 7 #[cfV A n cap t, .slice A' m cap'] w fun r w' => r = .returned (.bool true) ∧ Below w.heap.size w w' := by
  have HG := hid hg
  have BX := hid (Box.new w 39 (cfR A n cap t))
  have BB := hid ((Below.refl w.heap.size w).alloc (Nat.le_refl _) (.cells (cfR A n cap t) 39))
  clear hg
  rw [cfR_eq]
  rcases h with h | ⟨h, h'⟩
  all_goals
    go_enter Tryd.func7, Tryd.ntmps7
    go_wp2_with fail
    refine (small8_any _ (HG.out.keepTo BB.out)).mono ?_
    rintro r w1 ⟨rfl, hb1⟩
    have hc := cells_cfR (BX.out.below hb1 BX.out.lt)
    have H1 := hid (BB.out.trans (hb1.mono (by simp)))
    clear hb1
    go_wp2
    go_ret
    exact ⟨rfl, H1.out⟩

/-- What Decode answers: a crossing that may be, whose bytes these are, or none and an error. -/
def DecAns (b : List UInt8) (w : World) (r : Ending) (w' : World) : Prop :=
  (∃ c A cap, r = .returned (.tuple #[cfV A c.lines.length cap c.times, .nilIface]) ∧ Cfg.ok c = true ∧ Cfg.enc c = b ∧ Sees w' A (linesVs c.lines) ∧ Below w.heap.size w w') ∨
  (∃ t y e, r = .returned (.tuple #[.agg cfZ, .iface t y]) ∧ ErrIs w' (.iface t y) e ∧ Cfg.dec b = .error e ∧ Below w.heap.size w w')
theorem decode_any (v : Value) (b : List UInt8) (w : World) (h : Byts w v b) (hlen : b.length ≤ 10000000000000) : Calls Tryd.prog 21 #[v] w (DecAns b w) := by
  cases hd : Cfg.dec b with
  | ok c =>
    refine (decode_yes v b c w h hlen hd).mono ?_
    rintro r w' ⟨A, cap, rfl, ho⟩
    obtain ⟨h1, h2⟩ := Cfg.enc_dec b c hd
    exact .inl ⟨c, A, cap, rfl, h1, h2, ho.sees, ho.bel⟩
  | error e =>
    refine (decode_no v b e w h hlen hd).mono ?_
    rintro r w' ⟨x, rfl, hx, hb⟩
    obtain ⟨t, y, rfl⟩ := hx.ifaceOf (by rcases Cfg.dec_err hd with h | h | h <;> omega)
    exact .inr ⟨t, y, e, rfl, hx, hd, hb⟩

/-- The second half of the law: bytes as a crossing, and back. -/
theorem same_zero (w : World) : Calls Tryd.prog 25 #[.agg cfZ, .agg cfZ] w fun r w' => r = .returned (.bool true) ∧ Below w.heap.size w w' := by
  have := same_any { lines := [], times := tm0 0 } { lines := [], times := tm0 0 } none none 0 0 w (Sees.nil _ _) (Sees.nil _ _) (by simp)
  rw [decide_eq_true rfl] at this
  exact this

set_option maxHeartbeats 4000000 in
set_option maxRecDepth 100000 in
theorem back_main (c : Cf) (b : List UInt8) (vb : Value) (A : Option Addr) (cap : Nat) (w : World) (hg : ErrTypeAt w) (hs : Sees w A (linesVs c.lines)) (hb : Byts w vb b) (h : decide (20 < (c.lines.length : Int)) = false) (h' : b.length ≤ 500) :
    Calls Tryd.prog 7 #[cfV A c.lines.length cap c.times, vb] w fun r w' => r = .returned (.bool true) ∧ Below w.heap.size w w' := by
  have HG := hid hg
  have hn : c.lines.length ≤ 20 := by simp at h; omega
  have E1 := hid (fun W (h : Sees W A (linesVs c.lines)) => encode_any c A cap W h (by omega))
  have CK := hid (fun W (h : Sees W A (linesVs c.lines)) => check_any c A cap W h (by omega))
  have SM := hid (fun W A' cap' (h : Sees W A' (linesVs c.lines)) (h' : Sees W A (linesVs c.lines)) => same_any c c A' A cap' cap W h h' (by omega))
  have D2 := hid (fun W (h : Byts W vb b) => decode_any vb b W h (by omega))
  have HS := hid hs
  have HB := hid hb
  obtain ⟨Ab, capb, rfl, _⟩ := hb
  have BX := hid (Box.new w 39 (cfR A c.lines.length cap c.times))
  have BB := hid ((Below.refl w.heap.size w).alloc (Nat.le_refl _) (.cells (cfR A c.lines.length cap c.times) 39))
  have h500 : decide (500 < (b.length : Int)) = false := by simp; omega
  have HBL := hid h'
  clear hg hs h'
  rw [cfR_eq] at E1
  rw [cfR_eq]
  unfold EncPost at E1
  unfold DecAns at D2
  have DE := hid (fun W v (h : Byts W v (Cfg.enc c)) (hk : Cfg.ok c = true) => decode_yes v (Cfg.enc c) c W h (by rw [Cfg.enc_length]; omega) (Cfg.dec_enc c hk))
  unfold Cfg.code at CK
  rw [decide_eq_true rfl] at SM
  generalize Cfg.enc c = X at E1 DE
  have SM' : Hid (∀ W A' cap', Sees W A' (linesVs c.lines) → Sees W A (linesVs c.lines) → Calls Tryd.prog 25 #[.agg (cfR A' c.lines.length cap' c.times), .agg (cfR A c.lines.length cap c.times)] W fun r w' => r = .returned (.bool true) ∧ Below W.heap.size W w') := SM.out
  clear SM
  have CK' : Hid (∀ W, Sees W A (linesVs c.lines) → Calls Tryd.prog 23 #[.agg #[.slice A c.lines.length cap, .int .i64 c.times.amber, .int .i64 c.times.red, .int .i64 c.times.entry, .int .i64 c.times.travel, .int .i64 c.times.prove, .int .i64 c.times.opened, .int .i64 c.times.override, .int .i64 c.times.fresh, .int .i64 c.times.approach, .int .i64 c.times.warn]] W fun r w' => ∃ x, r = .returned x ∧ ErrIs w' x (if Cfg.ok c = true then 0 else 6) ∧ Below W.heap.size W w') := CK.out
  clear CK
  obtain ⟨n, hnn⟩ : ∃ n, n = c.lines.length := ⟨_, rfl⟩
  rw [← hnn] at E1 SM' CK' DE BX BB h hn ⊢
  clear hnn
  generalize hbl : b.length = m at *
  clear hbl
  go_enter Tryd.func7, Tryd.ntmps7
  go_wp2_with fail
  refine (small8_any _ (HG.out.keepTo BB.out)).mono ?_
  rintro r w1 ⟨rfl, hb1⟩
  have X1 := hid (BX.out.below hb1 BX.out.lt)
  have hc := cells_cfR X1.out
  have H1 := hid (BB.out.trans (hb1.mono (by simp)))
  clear hb1 BX BB
  go_wp2_with ((with_reducible refine wp_loadRow rfl 39 (.tmp 2) rfl X1 ?_ ?_ ?_); exact sConfig; rfl)
  refine (E1.out _ (HS.out.below H1.out)).mono ?_
  rintro r w2 hp
  have hb2 : Below w1.heap.size w1 w2 := by
    rcases hp with ⟨_, _, _, _, _, hb⟩ | ⟨_, _, _, _, _, hb⟩ <;> exact hb
  have X2 := hid (X1.out.below hb2 X1.out.lt)
  have H2 := hid (H1.out.trans (hb2.mono H1.out.size))
  clear hb2 X1 hc H1 E1
  rcases hp with ⟨hok, A2, cap2, rfl, hby, _⟩ | ⟨hok, t2, y2, rfl, _, _⟩
  · have K := hid (And.intro hok hby)
    rw [hok] at CK'
    simp only [if_true] at CK'
    clear hok hby
    go_wp2_with fail
    go_region_held3 (fun w' => w'.cell? ⟨w.heap.size, 0, none⟩ = some (.slice A n cap) ∧ w'.cell? ⟨w.heap.size, 1, none⟩ = some (.int .i64 c.times.amber) ∧ w'.cell? ⟨w.heap.size, 2, none⟩ = some (.int .i64 c.times.red) ∧ w'.cell? ⟨w.heap.size, 3, none⟩ = some (.int .i64 c.times.entry) ∧ w'.cell? ⟨w.heap.size, 4, none⟩ = some (.int .i64 c.times.travel) ∧ w'.cell? ⟨w.heap.size, 5, none⟩ = some (.int .i64 c.times.prove) ∧ w'.cell? ⟨w.heap.size, 6, none⟩ = some (.int .i64 c.times.opened) ∧ w'.cell? ⟨w.heap.size, 7, none⟩ = some (.int .i64 c.times.override) ∧ w'.cell? ⟨w.heap.size, 8, none⟩ = some (.int .i64 c.times.fresh) ∧ w'.cell? ⟨w.heap.size, 9, none⟩ = some (.int .i64 c.times.approach) ∧ w'.cell? ⟨w.heap.size, 10, none⟩ = some (.int .i64 c.times.warn))
      (first | exact cfgCells X2.out | exact cfgCells (X2.out.below H4.out X2.out.lt))
      (first | (go_at_call 23; (refine (CK'.out _ (HS.out.below H2.out.drew)).mono ?_; rintro r w4 ⟨e4, rfl, he4, hb4⟩; have H4 : Hid (Below w2.heap.size w2 w4) := below_pre hb4; obtain rfl := he4.nilOf; clear hb4 he4)))
    have X4 := hid (X2.out.below H4.out X2.out.lt)
    have K4 := hid (K.out.2.below H4.out)
    have H5 := hid (H2.out.trans (H4.out.mono H2.out.size))
    clear X2 H4 H2
    go_wp2_with fail
    refine (DE.out _ _ K4.out K.out.1).mono ?_
    rintro r w5 ⟨A5, cap5, rfl, ho5⟩
    rw [cfR_eq]
    have X5 := hid (X4.out.below ho5.bel X4.out.lt)
    have H6 := hid (H5.out.trans (ho5.bel.mono H5.out.size))
    have Z5 := hid ho5.sees
    clear ho5 X4 H5 K4 K
    have hq : Hid (Below w5.heap.size w5 (w5.alloc (.cells (cfR A5 n cap5 c.times) 39))) := (Below.refl _ _).alloc (Nat.le_refl _) _
    have X6 := hid (X5.out.below hq.out X5.out.lt)
    have Y6 := hid (Box.new w5 39 (cfR A5 n cap5 c.times))
    have H7 := hid (H6.out.trans (hq.out.mono H6.out.size))
    go_wp2_with (first | ((with_reducible refine wp_storeNew rfl 39 (.tmp 8) (.tmp 41) rfl (cfR A5 n cap5 c.times) ?_ ?_ ?_ ?_ ?_ ?_); exact sConfig; rfl; rfl; rfl; rfl) | ((with_reducible refine wp_loadRowG 39 (.tmp 8) rfl Y6 ?_ ?_ ?_ ?_); rfl; exact sConfig; rfl) | ((with_reducible refine wp_loadRowG 39 (.tmp 2) rfl X6 ?_ ?_ ?_ ?_); rfl; exact sConfig; rfl))
    refine (SM'.out _ _ _ (Z5.out.below hq.out) (HS.out.below H7.out)).mono ?_
    rintro r wz ⟨rfl, hbz⟩
    have HZ := hid (H7.out.trans (hbz.mono H7.out.size))
    clear hbz X6 Y6 H7 hq X5 H6 Z5 SM' CK' DE
    go_wp2_with fail
    refine (D2.out _ (HB.out.below HZ.out)).mono ?_
    rintro r w6 hp
    rcases hp with ⟨d, A6, cap6, rfl, hok6, henc, hs6, hb6⟩ | ⟨t6, y6, e6, rfl, _, _, hb6⟩
    · rw [cfR_eq]
      have L6 := hid (And.intro hs6 (And.intro hok6 (HZ.out.trans (hb6.mono HZ.out.size))))
      have n6 := ((Cfg.ok_iff d).1 hok6).1.2
      have E6 := hid (fun W (h : Sees W A6 (linesVs d.lines)) => encode_ok d A6 cap6 W h hok6)
      have C6 := hid (fun W (h : Sees W A6 (linesVs d.lines)) => check_any d A6 cap6 W h (by omega))
      unfold Cfg.code at C6
      rw [hok6] at C6
      simp only [if_true] at C6
      rw [henc] at E6
      rw [cfR_eq] at E6 C6
      obtain ⟨xd, hxd⟩ : ∃ x, x = cfR A6 d.lines.length cap6 d.times := ⟨_, rfl⟩
      have XD : Hid (xd.size = 11 ∧ xd.toList.all (fun u => u.oneCell') = true) := ⟨by rw [hxd]; rfl, by rw [hxd]; rfl⟩
      rw [← hxd] at E6 C6 ⊢
      have HB6 := hid (HB.out.below (HZ.out.trans (hb6.mono HZ.out.size)))
      generalize d.lines.length = nd at E6 n6
      clear hs6 hok6 hb6 HZ D2 henc hxd
      have hq : Hid (Below w6.heap.size w6 (w6.alloc (.cells xd 39))) := (Below.refl _ _).alloc (Nat.le_refl _) _
      have X6 := hid (Box.new w6 39 xd)
      go_wp2_with (first | ((with_reducible refine wp_storeNew rfl 39 (.tmp 10) (.tmp 54) rfl xd ?_ ?_ ?_ ?_ ?_ ?_); (rw [XD.out.1]; exact sConfig); (rw [XD.out.1]; rfl); rfl; rfl; exact XD.out.2) | ((with_reducible refine wp_loadRow rfl 39 (.tmp 10) rfl X6 ?_ ?_ ?_); (rw [XD.out.1]; exact sConfig); rfl))
      refine (E6.out _ (L6.out.1.below hq.out)).mono ?_
      rintro r w7 ⟨v7, rfl, h7⟩
      obtain ⟨A7, cap7, hv7, _⟩ := h7.form
      subst hv7
      have X7 := hid (X6.out.below h7.bel X6.out.lt)
      have HB7 := hid ((HB6.out.below hq.out).below h7.bel)
      have Z7 := hid h7.byts
      have S7 := hid ((L6.out.1.below hq.out).below h7.bel)
      have H7 := hid ((L6.out.2.2.trans (hq.out.mono L6.out.2.2.size)).trans (h7.bel.mono (by have := L6.out.2.2.size; have := hq.out.size; omega)))
      clear h7 X6 E6 HB6 hq L6
      go_wp2_with ((with_reducible refine wp_loadRowG 39 (.tmp 10) rfl X7 ?_ ?_ ?_ ?_); rfl; (rw [XD.out.1]; exact sConfig); rfl)
      refine (C6.out _ S7.out).mono ?_
      rintro r w8 ⟨e8, rfl, he8, hb8⟩
      obtain rfl := he8.nilOf
      have cx := conv_byts (Z7.out.below hb8)
      have cy := conv_byts (HB7.out.below hb8)
      have H8 := hid (H7.out.trans (hb8.mono H7.out.size))
      clear he8 hb8 X7 HB7 Z7 S7 H7 C6
      go_wp2
      go_ret
      exact ⟨rfl, H8.out⟩
    · have H6 := hid (HZ.out.trans (hb6.mono HZ.out.size))
      have hq : Hid (Below w6.heap.size w6 (w6.alloc (.cells cfZ 39))) := (Below.refl _ _).alloc (Nat.le_refl _) _
      have X6 := hid (Box.new w6 39 cfZ)
      have S0 := hid (fun W => same_zero W)
      clear hb6 HZ D2
      go_wp2_with (first | ((with_reducible refine wp_storeNew rfl 39 (.tmp 10) (.tmp 54) rfl cfZ ?_ ?_ ?_ ?_ ?_ ?_); exact sConfig; rfl; rfl; rfl; rfl) | ((with_reducible refine wp_loadRowG 39 (.tmp 10) rfl X6 ?_ ?_ ?_ ?_); rfl; exact sConfig; rfl))
      refine (S0.out _).mono ?_
      rintro r w7 ⟨rfl, hb7⟩
      have H7 := hid ((H6.out.trans (hq.out.mono H6.out.size)).trans (hb7.mono (by have := H6.out.size; have := hq.out.size; omega)))
      clear hb7 X6 hq H6 S0
      go_wp2
      go_ret
      exact ⟨rfl, H7.out⟩
  · rw [hok] at CK'
    simp only [Bool.false_eq_true, if_false] at CK'
    clear hok
    go_wp2_with fail
    go_region_held3 (fun w' => w'.cell? ⟨w.heap.size, 0, none⟩ = some (.slice A n cap) ∧ w'.cell? ⟨w.heap.size, 1, none⟩ = some (.int .i64 c.times.amber) ∧ w'.cell? ⟨w.heap.size, 2, none⟩ = some (.int .i64 c.times.red) ∧ w'.cell? ⟨w.heap.size, 3, none⟩ = some (.int .i64 c.times.entry) ∧ w'.cell? ⟨w.heap.size, 4, none⟩ = some (.int .i64 c.times.travel) ∧ w'.cell? ⟨w.heap.size, 5, none⟩ = some (.int .i64 c.times.prove) ∧ w'.cell? ⟨w.heap.size, 6, none⟩ = some (.int .i64 c.times.opened) ∧ w'.cell? ⟨w.heap.size, 7, none⟩ = some (.int .i64 c.times.override) ∧ w'.cell? ⟨w.heap.size, 8, none⟩ = some (.int .i64 c.times.fresh) ∧ w'.cell? ⟨w.heap.size, 9, none⟩ = some (.int .i64 c.times.approach) ∧ w'.cell? ⟨w.heap.size, 10, none⟩ = some (.int .i64 c.times.warn))
      (first | exact cfgCells X2.out | exact cfgCells (X2.out.below H4.out X2.out.lt))
      (first | (go_at_call 23; (refine (CK'.out _ (HS.out.below H2.out.drew)).mono ?_; rintro r wz ⟨e4, rfl, he4, hb4⟩; have H4 : Hid (Below w2.heap.size w2 wz) := below_pre hb4; obtain ⟨t4, y4, rfl⟩ := he4.ifaceOf (by omega); clear hb4 he4)))
    have HZ := hid (H2.out.trans (H4.out.mono H2.out.size))
    clear X2 H4 H2 SM' CK' DE
    go_wp2_with fail
    refine (D2.out _ (HB.out.below HZ.out)).mono ?_
    rintro r w6 hp
    rcases hp with ⟨d, A6, cap6, rfl, hok6, henc, hs6, hb6⟩ | ⟨t6, y6, e6, rfl, _, _, hb6⟩
    · rw [cfR_eq]
      have L6 := hid (And.intro hs6 (And.intro hok6 (HZ.out.trans (hb6.mono HZ.out.size))))
      have n6 := ((Cfg.ok_iff d).1 hok6).1.2
      have E6 := hid (fun W (h : Sees W A6 (linesVs d.lines)) => encode_ok d A6 cap6 W h hok6)
      have C6 := hid (fun W (h : Sees W A6 (linesVs d.lines)) => check_any d A6 cap6 W h (by omega))
      unfold Cfg.code at C6
      rw [hok6] at C6
      simp only [if_true] at C6
      rw [henc] at E6
      rw [cfR_eq] at E6 C6
      obtain ⟨xd, hxd⟩ : ∃ x, x = cfR A6 d.lines.length cap6 d.times := ⟨_, rfl⟩
      have XD : Hid (xd.size = 11 ∧ xd.toList.all (fun u => u.oneCell') = true) := ⟨by rw [hxd]; rfl, by rw [hxd]; rfl⟩
      rw [← hxd] at E6 C6 ⊢
      have HB6 := hid (HB.out.below (HZ.out.trans (hb6.mono HZ.out.size)))
      generalize d.lines.length = nd at E6 n6
      clear hs6 hok6 hb6 HZ D2 henc hxd
      have hq : Hid (Below w6.heap.size w6 (w6.alloc (.cells xd 39))) := (Below.refl _ _).alloc (Nat.le_refl _) _
      have X6 := hid (Box.new w6 39 xd)
      go_wp2_with (first | ((with_reducible refine wp_storeNew rfl 39 (.tmp 10) (.tmp 54) rfl xd ?_ ?_ ?_ ?_ ?_ ?_); (rw [XD.out.1]; exact sConfig); (rw [XD.out.1]; rfl); rfl; rfl; exact XD.out.2) | ((with_reducible refine wp_loadRow rfl 39 (.tmp 10) rfl X6 ?_ ?_ ?_); (rw [XD.out.1]; exact sConfig); rfl))
      refine (E6.out _ (L6.out.1.below hq.out)).mono ?_
      rintro r w7 ⟨v7, rfl, h7⟩
      obtain ⟨A7, cap7, hv7, _⟩ := h7.form
      subst hv7
      have X7 := hid (X6.out.below h7.bel X6.out.lt)
      have HB7 := hid ((HB6.out.below hq.out).below h7.bel)
      have Z7 := hid h7.byts
      have S7 := hid ((L6.out.1.below hq.out).below h7.bel)
      have H7 := hid ((L6.out.2.2.trans (hq.out.mono L6.out.2.2.size)).trans (h7.bel.mono (by have := L6.out.2.2.size; have := hq.out.size; omega)))
      clear h7 X6 E6 HB6 hq L6
      go_wp2_with ((with_reducible refine wp_loadRowG 39 (.tmp 10) rfl X7 ?_ ?_ ?_ ?_); rfl; (rw [XD.out.1]; exact sConfig); rfl)
      refine (C6.out _ S7.out).mono ?_
      rintro r w8 ⟨e8, rfl, he8, hb8⟩
      obtain rfl := he8.nilOf
      have cx := conv_byts (Z7.out.below hb8)
      have cy := conv_byts (HB7.out.below hb8)
      have H8 := hid (H7.out.trans (hb8.mono H7.out.size))
      clear he8 hb8 X7 HB7 Z7 S7 H7 C6
      go_wp2
      go_ret
      exact ⟨rfl, H8.out⟩
    · have H6 := hid (HZ.out.trans (hb6.mono HZ.out.size))
      have hq : Hid (Below w6.heap.size w6 (w6.alloc (.cells cfZ 39))) := (Below.refl _ _).alloc (Nat.le_refl _) _
      have X6 := hid (Box.new w6 39 cfZ)
      have S0 := hid (fun W => same_zero W)
      clear hb6 HZ D2
      go_wp2_with (first | ((with_reducible refine wp_storeNew rfl 39 (.tmp 10) (.tmp 54) rfl cfZ ?_ ?_ ?_ ?_ ?_ ?_); exact sConfig; rfl; rfl; rfl; rfl) | ((with_reducible refine wp_loadRowG 39 (.tmp 10) rfl X6 ?_ ?_ ?_ ?_); rfl; exact sConfig; rfl))
      refine (S0.out _).mono ?_
      rintro r w7 ⟨rfl, hb7⟩
      have H7 := hid ((H6.out.trans (hq.out.mono H6.out.size)).trans (hb7.mono (by have := H6.out.size; have := hq.out.size; omega)))
      clear hb7 X6 hq H6 S0
      go_wp2
      go_ret
      exact ⟨rfl, H7.out⟩

theorem configBack_any (c : Cf) (b : List UInt8) (vb : Value) (A : Option Addr) (cap : Nat) (w : World) (hg : ErrTypeAt w) (hs : Sees w A (linesVs c.lines)) (hb : Byts w vb b) :
    Calls Tryd.prog 7 #[cfV A c.lines.length cap c.times, vb] w fun r w' => r = .returned (.bool true) ∧ Below w.heap.size w w' := by
  by_cases h : 20 < (c.lines.length : Int)
  · obtain ⟨Ab, capb, rfl, _⟩ := hb
    exact back_skip _ _ _ _ _ _ _ w hg (.inl (decide_eq_true h))
  · by_cases h' : 500 < (b.length : Int)
    · obtain ⟨Ab, capb, rfl, _⟩ := hb
      exact back_skip _ _ _ _ _ _ _ w hg (.inr ⟨decide_eq_false h, decide_eq_true h'⟩)
    · exact back_main c b vb A cap w hg hs hb (decide_eq_false h) (by omega)
end Go.Proofs.YtlijncmjcecppaaDoor
