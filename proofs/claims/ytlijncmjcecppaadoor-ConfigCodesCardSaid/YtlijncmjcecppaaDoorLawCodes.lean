/- ConfigCodes by contracts. -/
import Derived.Test.YtlijncmjcecppaaDoorLawBack
import Derived.Test.YtlijncmjcecppaaDoorRefMain
namespace Go.Proofs.YtlijncmjcecppaaDoor
open Go.RowKit

theorem refDecode_yes (v : Value) (b : List UInt8) (c : Cf) (w : World) (h : Byts w v b) (hlen : b.length ≤ 10000000000000) (hd : Cfg.dec b = .ok c) :
    Calls Tryd.prog 22 #[v] w fun r w' => ∃ A cap, r = .returned (.tuple #[cfV A c.lines.length cap c.times, .int .i64 0]) ∧ Out w w' 24 5 (.slice A c.lines.length cap) c.lines.length (linesVs c.lines) := by
  unfold Cfg.dec at hd
  split at hd
  · cases hd
  · rename_i x hx
    split at hd
    · rename_i hf
      split at hd
      · rename_i hk
        injection hd with hd
        subst hd
        obtain ⟨d, tl, e1, e2⟩ := form_shape hf
        refine (refDecode_form v b x d tl w h (by omega) hx e1 e2).mono ?_
        intro r w' hp
        unfold RefPost at hp
        rw [if_pos hk] at hp
        exact hp
      · cases hd
    · cases hd
theorem refDecode_no (v : Value) (b : List UInt8) (e : Int) (w : World) (h : Byts w v b) (hlen : b.length ≤ 10000000000000) (hd : Cfg.dec b = .error e) :
    Calls Tryd.prog 22 #[v] w fun r w' => r = .returned (.tuple #[.agg cfZ, .int .i64 e]) ∧ Below w.heap.size w w' := by
  unfold Cfg.dec at hd
  split at hd
  · rename_i hx
    injection hd with hd
    subst hd
    exact refDecode_sum v b w h (by omega) hx
  · rename_i x hx
    split at hd
    · rename_i hf
      split at hd
      · cases hd
      · rename_i hk
        injection hd with hd
        subst hd
        obtain ⟨d, tl, e1, e2⟩ := form_shape hf
        refine (refDecode_form v b x d tl w h (by omega) hx e1 e2).mono ?_
        intro r w' hp
        unfold RefPost at hp
        rw [if_neg hk] at hp
        exact hp
    · rename_i hf
      injection hd with hd
      subst hd
      exact refDecode_bad v b x w h (by omega) hx (by simpa using hf)

/-- What is decoded: a crossing (an empty one where there is none), and the number of the error. -/
def Cfg.decC (b : List UInt8) : Cf := match Cfg.dec b with
  | .ok c => c
  | .error _ => { lines := [], times := tm0 0 }
def Cfg.decE (b : List UInt8) : Int := match Cfg.dec b with
  | .ok _ => 0
  | .error e => e
def Cfg.encU (c : Cf) : List UInt8 := if Cfg.ok c = true then Cfg.enc c else []
theorem Cfg.decC_len (b : List UInt8) : (Cfg.decC b).lines.length ≤ 8 := by
  unfold Cfg.decC
  cases hd : Cfg.dec b with
  | ok c =>
    have := ((Cfg.ok_iff c).1 (Cfg.enc_dec b c hd).1).1.2
    simp only
    omega
  | error e => simp

theorem decode_u (v : Value) (b : List UInt8) (w : World) (h : Byts w v b) (hlen : b.length ≤ 10000000000000) :
    Calls Tryd.prog 21 #[v] w fun r w' => ∃ A cap e, r = .returned (.tuple #[cfV A (Cfg.decC b).lines.length cap (Cfg.decC b).times, e]) ∧ ErrIs w' e (Cfg.decE b) ∧ Sees w' A (linesVs (Cfg.decC b).lines) ∧ Below w.heap.size w w' := by
  unfold Cfg.decC Cfg.decE
  cases hd : Cfg.dec b with
  | ok c =>
    refine (decode_yes v b c w h hlen hd).mono ?_
    rintro r w' ⟨A, cap, rfl, ho⟩
    exact ⟨A, cap, .nilIface, rfl, .inl ⟨rfl, rfl⟩, ho.sees, ho.bel⟩
  | error e =>
    refine (decode_no v b e w h hlen hd).mono ?_
    rintro r w' ⟨x, rfl, hx, hb⟩
    exact ⟨none, 0, x, rfl, hx, Sees.nil _ _, hb⟩
theorem refDecode_u (v : Value) (b : List UInt8) (w : World) (h : Byts w v b) (hlen : b.length ≤ 10000000000000) :
    Calls Tryd.prog 22 #[v] w fun r w' => ∃ A cap, r = .returned (.tuple #[cfV A (Cfg.decC b).lines.length cap (Cfg.decC b).times, .int .i64 (Cfg.decE b)]) ∧ Sees w' A (linesVs (Cfg.decC b).lines) ∧ Below w.heap.size w w' := by
  unfold Cfg.decC Cfg.decE
  cases hd : Cfg.dec b with
  | ok c =>
    refine (refDecode_yes v b c w h hlen hd).mono ?_
    rintro r w' ⟨A, cap, rfl, ho⟩
    exact ⟨A, cap, rfl, ho.sees, ho.bel⟩
  | error e =>
    refine (refDecode_no v b e w h hlen hd).mono ?_
    rintro r w' ⟨rfl, hb⟩
    exact ⟨none, 0, rfl, Sees.nil _ _, hb⟩
theorem encode_u (c : Cf) (A : Option Addr) (cap : Nat) (w : World) (hs : Sees w A (linesVs c.lines)) (hbig : c.lines.length ≤ 1000000000000000) :
    Calls Tryd.prog 19 #[cfV A c.lines.length cap c.times] w fun r w' => ∃ v e, r = .returned (.tuple #[v, e]) ∧ Byts w' v (Cfg.encU c) ∧ ErrIs w' e (Cfg.code c) ∧ Below w.heap.size w w' := by
  unfold Cfg.encU Cfg.code
  cases hok : Cfg.ok c with
  | true =>
    refine (encode_ok c A cap w hs hok).mono ?_
    rintro r w' ⟨v, rfl, ho⟩
    exact ⟨v, .nilIface, rfl, ho.byts, .inl ⟨rfl, rfl⟩, ho.bel⟩
  | false =>
    refine (encode_bad c A cap w hs hbig hok).mono ?_
    rintro r w' ⟨x, rfl, hx, hb⟩
    exact ⟨_, x, rfl, Byts.nil _, hx, hb⟩
theorem refEncode_u (c : Cf) (A : Option Addr) (cap : Nat) (w : World) (hs : Sees w A (linesVs c.lines)) (hbig : c.lines.length ≤ 1000000000000000) :
    Calls Tryd.prog 20 #[cfV A c.lines.length cap c.times] w fun r w' => ∃ v, r = .returned (.tuple #[v, .int .i64 (Cfg.code c)]) ∧ Byts w' v (Cfg.encU c) ∧ Below w.heap.size w w' := by
  unfold Cfg.encU Cfg.code
  cases hok : Cfg.ok c with
  | true =>
    refine (refEncode_ok c A cap w hs hok).mono ?_
    rintro r w' ⟨v, rfl, ho⟩
    exact ⟨v, rfl, ho.byts, ho.bel⟩
  | false =>
    refine (refEncode_bad c A cap w hs hbig hok).mono ?_
    rintro r w' ⟨rfl, hb⟩
    exact ⟨_, rfl, Byts.nil _, hb⟩

set_option maxHeartbeats 1000000 in
theorem codes_skip (A A' : Option Addr) (n m cap cap' : Nat) (t : Tm) (w : World) (hg : ErrTypeAt w) (h : decide (20 < (n : Int)) = true ∨ (decide (20 < (n : Int)) = false ∧ decide (500 < (m : Int)) = true)) :
    Calls Tryd.prog 6 #[cfV A n cap t, .slice A' m cap'] w fun r w' => r = .returned (.bool true) ∧ Below w.heap.size w w' := by
  have HG := hid hg
  have BX := hid (Box.new w 39 (cfR A n cap t))
  have BB := hid ((Below.refl w.heap.size w).alloc (Nat.le_refl _) (.cells (cfR A n cap t) 39))
  clear hg
  rw [cfR_eq]
  rcases h with h | ⟨h, h'⟩
  all_goals
    go_enter Tryd.func6, Tryd.ntmps6
    go_wp2_with fail
    refine (small8_any _ (HG.out.keepTo BB.out)).mono ?_
    rintro r w1 ⟨rfl, hb1⟩
    have hc := cells_cfR (BX.out.below hb1 BX.out.lt)
    have H1 := hid (BB.out.trans (hb1.mono (by simp)))
    clear hb1
    go_wp2
    go_ret
    exact ⟨rfl, H1.out⟩

set_option maxHeartbeats 4000000 in
set_option maxRecDepth 100000 in
theorem codes_main (c : Cf) (b : List UInt8) (vb : Value) (A : Option Addr) (cap : Nat) (w : World) (hg : ErrTypeAt w) (hs : Sees w A (linesVs c.lines)) (hb : Byts w vb b) (h : decide (20 < (c.lines.length : Int)) = false) (h' : b.length ≤ 500) :
    Calls Tryd.prog 6 #[cfV A c.lines.length cap c.times, vb] w fun r w' => r = .returned (.bool true) ∧ Below w.heap.size w w' := by
  have HG := hid hg
  have hn : c.lines.length ≤ 20 := by simp at h; omega
  have E1 := hid (fun W (h : Sees W A (linesVs c.lines)) => encode_u c A cap W h (by omega))
  have F1 := hid (fun W (h : Sees W A (linesVs c.lines)) => refEncode_u c A cap W h (by omega))
  have CK : Hid (∀ W, Sees W A (linesVs c.lines) → Calls Tryd.prog 23 #[.agg #[.slice A c.lines.length cap, .int .i64 c.times.amber, .int .i64 c.times.red, .int .i64 c.times.entry, .int .i64 c.times.travel, .int .i64 c.times.prove, .int .i64 c.times.opened, .int .i64 c.times.override, .int .i64 c.times.fresh, .int .i64 c.times.approach, .int .i64 c.times.warn]] W fun r w' => ∃ x, r = .returned x ∧ ErrIs w' x (Cfg.code c) ∧ Below W.heap.size W w') := fun W h => check_any c A cap W h (by omega)
  have RK : Hid (∀ W, Sees W A (linesVs c.lines) → Calls Tryd.prog 24 #[.agg #[.slice A c.lines.length cap, .int .i64 c.times.amber, .int .i64 c.times.red, .int .i64 c.times.entry, .int .i64 c.times.travel, .int .i64 c.times.prove, .int .i64 c.times.opened, .int .i64 c.times.override, .int .i64 c.times.fresh, .int .i64 c.times.approach, .int .i64 c.times.warn]] W fun r w' => r = .returned (.int .i64 (Cfg.code c)) ∧ Below W.heap.size W w') := fun W h => refCheck_any c A cap W h (by omega)
  have D1 := hid (fun W (h : Byts W vb b) => decode_u vb b W h (by omega))
  have D2 := hid (fun W (h : Byts W vb b) => refDecode_u vb b W h (by omega))
  have hdl := Cfg.decC_len b
  have SM : Hid (∀ W Ap Aq capp capq, Sees W Ap (linesVs (Cfg.decC b).lines) → Sees W Aq (linesVs (Cfg.decC b).lines) → Calls Tryd.prog 25 #[.agg #[.slice Ap (Cfg.decC b).lines.length capp, .int .i64 (Cfg.decC b).times.amber, .int .i64 (Cfg.decC b).times.red, .int .i64 (Cfg.decC b).times.entry, .int .i64 (Cfg.decC b).times.travel, .int .i64 (Cfg.decC b).times.prove, .int .i64 (Cfg.decC b).times.opened, .int .i64 (Cfg.decC b).times.override, .int .i64 (Cfg.decC b).times.fresh, .int .i64 (Cfg.decC b).times.approach, .int .i64 (Cfg.decC b).times.warn], .agg #[.slice Aq (Cfg.decC b).lines.length capq, .int .i64 (Cfg.decC b).times.amber, .int .i64 (Cfg.decC b).times.red, .int .i64 (Cfg.decC b).times.entry, .int .i64 (Cfg.decC b).times.travel, .int .i64 (Cfg.decC b).times.prove, .int .i64 (Cfg.decC b).times.opened, .int .i64 (Cfg.decC b).times.override, .int .i64 (Cfg.decC b).times.fresh, .int .i64 (Cfg.decC b).times.approach, .int .i64 (Cfg.decC b).times.warn]] W fun r w' => r = .returned (.bool true) ∧ Below W.heap.size W w') := fun W Ap Aq capp capq h1 h2 => by
    have := same_any (Cfg.decC b) (Cfg.decC b) Ap Aq capp capq W h1 h2 (by omega)
    rw [decide_eq_true rfl] at this
    exact this
  have CD := hid (fun W v e (hg : ErrTypeAt W) (he : ErrIs W v e) => code_any v e W hg he)
  have HS := hid hs
  have HB := hid hb
  obtain ⟨Ab, capb, rfl, _⟩ := hb
  have BX := hid (Box.new w 39 (cfR A c.lines.length cap c.times))
  have BB := hid ((Below.refl w.heap.size w).alloc (Nat.le_refl _) (.cells (cfR A c.lines.length cap c.times) 39))
  have h500 : decide (500 < (b.length : Int)) = false := by simp; omega
  have HBL := hid h'
  clear hg hs h'
  rw [cfR_eq] at E1 F1
  simp only [cfR_eq] at D1 D2
  rw [cfR_eq]
  generalize Cfg.encU c = X at E1 F1
  generalize Cfg.code c = k1 at E1 F1 CK RK
  generalize Cfg.decE b = k2 at D1 D2
  generalize Cfg.decC b = d at D1 D2 SM hdl
  generalize hndd : d.lines.length = nd at D1 D2 SM hdl
  obtain ⟨n, hnn⟩ : ∃ n, n = c.lines.length := ⟨_, rfl⟩
  rw [← hnn] at E1 F1 CK RK BX BB h hn ⊢
  clear hnn hndd
  generalize hbl : b.length = m at *
  clear hbl
  go_enter Tryd.func6, Tryd.ntmps6
  go_wp2_with fail
  refine (small8_any _ (HG.out.keepTo BB.out)).mono ?_
  rintro r w1 ⟨rfl, hb1⟩
  have X1 := hid (BX.out.below hb1 BX.out.lt)
  have hc := cells_cfR X1.out
  have H1 := hid (BB.out.trans (hb1.mono (by simp)))
  clear hb1 BX BB
  go_wp2_with ((with_reducible refine wp_loadRow rfl 39 (.tmp 2) rfl X1 ?_ ?_ ?_); exact sConfig; rfl)
  clear hc
  refine (E1.out _ (HS.out.below H1.out)).mono ?_
  rintro r w2 ⟨v6, e7, rfl, hby, her, hb2⟩
  have X2 := hid (X1.out.below hb2 X1.out.lt)
  have H2 := hid (H1.out.trans (hb2.mono H1.out.size))
  have K2 := hid (And.intro hby her)
  clear hb2 X1 H1 E1 hby her
  go_wp2_with ((with_reducible refine wp_loadRow rfl 39 (.tmp 2) rfl X2 ?_ ?_ ?_); exact sConfig; rfl)
  refine (F1.out _ (HS.out.below H2.out)).mono ?_
  rintro r w3 ⟨v8, rfl, hby, hb3⟩
  have X3 := hid (X2.out.below hb3 X2.out.lt)
  have H3 := hid (H2.out.trans (hb3.mono H2.out.size))
  have K3 := hid (And.intro (K2.out.1.below hb3) (And.intro (K2.out.2.below hb3) hby))
  clear hb3 X2 H2 F1 hby K2
  go_wp2_with fail
  refine (D1.out _ (HB.out.below H3.out)).mono ?_
  rintro r w4 ⟨Ap, capp, e11, rfl, her, hse, hb4⟩
  have hq4 : Below w4.heap.size w4 (w4.alloc (.cells (cfR Ap nd capp d.times) 39)) := (Below.refl _ _).alloc (Nat.le_refl _) _
  have hq := hb4.trans (hq4.mono hb4.size)
  have X4 := hid (X3.out.below hq X3.out.lt)
  have Y4 := hid (Box.new w4 39 (cfR Ap nd capp d.times))
  have H4 := hid (H3.out.trans (hq.mono H3.out.size))
  have K4 := hid (And.intro (K3.out.1.below hq) (And.intro (K3.out.2.1.below hq) (And.intro (K3.out.2.2.below hq) (And.intro (her.below hq4) (hse.below hq4)))))
  clear hb4 hq hq4 X3 H3 K3 her hse D1
  go_wp2_with ((with_reducible refine wp_storeNew rfl 39 (.tmp 10) (.tmp 38) rfl (cfR Ap nd capp d.times) ?_ ?_ ?_ ?_ ?_ ?_); exact sConfig; rfl; rfl; rfl; rfl)
  refine (D2.out _ (HB.out.below H4.out)).mono ?_
  rintro r w5 ⟨Aq, capq, rfl, hse, hb5⟩
  have hq5 : Below w5.heap.size w5 (w5.alloc (.cells (cfR Aq nd capq d.times) 39)) := (Below.refl _ _).alloc (Nat.le_refl _) _
  have hq := hb5.trans (hq5.mono hb5.size)
  have X5 := hid (X4.out.below hq X4.out.lt)
  have Y5 := hid (Y4.out.below hq Y4.out.lt)
  have Z5 := hid (Box.new w5 39 (cfR Aq nd capq d.times))
  have H5 := hid (H4.out.trans (hq.mono H4.out.size))
  have K5 := hid (And.intro (K4.out.1.below hq) (And.intro (K4.out.2.1.below hq) (And.intro (K4.out.2.2.1.below hq) (And.intro (K4.out.2.2.2.1.below hq) (And.intro (K4.out.2.2.2.2.below hq) (hse.below hq5))))))
  clear hb5 hq hq5 X4 Y4 H4 K4 hse D2
  go_wp2_with ((with_reducible refine wp_storeNew rfl 39 (.tmp 12) (.tmp 43) rfl (cfR Aq nd capq d.times) ?_ ?_ ?_ ?_ ?_ ?_); exact sConfig; rfl; rfl; rfl; rfl)
  obtain ⟨W, hW⟩ : ∃ W, W = w5.alloc (.cells (cfR Aq nd capq d.times) 39) := ⟨_, rfl⟩
  obtain ⟨gp, hgp⟩ : ∃ g, g = w4.heap.size := ⟨_, rfl⟩
  obtain ⟨gq, hgq⟩ : ∃ g, g = w5.heap.size := ⟨_, rfl⟩
  rw [← hW] at X5 Y5 Z5 H5 K5 ⊢
  rw [← hgp] at Y5
  rw [← hgq] at Z5
  simp only [← hgp, ← hgq]
  clear hW hgp hgq
  have SF : Hid (∀ W', Below W.heap.size W W' → (fun w' => ((w'.cell? ⟨w.heap.size, 0, none⟩ = some (.slice A n cap) ∧ w'.cell? ⟨w.heap.size, 1, none⟩ = some (.int .i64 c.times.amber) ∧ w'.cell? ⟨w.heap.size, 2, none⟩ = some (.int .i64 c.times.red) ∧ w'.cell? ⟨w.heap.size, 3, none⟩ = some (.int .i64 c.times.entry) ∧ w'.cell? ⟨w.heap.size, 4, none⟩ = some (.int .i64 c.times.travel) ∧ w'.cell? ⟨w.heap.size, 5, none⟩ = some (.int .i64 c.times.prove) ∧ w'.cell? ⟨w.heap.size, 6, none⟩ = some (.int .i64 c.times.opened) ∧ w'.cell? ⟨w.heap.size, 7, none⟩ = some (.int .i64 c.times.override) ∧ w'.cell? ⟨w.heap.size, 8, none⟩ = some (.int .i64 c.times.fresh) ∧ w'.cell? ⟨w.heap.size, 9, none⟩ = some (.int .i64 c.times.approach) ∧ w'.cell? ⟨w.heap.size, 10, none⟩ = some (.int .i64 c.times.warn)) ∧ (w'.cell? ⟨gp, 0, none⟩ = some (.slice Ap nd capp) ∧ w'.cell? ⟨gp, 1, none⟩ = some (.int .i64 d.times.amber) ∧ w'.cell? ⟨gp, 2, none⟩ = some (.int .i64 d.times.red) ∧ w'.cell? ⟨gp, 3, none⟩ = some (.int .i64 d.times.entry) ∧ w'.cell? ⟨gp, 4, none⟩ = some (.int .i64 d.times.travel) ∧ w'.cell? ⟨gp, 5, none⟩ = some (.int .i64 d.times.prove) ∧ w'.cell? ⟨gp, 6, none⟩ = some (.int .i64 d.times.opened) ∧ w'.cell? ⟨gp, 7, none⟩ = some (.int .i64 d.times.override) ∧ w'.cell? ⟨gp, 8, none⟩ = some (.int .i64 d.times.fresh) ∧ w'.cell? ⟨gp, 9, none⟩ = some (.int .i64 d.times.approach) ∧ w'.cell? ⟨gp, 10, none⟩ = some (.int .i64 d.times.warn)) ∧ (w'.cell? ⟨gq, 0, none⟩ = some (.slice Aq nd capq) ∧ w'.cell? ⟨gq, 1, none⟩ = some (.int .i64 d.times.amber) ∧ w'.cell? ⟨gq, 2, none⟩ = some (.int .i64 d.times.red) ∧ w'.cell? ⟨gq, 3, none⟩ = some (.int .i64 d.times.entry) ∧ w'.cell? ⟨gq, 4, none⟩ = some (.int .i64 d.times.travel) ∧ w'.cell? ⟨gq, 5, none⟩ = some (.int .i64 d.times.prove) ∧ w'.cell? ⟨gq, 6, none⟩ = some (.int .i64 d.times.opened) ∧ w'.cell? ⟨gq, 7, none⟩ = some (.int .i64 d.times.override) ∧ w'.cell? ⟨gq, 8, none⟩ = some (.int .i64 d.times.fresh) ∧ w'.cell? ⟨gq, 9, none⟩ = some (.int .i64 d.times.approach) ∧ w'.cell? ⟨gq, 10, none⟩ = some (.int .i64 d.times.warn))) ∧ (convert 42 9 v6).run Tryd.prog w' = .ok (.string (bsOf X)) w' ∧ (convert 42 9 v8).run Tryd.prog w' = .ok (.string (bsOf X)) w') W') := fun W' h => ⟨⟨cfgCells (X5.out.below h X5.out.lt), cfgCells (Y5.out.below h Y5.out.lt), cfgCells (Z5.out.below h Z5.out.lt)⟩, conv_byts (K5.out.1.below h), conv_byts (K5.out.2.2.1.below h)⟩
  have FG : Hid (∀ W', Below W.heap.size W W' → ErrTypeAt W' ∧ Sees W' A (linesVs c.lines) ∧ ErrIs W' e7 k1 ∧ ErrIs W' e11 k2 ∧ Sees W' Ap (linesVs d.lines) ∧ Sees W' Aq (linesVs d.lines)) := fun W' h => ⟨(HG.out.keepTo H5.out).below h, (HS.out.below H5.out).below h, K5.out.2.1.below h, K5.out.2.2.2.1.below h, K5.out.2.2.2.2.1.below h, K5.out.2.2.2.2.2.below h⟩
  have H4 : Hid (Below W.heap.size W W.drew) := (Below.refl _ _).drew
  clear X5 Y5 Z5 K5 HG HS HB HBL h500 hn hdl h
  go_upto_region 8 with (fail)
  go_region_held3 (fun w' => ((w'.cell? ⟨w.heap.size, 0, none⟩ = some (.slice A n cap) ∧ w'.cell? ⟨w.heap.size, 1, none⟩ = some (.int .i64 c.times.amber) ∧ w'.cell? ⟨w.heap.size, 2, none⟩ = some (.int .i64 c.times.red) ∧ w'.cell? ⟨w.heap.size, 3, none⟩ = some (.int .i64 c.times.entry) ∧ w'.cell? ⟨w.heap.size, 4, none⟩ = some (.int .i64 c.times.travel) ∧ w'.cell? ⟨w.heap.size, 5, none⟩ = some (.int .i64 c.times.prove) ∧ w'.cell? ⟨w.heap.size, 6, none⟩ = some (.int .i64 c.times.opened) ∧ w'.cell? ⟨w.heap.size, 7, none⟩ = some (.int .i64 c.times.override) ∧ w'.cell? ⟨w.heap.size, 8, none⟩ = some (.int .i64 c.times.fresh) ∧ w'.cell? ⟨w.heap.size, 9, none⟩ = some (.int .i64 c.times.approach) ∧ w'.cell? ⟨w.heap.size, 10, none⟩ = some (.int .i64 c.times.warn)) ∧ (w'.cell? ⟨gp, 0, none⟩ = some (.slice Ap nd capp) ∧ w'.cell? ⟨gp, 1, none⟩ = some (.int .i64 d.times.amber) ∧ w'.cell? ⟨gp, 2, none⟩ = some (.int .i64 d.times.red) ∧ w'.cell? ⟨gp, 3, none⟩ = some (.int .i64 d.times.entry) ∧ w'.cell? ⟨gp, 4, none⟩ = some (.int .i64 d.times.travel) ∧ w'.cell? ⟨gp, 5, none⟩ = some (.int .i64 d.times.prove) ∧ w'.cell? ⟨gp, 6, none⟩ = some (.int .i64 d.times.opened) ∧ w'.cell? ⟨gp, 7, none⟩ = some (.int .i64 d.times.override) ∧ w'.cell? ⟨gp, 8, none⟩ = some (.int .i64 d.times.fresh) ∧ w'.cell? ⟨gp, 9, none⟩ = some (.int .i64 d.times.approach) ∧ w'.cell? ⟨gp, 10, none⟩ = some (.int .i64 d.times.warn)) ∧ (w'.cell? ⟨gq, 0, none⟩ = some (.slice Aq nd capq) ∧ w'.cell? ⟨gq, 1, none⟩ = some (.int .i64 d.times.amber) ∧ w'.cell? ⟨gq, 2, none⟩ = some (.int .i64 d.times.red) ∧ w'.cell? ⟨gq, 3, none⟩ = some (.int .i64 d.times.entry) ∧ w'.cell? ⟨gq, 4, none⟩ = some (.int .i64 d.times.travel) ∧ w'.cell? ⟨gq, 5, none⟩ = some (.int .i64 d.times.prove) ∧ w'.cell? ⟨gq, 6, none⟩ = some (.int .i64 d.times.opened) ∧ w'.cell? ⟨gq, 7, none⟩ = some (.int .i64 d.times.override) ∧ w'.cell? ⟨gq, 8, none⟩ = some (.int .i64 d.times.fresh) ∧ w'.cell? ⟨gq, 9, none⟩ = some (.int .i64 d.times.approach) ∧ w'.cell? ⟨gq, 10, none⟩ = some (.int .i64 d.times.warn))) ∧ (convert 42 9 v6).run Tryd.prog w' = .ok (.string (bsOf X)) w' ∧ (convert 42 9 v8).run Tryd.prog w' = .ok (.string (bsOf X)) w')
      (exact SF.out _ H4.out)
      (first | (go_at_call 23; (have hcall := CK.out _ (FG.out _ H4.out).2.1; with_reducible refine hcall.mono ?_; clear hcall; rintro r wa ⟨e4, rfl, he4, hba⟩; replace H4 := hid (H4.out.trans (hba.mono H4.out.size)); have HE4 := hid he4; clear he4 hba)) | (go_at_call 24; (have hcall := RK.out _ (FG.out _ H4.out).2.1; with_reducible refine hcall.mono ?_; clear hcall; rintro r wa ⟨rfl, hba⟩; replace H4 := hid (H4.out.trans (hba.mono H4.out.size)); clear hba)) | (go_at_call 16; (have hcall := CD.out _ e7 k1 (FG.out _ H4.out).1 (FG.out _ H4.out).2.2.1; with_reducible refine hcall.mono ?_; clear hcall; rintro r wa ⟨rfl, hba⟩; replace H4 := hid (H4.out.trans (hba.mono H4.out.size)); clear hba)) | (go_at_call 16; (have hcall := CD.out _ e11 k2 (FG.out _ H4.out).1 (FG.out _ H4.out).2.2.2.1; with_reducible refine hcall.mono ?_; clear hcall; rintro r wa ⟨rfl, hba⟩; replace H4 := hid (H4.out.trans (hba.mono H4.out.size)); clear hba)) | (go_at_call 16; (have hcall := CD.out _ e4 k1 (FG.out _ H4.out).1 HE4.out; with_reducible refine hcall.mono ?_; clear hcall; rintro r wa ⟨rfl, hba⟩; replace H4 := hid (H4.out.trans (hba.mono H4.out.size)); clear hba)) | (go_at_call 25; (have hcall := SM.out _ Ap Aq capp capq (FG.out _ H4.out).2.2.2.2.1 (FG.out _ H4.out).2.2.2.2.2; with_reducible refine hcall.mono ?_; clear hcall; rintro r wa ⟨rfl, hba⟩; replace H4 := hid (H4.out.trans (hba.mono H4.out.size)); clear hba)) | fail)
  go_wp2
  go_ret
  exact ⟨rfl, H5.out.trans (H4.out.mono H5.out.size)⟩

theorem configCodes_any (c : Cf) (b : List UInt8) (vb : Value) (A : Option Addr) (cap : Nat) (w : World) (hg : ErrTypeAt w) (hs : Sees w A (linesVs c.lines)) (hb : Byts w vb b) :
    Calls Tryd.prog 6 #[cfV A c.lines.length cap c.times, vb] w fun r w' => r = .returned (.bool true) ∧ Below w.heap.size w w' := by
  by_cases h : 20 < (c.lines.length : Int)
  · obtain ⟨Ab, capb, rfl, _⟩ := hb
    exact codes_skip _ _ _ _ _ _ _ w hg (.inl (decide_eq_true h))
  · by_cases h' : 500 < (b.length : Int)
    · obtain ⟨Ab, capb, rfl, _⟩ := hb
      exact codes_skip _ _ _ _ _ _ _ w hg (.inr ⟨decide_eq_false h, decide_eq_true h'⟩)
    · exact codes_main c b vb A cap w hg hs hb (decide_eq_false h) (by omega)
end Go.Proofs.YtlijncmjcecppaaDoor
