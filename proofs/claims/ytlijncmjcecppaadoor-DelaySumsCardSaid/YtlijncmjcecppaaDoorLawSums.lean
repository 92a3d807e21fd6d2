/- DelaySums by contracts. -/
import Derived.Test.YtlijncmjcecppaaDoorSmall9
import Derived.Deep.Cut
namespace Go.Proofs.YtlijncmjcecppaaDoor
open Go.RowKit

set_option maxRecDepth 100000 in
set_option maxHeartbeats 4000000 in
theorem sums_00 (a b : Int) (w : World) (hg : ErrTypeAt w)
    (h1 : ∀ W, Calls Tryd.prog 14 #[.int .i64 a, .int .i64 b] W (RetIE W 0 6)) (h2 : ∀ W, Calls Tryd.prog 15 #[.int .i64 a, .int .i64 b] W (RetIE W 0 6))
    (h3 : ∀ W, Calls Tryd.prog 14 #[.int .i64 b, .int .i64 a] W (RetIE W 0 6)) (h4 : ∀ W, Calls Tryd.prog 15 #[.int .i64 b, .int .i64 a] W (RetIE W 0 6))
    (g1 : decide (0 < a) = true) (g2 : decide (0 < b) = true)
    (q3 : (a != 0) = true) (q4 : (b != 0) = true) :
    Calls Tryd.prog 4 #[.int .i64 a, .int .i64 b] w fun r w' => r = .returned (.bool true) ∧ Below w.heap.size w w' := by
  have G := hid hg
  clear hg
  have H1 := hid h1
  have H2 := hid h2
  have H3 := hid h3
  have H4 := hid h4
  clear h1 h2 h3 h4
  go_enter Tryd.func4, Tryd.ntmps4
  go_wp2_with fail
  refine (small9_any _ G.out).mono ?_
  rintro r wa ⟨rfl, hba⟩
  have BA := hid hba
  clear hba
  go_wp2_with fail
  refine (H1.out _).mono ?_
  rintro r wb ⟨xb, rfl, hb, hbb⟩
  have BB := hid (BA.out.trans (hbb.mono BA.out.size))
  have XB := hid hb
  clear hbb hb BA
  go_wp2_with fail
  refine (H2.out _).mono ?_
  rintro r wc ⟨xc, rfl, hc, hbc⟩
  have BC := hid (BB.out.trans (hbc.mono BB.out.size))
  have XB2 := hid (XB.out.below hbc)
  have XC := hid hc
  clear hbc hc BB XB
  go_wp2_with fail
  refine (H3.out _).mono ?_
  rintro r wd ⟨xd, rfl, hd, hbd⟩
  have BD := hid (BC.out.trans (hbd.mono BC.out.size))
  have XB := hid (XB2.out.below hbd)
  have XC2 := hid (XC.out.below hbd)
  have XD := hid hd
  clear hbd hd BC XB2 XC
  go_wp2_with fail
  refine (H4.out _).mono ?_
  rintro r we ⟨xe, rfl, he, hbe⟩
  have BE := hid (BD.out.trans (hbe.mono BD.out.size))
  have XB2 := hid (XB.out.below hbe)
  have XC := hid (XC2.out.below hbe)
  have XD2 := hid (XD.out.below hbe)
  have XE := hid he
  clear hbe he BD XB XC2 XD H1 H2 H3 H4
  go_wp2_with fail
  refine (code_any _ _ _ (G.out.keepTo BE.out) XB2.out).mono ?_
  rintro r wf ⟨rfl, hbf⟩
  have BF := hid (BE.out.trans (hbf.mono BE.out.size))
  have XB := hid (XB2.out.below hbf)
  have XC2 := hid (XC.out.below hbf)
  have XD := hid (XD2.out.below hbf)
  have XE2 := hid (XE.out.below hbf)
  clear hbf BE XB2 XC XD2 XE
  go_wp2_with fail
  refine (code_any _ _ _ (G.out.keepTo BF.out) XD.out).mono ?_
  rintro r wg ⟨rfl, hbf⟩
  have BE := hid (BF.out.trans (hbf.mono BF.out.size))
  have XB2 := hid (XB.out.below hbf)
  have XC := hid (XC2.out.below hbf)
  have XE := hid (XE2.out.below hbf)
  clear hbf BF XB XC2 XD XE2
  go_wp2_with fail
  refine (code_any _ _ _ (G.out.keepTo BE.out) XC.out).mono ?_
  rintro r wh ⟨rfl, hbf⟩
  have BF := hid (BE.out.trans (hbf.mono BE.out.size))
  have XB := hid (XB2.out.below hbf)
  have XC2 := hid (XC.out.below hbf)
  have XE2 := hid (XE.out.below hbf)
  clear hbf BE XB2 XC XE
  go_wp2_with fail
  refine (code_any _ _ _ (G.out.keepTo BF.out) XE2.out).mono ?_
  rintro r wi ⟨rfl, hbf⟩
  have BE := hid (BF.out.trans (hbf.mono BF.out.size))
  have XB2 := hid (XB.out.below hbf)
  have XC := hid (XC2.out.below hbf)
  clear hbf BF XB XC2 XE2 G
  first | obtain rfl := XB2.out.nilOf | obtain ⟨t1, y1, rfl⟩ := XB2.out.ifaceOf (by omega)
  first | obtain rfl := XC.out.nilOf | obtain ⟨t2, y2, rfl⟩ := XC.out.ifaceOf (by omega)
  clear XB2 XC
  dsimp only
  go_upto_region 8 with (fail)
  simp only [List.append]
  go_wp2
  go_ret
  exact ⟨rfl, BE.out⟩
set_option maxRecDepth 100000 in
set_option maxHeartbeats 4000000 in
theorem sums_01 (a b : Int) (w : World) (hg : ErrTypeAt w)
    (h1 : ∀ W, Calls Tryd.prog 14 #[.int .i64 a, .int .i64 b] W (RetIE W 0 6)) (h2 : ∀ W, Calls Tryd.prog 15 #[.int .i64 a, .int .i64 b] W (RetIE W 0 0))
    (h3 : ∀ W, Calls Tryd.prog 14 #[.int .i64 b, .int .i64 a] W (RetIE W 0 6)) (h4 : ∀ W, Calls Tryd.prog 15 #[.int .i64 b, .int .i64 a] W (RetIE W 0 0))
    (g1 : decide (0 < a) = true) (g2 : decide (0 < b) = true)
    (q1 : (a == 0) = true) :
    Calls Tryd.prog 4 #[.int .i64 a, .int .i64 b] w fun r w' => r = .returned (.bool true) ∧ Below w.heap.size w w' := by
  have G := hid hg
  clear hg
  have H1 := hid h1
  have H2 := hid h2
  have H3 := hid h3
  have H4 := hid h4
  clear h1 h2 h3 h4
  go_enter Tryd.func4, Tryd.ntmps4
  go_wp2_with fail
  refine (small9_any _ G.out).mono ?_
  rintro r wa ⟨rfl, hba⟩
  have BA := hid hba
  clear hba
  go_wp2_with fail
  refine (H1.out _).mono ?_
  rintro r wb ⟨xb, rfl, hb, hbb⟩
  have BB := hid (BA.out.trans (hbb.mono BA.out.size))
  have XB := hid hb
  clear hbb hb BA
  go_wp2_with fail
  refine (H2.out _).mono ?_
  rintro r wc ⟨xc, rfl, hc, hbc⟩
  have BC := hid (BB.out.trans (hbc.mono BB.out.size))
  have XB2 := hid (XB.out.below hbc)
  have XC := hid hc
  clear hbc hc BB XB
  go_wp2_with fail
  refine (H3.out _).mono ?_
  rintro r wd ⟨xd, rfl, hd, hbd⟩
  have BD := hid (BC.out.trans (hbd.mono BC.out.size))
  have XB := hid (XB2.out.below hbd)
  have XC2 := hid (XC.out.below hbd)
  have XD := hid hd
  clear hbd hd BC XB2 XC
  go_wp2_with fail
  refine (H4.out _).mono ?_
  rintro r we ⟨xe, rfl, he, hbe⟩
  have BE := hid (BD.out.trans (hbe.mono BD.out.size))
  have XB2 := hid (XB.out.below hbe)
  have XC := hid (XC2.out.below hbe)
  have XD2 := hid (XD.out.below hbe)
  have XE := hid he
  clear hbe he BD XB XC2 XD H1 H2 H3 H4
  go_wp2_with fail
  refine (code_any _ _ _ (G.out.keepTo BE.out) XB2.out).mono ?_
  rintro r wf ⟨rfl, hbf⟩
  have BF := hid (BE.out.trans (hbf.mono BE.out.size))
  have XB := hid (XB2.out.below hbf)
  have XC2 := hid (XC.out.below hbf)
  have XD := hid (XD2.out.below hbf)
  have XE2 := hid (XE.out.below hbf)
  clear hbf BE XB2 XC XD2 XE
  go_wp2_with fail
  refine (code_any _ _ _ (G.out.keepTo BF.out) XD.out).mono ?_
  rintro r wg ⟨rfl, hbf⟩
  have BE := hid (BF.out.trans (hbf.mono BF.out.size))
  have XB2 := hid (XB.out.below hbf)
  have XC := hid (XC2.out.below hbf)
  have XE := hid (XE2.out.below hbf)
  clear hbf BF XB XC2 XD XE2
  go_wp2_with fail
  refine (code_any _ _ _ (G.out.keepTo BE.out) XC.out).mono ?_
  rintro r wh ⟨rfl, hbf⟩
  have BF := hid (BE.out.trans (hbf.mono BE.out.size))
  have XB := hid (XB2.out.below hbf)
  have XC2 := hid (XC.out.below hbf)
  have XE2 := hid (XE.out.below hbf)
  clear hbf BE XB2 XC XE
  go_wp2_with fail
  refine (code_any _ _ _ (G.out.keepTo BF.out) XE2.out).mono ?_
  rintro r wi ⟨rfl, hbf⟩
  have BE := hid (BF.out.trans (hbf.mono BF.out.size))
  have XB2 := hid (XB.out.below hbf)
  have XC := hid (XC2.out.below hbf)
  clear hbf BF XB XC2 XE2 G
  first | obtain rfl := XB2.out.nilOf | obtain ⟨t1, y1, rfl⟩ := XB2.out.ifaceOf (by omega)
  first | obtain rfl := XC.out.nilOf | obtain ⟨t2, y2, rfl⟩ := XC.out.ifaceOf (by omega)
  clear XB2 XC
  dsimp only
  go_upto_region 8 with (fail)
  simp only [List.append]
  go_wp2
  go_ret
  exact ⟨rfl, BE.out⟩
set_option maxRecDepth 100000 in
set_option maxHeartbeats 4000000 in
theorem sums_02 (a b p : Int) (w : World) (hg : ErrTypeAt w)
    (h1 : ∀ W, Calls Tryd.prog 14 #[.int .i64 a, .int .i64 b] W (RetIE W 0 6)) (h2 : ∀ W, Calls Tryd.prog 15 #[.int .i64 a, .int .i64 b] W (RetIE W p 0))
    (h3 : ∀ W, Calls Tryd.prog 14 #[.int .i64 b, .int .i64 a] W (RetIE W 0 6)) (h4 : ∀ W, Calls Tryd.prog 15 #[.int .i64 b, .int .i64 a] W (RetIE W p 0))
    (g1 : decide (0 < a) = true) (g2 : decide (0 < b) = true)
    (q0 : ¬ a = 0) (q1 : (a == 0) = false) (q2 : (wrap64 (p.tdiv a) == b) = true) (q3 : (p.tmod a == 0) = true) (q4 : (a != 0) = true) :
    Calls Tryd.prog 4 #[.int .i64 a, .int .i64 b] w fun r w' => r = .returned (.bool true) ∧ Below w.heap.size w w' := by
  have G := hid hg
  clear hg
  have H1 := hid h1
  have H2 := hid h2
  have H3 := hid h3
  have H4 := hid h4
  clear h1 h2 h3 h4
  go_enter Tryd.func4, Tryd.ntmps4
  go_wp2_with fail
  refine (small9_any _ G.out).mono ?_
  rintro r wa ⟨rfl, hba⟩
  have BA := hid hba
  clear hba
  go_wp2_with fail
  refine (H1.out _).mono ?_
  rintro r wb ⟨xb, rfl, hb, hbb⟩
  have BB := hid (BA.out.trans (hbb.mono BA.out.size))
  have XB := hid hb
  clear hbb hb BA
  go_wp2_with fail
  refine (H2.out _).mono ?_
  rintro r wc ⟨xc, rfl, hc, hbc⟩
  have BC := hid (BB.out.trans (hbc.mono BB.out.size))
  have XB2 := hid (XB.out.below hbc)
  have XC := hid hc
  clear hbc hc BB XB
  go_wp2_with fail
  refine (H3.out _).mono ?_
  rintro r wd ⟨xd, rfl, hd, hbd⟩
  have BD := hid (BC.out.trans (hbd.mono BC.out.size))
  have XB := hid (XB2.out.below hbd)
  have XC2 := hid (XC.out.below hbd)
  have XD := hid hd
  clear hbd hd BC XB2 XC
  go_wp2_with fail
  refine (H4.out _).mono ?_
  rintro r we ⟨xe, rfl, he, hbe⟩
  have BE := hid (BD.out.trans (hbe.mono BD.out.size))
  have XB2 := hid (XB.out.below hbe)
  have XC := hid (XC2.out.below hbe)
  have XD2 := hid (XD.out.below hbe)
  have XE := hid he
  clear hbe he BD XB XC2 XD H1 H2 H3 H4
  go_wp2_with fail
  refine (code_any _ _ _ (G.out.keepTo BE.out) XB2.out).mono ?_
  rintro r wf ⟨rfl, hbf⟩
  have BF := hid (BE.out.trans (hbf.mono BE.out.size))
  have XB := hid (XB2.out.below hbf)
  have XC2 := hid (XC.out.below hbf)
  have XD := hid (XD2.out.below hbf)
  have XE2 := hid (XE.out.below hbf)
  clear hbf BE XB2 XC XD2 XE
  go_wp2_with fail
  refine (code_any _ _ _ (G.out.keepTo BF.out) XD.out).mono ?_
  rintro r wg ⟨rfl, hbf⟩
  have BE := hid (BF.out.trans (hbf.mono BF.out.size))
  have XB2 := hid (XB.out.below hbf)
  have XC := hid (XC2.out.below hbf)
  have XE := hid (XE2.out.below hbf)
  clear hbf BF XB XC2 XD XE2
  go_wp2_with fail
  refine (code_any _ _ _ (G.out.keepTo BE.out) XC.out).mono ?_
  rintro r wh ⟨rfl, hbf⟩
  have BF := hid (BE.out.trans (hbf.mono BE.out.size))
  have XB := hid (XB2.out.below hbf)
  have XC2 := hid (XC.out.below hbf)
  have XE2 := hid (XE.out.below hbf)
  clear hbf BE XB2 XC XE
  go_wp2_with fail
  refine (code_any _ _ _ (G.out.keepTo BF.out) XE2.out).mono ?_
  rintro r wi ⟨rfl, hbf⟩
  have BE := hid (BF.out.trans (hbf.mono BF.out.size))
  have XB2 := hid (XB.out.below hbf)
  have XC := hid (XC2.out.below hbf)
  clear hbf BF XB XC2 XE2 G
  first | obtain rfl := XB2.out.nilOf | obtain ⟨t1, y1, rfl⟩ := XB2.out.ifaceOf (by omega)
  first | obtain rfl := XC.out.nilOf | obtain ⟨t2, y2, rfl⟩ := XC.out.ifaceOf (by omega)
  clear XB2 XC
  dsimp only
  go_upto_region 8 with (fail)
  simp only [List.append]
  go_wp2
  go_ret
  exact ⟨rfl, BE.out⟩
set_option maxRecDepth 100000 in
set_option maxHeartbeats 4000000 in
theorem sums_10 (a b : Int) (w : World) (hg : ErrTypeAt w)
    (h1 : ∀ W, Calls Tryd.prog 14 #[.int .i64 a, .int .i64 b] W (RetIE W 0 6)) (h2 : ∀ W, Calls Tryd.prog 15 #[.int .i64 a, .int .i64 b] W (RetIE W 0 6))
    (h3 : ∀ W, Calls Tryd.prog 14 #[.int .i64 b, .int .i64 a] W (RetIE W 0 6)) (h4 : ∀ W, Calls Tryd.prog 15 #[.int .i64 b, .int .i64 a] W (RetIE W 0 6))
    (g1 : decide (0 < a) = false) (g2 : decide (0 < b) = false)
    (q3 : (a != 0) = true) (q4 : (b != 0) = true) :
    Calls Tryd.prog 4 #[.int .i64 a, .int .i64 b] w fun r w' => r = .returned (.bool true) ∧ Below w.heap.size w w' := by
  have G := hid hg
  clear hg
  have H1 := hid h1
  have H2 := hid h2
  have H3 := hid h3
  have H4 := hid h4
  clear h1 h2 h3 h4
  go_enter Tryd.func4, Tryd.ntmps4
  go_wp2_with fail
  refine (small9_any _ G.out).mono ?_
  rintro r wa ⟨rfl, hba⟩
  have BA := hid hba
  clear hba
  go_wp2_with fail
  refine (H1.out _).mono ?_
  rintro r wb ⟨xb, rfl, hb, hbb⟩
  have BB := hid (BA.out.trans (hbb.mono BA.out.size))
  have XB := hid hb
  clear hbb hb BA
  go_wp2_with fail
  refine (H2.out _).mono ?_
  rintro r wc ⟨xc, rfl, hc, hbc⟩
  have BC := hid (BB.out.trans (hbc.mono BB.out.size))
  have XB2 := hid (XB.out.below hbc)
  have XC := hid hc
  clear hbc hc BB XB
  go_wp2_with fail
  refine (H3.out _).mono ?_
  rintro r wd ⟨xd, rfl, hd, hbd⟩
  have BD := hid (BC.out.trans (hbd.mono BC.out.size))
  have XB := hid (XB2.out.below hbd)
  have XC2 := hid (XC.out.below hbd)
  have XD := hid hd
  clear hbd hd BC XB2 XC
  go_wp2_with fail
  refine (H4.out _).mono ?_
  rintro r we ⟨xe, rfl, he, hbe⟩
  have BE := hid (BD.out.trans (hbe.mono BD.out.size))
  have XB2 := hid (XB.out.below hbe)
  have XC := hid (XC2.out.below hbe)
  have XD2 := hid (XD.out.below hbe)
  have XE := hid he
  clear hbe he BD XB XC2 XD H1 H2 H3 H4
  go_wp2_with fail
  refine (code_any _ _ _ (G.out.keepTo BE.out) XB2.out).mono ?_
  rintro r wf ⟨rfl, hbf⟩
  have BF := hid (BE.out.trans (hbf.mono BE.out.size))
  have XB := hid (XB2.out.below hbf)
  have XC2 := hid (XC.out.below hbf)
  have XD := hid (XD2.out.below hbf)
  have XE2 := hid (XE.out.below hbf)
  clear hbf BE XB2 XC XD2 XE
  go_wp2_with fail
  refine (code_any _ _ _ (G.out.keepTo BF.out) XD.out).mono ?_
  rintro r wg ⟨rfl, hbf⟩
  have BE := hid (BF.out.trans (hbf.mono BF.out.size))
  have XB2 := hid (XB.out.below hbf)
  have XC := hid (XC2.out.below hbf)
  have XE := hid (XE2.out.below hbf)
  clear hbf BF XB XC2 XD XE2
  go_wp2_with fail
  refine (code_any _ _ _ (G.out.keepTo BE.out) XC.out).mono ?_
  rintro r wh ⟨rfl, hbf⟩
  have BF := hid (BE.out.trans (hbf.mono BE.out.size))
  have XB := hid (XB2.out.below hbf)
  have XC2 := hid (XC.out.below hbf)
  have XE2 := hid (XE.out.below hbf)
  clear hbf BE XB2 XC XE
  go_wp2_with fail
  refine (code_any _ _ _ (G.out.keepTo BF.out) XE2.out).mono ?_
  rintro r wi ⟨rfl, hbf⟩
  have BE := hid (BF.out.trans (hbf.mono BF.out.size))
  have XB2 := hid (XB.out.below hbf)
  have XC := hid (XC2.out.below hbf)
  clear hbf BF XB XC2 XE2 G
  first | obtain rfl := XB2.out.nilOf | obtain ⟨t1, y1, rfl⟩ := XB2.out.ifaceOf (by omega)
  first | obtain rfl := XC.out.nilOf | obtain ⟨t2, y2, rfl⟩ := XC.out.ifaceOf (by omega)
  clear XB2 XC
  dsimp only
  go_upto_region 8 with (fail)
  simp only [List.append]
  go_wp2
  go_ret
  exact ⟨rfl, BE.out⟩
set_option maxRecDepth 100000 in
set_option maxHeartbeats 4000000 in
theorem sums_11 (a b : Int) (w : World) (hg : ErrTypeAt w)
    (h1 : ∀ W, Calls Tryd.prog 14 #[.int .i64 a, .int .i64 b] W (RetIE W 0 6)) (h2 : ∀ W, Calls Tryd.prog 15 #[.int .i64 a, .int .i64 b] W (RetIE W 0 0))
    (h3 : ∀ W, Calls Tryd.prog 14 #[.int .i64 b, .int .i64 a] W (RetIE W 0 6)) (h4 : ∀ W, Calls Tryd.prog 15 #[.int .i64 b, .int .i64 a] W (RetIE W 0 0))
    (g1 : decide (0 < a) = false) (g2 : decide (0 < b) = false)
    (q1 : (a == 0) = true) :
    Calls Tryd.prog 4 #[.int .i64 a, .int .i64 b] w fun r w' => r = .returned (.bool true) ∧ Below w.heap.size w w' := by
  have G := hid hg
  clear hg
  have H1 := hid h1
  have H2 := hid h2
  have H3 := hid h3
  have H4 := hid h4
  clear h1 h2 h3 h4
  go_enter Tryd.func4, Tryd.ntmps4
  go_wp2_with fail
  refine (small9_any _ G.out).mono ?_
  rintro r wa ⟨rfl, hba⟩
  have BA := hid hba
  clear hba
  go_wp2_with fail
  refine (H1.out _).mono ?_
  rintro r wb ⟨xb, rfl, hb, hbb⟩
  have BB := hid (BA.out.trans (hbb.mono BA.out.size))
  have XB := hid hb
  clear hbb hb BA
  go_wp2_with fail
  refine (H2.out _).mono ?_
  rintro r wc ⟨xc, rfl, hc, hbc⟩
  have BC := hid (BB.out.trans (hbc.mono BB.out.size))
  have XB2 := hid (XB.out.below hbc)
  have XC := hid hc
  clear hbc hc BB XB
  go_wp2_with fail
  refine (H3.out _).mono ?_
  rintro r wd ⟨xd, rfl, hd, hbd⟩
  have BD := hid (BC.out.trans (hbd.mono BC.out.size))
  have XB := hid (XB2.out.below hbd)
  have XC2 := hid (XC.out.below hbd)
  have XD := hid hd
  clear hbd hd BC XB2 XC
  go_wp2_with fail
  refine (H4.out _).mono ?_
  rintro r we ⟨xe, rfl, he, hbe⟩
  have BE := hid (BD.out.trans (hbe.mono BD.out.size))
  have XB2 := hid (XB.out.below hbe)
  have XC := hid (XC2.out.below hbe)
  have XD2 := hid (XD.out.below hbe)
  have XE := hid he
  clear hbe he BD XB XC2 XD H1 H2 H3 H4
  go_wp2_with fail
  refine (code_any _ _ _ (G.out.keepTo BE.out) XB2.out).mono ?_
  rintro r wf ⟨rfl, hbf⟩
  have BF := hid (BE.out.trans (hbf.mono BE.out.size))
  have XB := hid (XB2.out.below hbf)
  have XC2 := hid (XC.out.below hbf)
  have XD := hid (XD2.out.below hbf)
  have XE2 := hid (XE.out.below hbf)
  clear hbf BE XB2 XC XD2 XE
  go_wp2_with fail
  refine (code_any _ _ _ (G.out.keepTo BF.out) XD.out).mono ?_
  rintro r wg ⟨rfl, hbf⟩
  have BE := hid (BF.out.trans (hbf.mono BF.out.size))
  have XB2 := hid (XB.out.below hbf)
  have XC := hid (XC2.out.below hbf)
  have XE := hid (XE2.out.below hbf)
  clear hbf BF XB XC2 XD XE2
  go_wp2_with fail
  refine (code_any _ _ _ (G.out.keepTo BE.out) XC.out).mono ?_
  rintro r wh ⟨rfl, hbf⟩
  have BF := hid (BE.out.trans (hbf.mono BE.out.size))
  have XB := hid (XB2.out.below hbf)
  have XC2 := hid (XC.out.below hbf)
  have XE2 := hid (XE.out.below hbf)
  clear hbf BE XB2 XC XE
  go_wp2_with fail
  refine (code_any _ _ _ (G.out.keepTo BF.out) XE2.out).mono ?_
  rintro r wi ⟨rfl, hbf⟩
  have BE := hid (BF.out.trans (hbf.mono BF.out.size))
  have XB2 := hid (XB.out.below hbf)
  have XC := hid (XC2.out.below hbf)
  clear hbf BF XB XC2 XE2 G
  first | obtain rfl := XB2.out.nilOf | obtain ⟨t1, y1, rfl⟩ := XB2.out.ifaceOf (by omega)
  first | obtain rfl := XC.out.nilOf | obtain ⟨t2, y2, rfl⟩ := XC.out.ifaceOf (by omega)
  clear XB2 XC
  dsimp only
  go_upto_region 8 with (fail)
  simp only [List.append]
  go_wp2
  go_ret
  exact ⟨rfl, BE.out⟩
set_option maxRecDepth 100000 in
set_option maxHeartbeats 4000000 in
theorem sums_12 (a b p : Int) (w : World) (hg : ErrTypeAt w)
    (h1 : ∀ W, Calls Tryd.prog 14 #[.int .i64 a, .int .i64 b] W (RetIE W 0 6)) (h2 : ∀ W, Calls Tryd.prog 15 #[.int .i64 a, .int .i64 b] W (RetIE W p 0))
    (h3 : ∀ W, Calls Tryd.prog 14 #[.int .i64 b, .int .i64 a] W (RetIE W 0 6)) (h4 : ∀ W, Calls Tryd.prog 15 #[.int .i64 b, .int .i64 a] W (RetIE W p 0))
    (g1 : decide (0 < a) = false) (g2 : decide (0 < b) = false)
    (q0 : ¬ a = 0) (q1 : (a == 0) = false) (q2 : (wrap64 (p.tdiv a) == b) = true) (q3 : (p.tmod a == 0) = true) (q4 : (a != 0) = true) :
    Calls Tryd.prog 4 #[.int .i64 a, .int .i64 b] w fun r w' => r = .returned (.bool true) ∧ Below w.heap.size w w' := by
  have G := hid hg
  clear hg
  have H1 := hid h1
  have H2 := hid h2
  have H3 := hid h3
  have H4 := hid h4
  clear h1 h2 h3 h4
  go_enter Tryd.func4, Tryd.ntmps4
  go_wp2_with fail
  refine (small9_any _ G.out).mono ?_
  rintro r wa ⟨rfl, hba⟩
  have BA := hid hba
  clear hba
  go_wp2_with fail
  refine (H1.out _).mono ?_
  rintro r wb ⟨xb, rfl, hb, hbb⟩
  have BB := hid (BA.out.trans (hbb.mono BA.out.size))
  have XB := hid hb
  clear hbb hb BA
  go_wp2_with fail
  refine (H2.out _).mono ?_
  rintro r wc ⟨xc, rfl, hc, hbc⟩
  have BC := hid (BB.out.trans (hbc.mono BB.out.size))
  have XB2 := hid (XB.out.below hbc)
  have XC := hid hc
  clear hbc hc BB XB
  go_wp2_with fail
  refine (H3.out _).mono ?_
  rintro r wd ⟨xd, rfl, hd, hbd⟩
  have BD := hid (BC.out.trans (hbd.mono BC.out.size))
  have XB := hid (XB2.out.below hbd)
  have XC2 := hid (XC.out.below hbd)
  have XD := hid hd
  clear hbd hd BC XB2 XC
  go_wp2_with fail
  refine (H4.out _).mono ?_
  rintro r we ⟨xe, rfl, he, hbe⟩
  have BE := hid (BD.out.trans (hbe.mono BD.out.size))
  have XB2 := hid (XB.out.below hbe)
  have XC := hid (XC2.out.below hbe)
  have XD2 := hid (XD.out.below hbe)
  have XE := hid he
  clear hbe he BD XB XC2 XD H1 H2 H3 H4
  go_wp2_with fail
  refine (code_any _ _ _ (G.out.keepTo BE.out) XB2.out).mono ?_
  rintro r wf ⟨rfl, hbf⟩
  have BF := hid (BE.out.trans (hbf.mono BE.out.size))
  have XB := hid (XB2.out.below hbf)
  have XC2 := hid (XC.out.below hbf)
  have XD := hid (XD2.out.below hbf)
  have XE2 := hid (XE.out.below hbf)
  clear hbf BE XB2 XC XD2 XE
  go_wp2_with fail
  refine (code_any _ _ _ (G.out.keepTo BF.out) XD.out).mono ?_
  rintro r wg ⟨rfl, hbf⟩
  have BE := hid (BF.out.trans (hbf.mono BF.out.size))
  have XB2 := hid (XB.out.below hbf)
  have XC := hid (XC2.out.below hbf)
  have XE := hid (XE2.out.below hbf)
  clear hbf BF XB XC2 XD XE2
  go_wp2_with fail
  refine (code_any _ _ _ (G.out.keepTo BE.out) XC.out).mono ?_
  rintro r wh ⟨rfl, hbf⟩
  have BF := hid (BE.out.trans (hbf.mono BE.out.size))
  have XB := hid (XB2.out.below hbf)
  have XC2 := hid (XC.out.below hbf)
  have XE2 := hid (XE.out.below hbf)
  clear hbf BE XB2 XC XE
  go_wp2_with fail
  refine (code_any _ _ _ (G.out.keepTo BF.out) XE2.out).mono ?_
  rintro r wi ⟨rfl, hbf⟩
  have BE := hid (BF.out.trans (hbf.mono BF.out.size))
  have XB2 := hid (XB.out.below hbf)
  have XC := hid (XC2.out.below hbf)
  clear hbf BF XB XC2 XE2 G
  first | obtain rfl := XB2.out.nilOf | obtain ⟨t1, y1, rfl⟩ := XB2.out.ifaceOf (by omega)
  first | obtain rfl := XC.out.nilOf | obtain ⟨t2, y2, rfl⟩ := XC.out.ifaceOf (by omega)
  clear XB2 XC
  dsimp only
  go_upto_region 8 with (fail)
  simp only [List.append]
  go_wp2
  go_ret
  exact ⟨rfl, BE.out⟩
set_option maxRecDepth 100000 in
set_option maxHeartbeats 4000000 in
theorem sums_20 (a b n : Int) (w : World) (hg : ErrTypeAt w)
    (h1 : ∀ W, Calls Tryd.prog 14 #[.int .i64 a, .int .i64 b] W (RetIE W n 0)) (h2 : ∀ W, Calls Tryd.prog 15 #[.int .i64 a, .int .i64 b] W (RetIE W 0 6))
    (h3 : ∀ W, Calls Tryd.prog 14 #[.int .i64 b, .int .i64 a] W (RetIE W n 0)) (h4 : ∀ W, Calls Tryd.prog 15 #[.int .i64 b, .int .i64 a] W (RetIE W 0 6))
    (g1 : (n - a == b) = true) (g2 : -9223372036854775808 ≤ n - a) (g3 : n - a ≤ 9223372036854775807) (g4 : decide (b < 0) = true) (g5 : decide (0 < b) = false) (g6 : decide (n ≤ a) = true)
    (q3 : (a != 0) = true) (q4 : (b != 0) = true) :
    Calls Tryd.prog 4 #[.int .i64 a, .int .i64 b] w fun r w' => r = .returned (.bool true) ∧ Below w.heap.size w w' := by
  have G := hid hg
  clear hg
  have H1 := hid h1
  have H2 := hid h2
  have H3 := hid h3
  have H4 := hid h4
  clear h1 h2 h3 h4
  go_enter Tryd.func4, Tryd.ntmps4
  go_wp2_with fail
  refine (small9_any _ G.out).mono ?_
  rintro r wa ⟨rfl, hba⟩
  have BA := hid hba
  clear hba
  go_wp2_with fail
  refine (H1.out _).mono ?_
  rintro r wb ⟨xb, rfl, hb, hbb⟩
  have BB := hid (BA.out.trans (hbb.mono BA.out.size))
  have XB := hid hb
  clear hbb hb BA
  go_wp2_with fail
  refine (H2.out _).mono ?_
  rintro r wc ⟨xc, rfl, hc, hbc⟩
  have BC := hid (BB.out.trans (hbc.mono BB.out.size))
  have XB2 := hid (XB.out.below hbc)
  have XC := hid hc
  clear hbc hc BB XB
  go_wp2_with fail
  refine (H3.out _).mono ?_
  rintro r wd ⟨xd, rfl, hd, hbd⟩
  have BD := hid (BC.out.trans (hbd.mono BC.out.size))
  have XB := hid (XB2.out.below hbd)
  have XC2 := hid (XC.out.below hbd)
  have XD := hid hd
  clear hbd hd BC XB2 XC
  go_wp2_with fail
  refine (H4.out _).mono ?_
  rintro r we ⟨xe, rfl, he, hbe⟩
  have BE := hid (BD.out.trans (hbe.mono BD.out.size))
  have XB2 := hid (XB.out.below hbe)
  have XC := hid (XC2.out.below hbe)
  have XD2 := hid (XD.out.below hbe)
  have XE := hid he
  clear hbe he BD XB XC2 XD H1 H2 H3 H4
  go_wp2_with fail
  refine (code_any _ _ _ (G.out.keepTo BE.out) XB2.out).mono ?_
  rintro r wf ⟨rfl, hbf⟩
  have BF := hid (BE.out.trans (hbf.mono BE.out.size))
  have XB := hid (XB2.out.below hbf)
  have XC2 := hid (XC.out.below hbf)
  have XD := hid (XD2.out.below hbf)
  have XE2 := hid (XE.out.below hbf)
  clear hbf BE XB2 XC XD2 XE
  go_wp2_with fail
  refine (code_any _ _ _ (G.out.keepTo BF.out) XD.out).mono ?_
  rintro r wg ⟨rfl, hbf⟩
  have BE := hid (BF.out.trans (hbf.mono BF.out.size))
  have XB2 := hid (XB.out.below hbf)
  have XC := hid (XC2.out.below hbf)
  have XE := hid (XE2.out.below hbf)
  clear hbf BF XB XC2 XD XE2
  go_wp2_with fail
  refine (code_any _ _ _ (G.out.keepTo BE.out) XC.out).mono ?_
  rintro r wh ⟨rfl, hbf⟩
  have BF := hid (BE.out.trans (hbf.mono BE.out.size))
  have XB := hid (XB2.out.below hbf)
  have XC2 := hid (XC.out.below hbf)
  have XE2 := hid (XE.out.below hbf)
  clear hbf BE XB2 XC XE
  go_wp2_with fail
  refine (code_any _ _ _ (G.out.keepTo BF.out) XE2.out).mono ?_
  rintro r wi ⟨rfl, hbf⟩
  have BE := hid (BF.out.trans (hbf.mono BF.out.size))
  have XB2 := hid (XB.out.below hbf)
  have XC := hid (XC2.out.below hbf)
  clear hbf BF XB XC2 XE2 G
  first | obtain rfl := XB2.out.nilOf | obtain ⟨t1, y1, rfl⟩ := XB2.out.ifaceOf (by omega)
  first | obtain rfl := XC.out.nilOf | obtain ⟨t2, y2, rfl⟩ := XC.out.ifaceOf (by omega)
  clear XB2 XC
  dsimp only
  go_upto_region 8 with (fail)
  simp only [List.append]
  go_wp2
  go_ret
  exact ⟨rfl, BE.out⟩
set_option maxRecDepth 100000 in
set_option maxHeartbeats 4000000 in
theorem sums_21 (a b n : Int) (w : World) (hg : ErrTypeAt w)
    (h1 : ∀ W, Calls Tryd.prog 14 #[.int .i64 a, .int .i64 b] W (RetIE W n 0)) (h2 : ∀ W, Calls Tryd.prog 15 #[.int .i64 a, .int .i64 b] W (RetIE W 0 0))
    (h3 : ∀ W, Calls Tryd.prog 14 #[.int .i64 b, .int .i64 a] W (RetIE W n 0)) (h4 : ∀ W, Calls Tryd.prog 15 #[.int .i64 b, .int .i64 a] W (RetIE W 0 0))
    (g1 : (n - a == b) = true) (g2 : -9223372036854775808 ≤ n - a) (g3 : n - a ≤ 9223372036854775807) (g4 : decide (b < 0) = true) (g5 : decide (0 < b) = false) (g6 : decide (n ≤ a) = true)
    (q1 : (a == 0) = true) :
    Calls Tryd.prog 4 #[.int .i64 a, .int .i64 b] w fun r w' => r = .returned (.bool true) ∧ Below w.heap.size w w' := by
  have G := hid hg
  clear hg
  have H1 := hid h1
  have H2 := hid h2
  have H3 := hid h3
  have H4 := hid h4
  clear h1 h2 h3 h4
  go_enter Tryd.func4, Tryd.ntmps4
  go_wp2_with fail
  refine (small9_any _ G.out).mono ?_
  rintro r wa ⟨rfl, hba⟩
  have BA := hid hba
  clear hba
  go_wp2_with fail
  refine (H1.out _).mono ?_
  rintro r wb ⟨xb, rfl, hb, hbb⟩
  have BB := hid (BA.out.trans (hbb.mono BA.out.size))
  have XB := hid hb
  clear hbb hb BA
  go_wp2_with fail
  refine (H2.out _).mono ?_
  rintro r wc ⟨xc, rfl, hc, hbc⟩
  have BC := hid (BB.out.trans (hbc.mono BB.out.size))
  have XB2 := hid (XB.out.below hbc)
  have XC := hid hc
  clear hbc hc BB XB
  go_wp2_with fail
  refine (H3.out _).mono ?_
  rintro r wd ⟨xd, rfl, hd, hbd⟩
  have BD := hid (BC.out.trans (hbd.mono BC.out.size))
  have XB := hid (XB2.out.below hbd)
  have XC2 := hid (XC.out.below hbd)
  have XD := hid hd
  clear hbd hd BC XB2 XC
  go_wp2_with fail
  refine (H4.out _).mono ?_
  rintro r we ⟨xe, rfl, he, hbe⟩
  have BE := hid (BD.out.trans (hbe.mono BD.out.size))
  have XB2 := hid (XB.out.below hbe)
  have XC := hid (XC2.out.below hbe)
  have XD2 := hid (XD.out.below hbe)
  have XE := hid he
  clear hbe he BD XB XC2 XD H1 H2 H3 H4
  go_wp2_with fail
  refine (code_any _ _ _ (G.out.keepTo BE.out) XB2.out).mono ?_
  rintro r wf ⟨rfl, hbf⟩
  have BF := hid (BE.out.trans (hbf.mono BE.out.size))
  have XB := hid (XB2.out.below hbf)
  have XC2 := hid (XC.out.below hbf)
  have XD := hid (XD2.out.below hbf)
  have XE2 := hid (XE.out.below hbf)
  clear hbf BE XB2 XC XD2 XE
  go_wp2_with fail
  refine (code_any _ _ _ (G.out.keepTo BF.out) XD.out).mono ?_
  rintro r wg ⟨rfl, hbf⟩
  have BE := hid (BF.out.trans (hbf.mono BF.out.size))
  have XB2 := hid (XB.out.below hbf)
  have XC := hid (XC2.out.below hbf)
  have XE := hid (XE2.out.below hbf)
  clear hbf BF XB XC2 XD XE2
  go_wp2_with fail
  refine (code_any _ _ _ (G.out.keepTo BE.out) XC.out).mono ?_
  rintro r wh ⟨rfl, hbf⟩
  have BF := hid (BE.out.trans (hbf.mono BE.out.size))
  have XB := hid (XB2.out.below hbf)
  have XC2 := hid (XC.out.below hbf)
  have XE2 := hid (XE.out.below hbf)
  clear hbf BE XB2 XC XE
  go_wp2_with fail
  refine (code_any _ _ _ (G.out.keepTo BF.out) XE2.out).mono ?_
  rintro r wi ⟨rfl, hbf⟩
  have BE := hid (BF.out.trans (hbf.mono BF.out.size))
  have XB2 := hid (XB.out.below hbf)
  have XC := hid (XC2.out.below hbf)
  clear hbf BF XB XC2 XE2 G
  first | obtain rfl := XB2.out.nilOf | obtain ⟨t1, y1, rfl⟩ := XB2.out.ifaceOf (by omega)
  first | obtain rfl := XC.out.nilOf | obtain ⟨t2, y2, rfl⟩ := XC.out.ifaceOf (by omega)
  clear XB2 XC
  dsimp only
  go_upto_region 8 with (fail)
  simp only [List.append]
  go_wp2
  go_ret
  exact ⟨rfl, BE.out⟩
set_option maxRecDepth 100000 in
set_option maxHeartbeats 4000000 in
theorem sums_22 (a b n p : Int) (w : World) (hg : ErrTypeAt w)
    (h1 : ∀ W, Calls Tryd.prog 14 #[.int .i64 a, .int .i64 b] W (RetIE W n 0)) (h2 : ∀ W, Calls Tryd.prog 15 #[.int .i64 a, .int .i64 b] W (RetIE W p 0))
    (h3 : ∀ W, Calls Tryd.prog 14 #[.int .i64 b, .int .i64 a] W (RetIE W n 0)) (h4 : ∀ W, Calls Tryd.prog 15 #[.int .i64 b, .int .i64 a] W (RetIE W p 0))
    (g1 : (n - a == b) = true) (g2 : -9223372036854775808 ≤ n - a) (g3 : n - a ≤ 9223372036854775807) (g4 : decide (b < 0) = true) (g5 : decide (0 < b) = false) (g6 : decide (n ≤ a) = true)
    (q0 : ¬ a = 0) (q1 : (a == 0) = false) (q2 : (wrap64 (p.tdiv a) == b) = true) (q3 : (p.tmod a == 0) = true) (q4 : (a != 0) = true) :
    Calls Tryd.prog 4 #[.int .i64 a, .int .i64 b] w fun r w' => r = .returned (.bool true) ∧ Below w.heap.size w w' := by
  have G := hid hg
  clear hg
  have H1 := hid h1
  have H2 := hid h2
  have H3 := hid h3
  have H4 := hid h4
  clear h1 h2 h3 h4
  go_enter Tryd.func4, Tryd.ntmps4
  go_wp2_with fail
  refine (small9_any _ G.out).mono ?_
  rintro r wa ⟨rfl, hba⟩
  have BA := hid hba
  clear hba
  go_wp2_with fail
  refine (H1.out _).mono ?_
  rintro r wb ⟨xb, rfl, hb, hbb⟩
  have BB := hid (BA.out.trans (hbb.mono BA.out.size))
  have XB := hid hb
  clear hbb hb BA
  go_wp2_with fail
  refine (H2.out _).mono ?_
  rintro r wc ⟨xc, rfl, hc, hbc⟩
  have BC := hid (BB.out.trans (hbc.mono BB.out.size))
  have XB2 := hid (XB.out.below hbc)
  have XC := hid hc
  clear hbc hc BB XB
  go_wp2_with fail
  refine (H3.out _).mono ?_
  rintro r wd ⟨xd, rfl, hd, hbd⟩
  have BD := hid (BC.out.trans (hbd.mono BC.out.size))
  have XB := hid (XB2.out.below hbd)
  have XC2 := hid (XC.out.below hbd)
  have XD := hid hd
  clear hbd hd BC XB2 XC
  go_wp2_with fail
  refine (H4.out _).mono ?_
  rintro r we ⟨xe, rfl, he, hbe⟩
  have BE := hid (BD.out.trans (hbe.mono BD.out.size))
  have XB2 := hid (XB.out.below hbe)
  have XC := hid (XC2.out.below hbe)
  have XD2 := hid (XD.out.below hbe)
  have XE := hid he
  clear hbe he BD XB XC2 XD H1 H2 H3 H4
  go_wp2_with fail
  refine (code_any _ _ _ (G.out.keepTo BE.out) XB2.out).mono ?_
  rintro r wf ⟨rfl, hbf⟩
  have BF := hid (BE.out.trans (hbf.mono BE.out.size))
  have XB := hid (XB2.out.below hbf)
  have XC2 := hid (XC.out.below hbf)
  have XD := hid (XD2.out.below hbf)
  have XE2 := hid (XE.out.below hbf)
  clear hbf BE XB2 XC XD2 XE
  go_wp2_with fail
  refine (code_any _ _ _ (G.out.keepTo BF.out) XD.out).mono ?_
  rintro r wg ⟨rfl, hbf⟩
  have BE := hid (BF.out.trans (hbf.mono BF.out.size))
  have XB2 := hid (XB.out.below hbf)
  have XC := hid (XC2.out.below hbf)
  have XE := hid (XE2.out.below hbf)
  clear hbf BF XB XC2 XD XE2
  go_wp2_with fail
  refine (code_any _ _ _ (G.out.keepTo BE.out) XC.out).mono ?_
  rintro r wh ⟨rfl, hbf⟩
  have BF := hid (BE.out.trans (hbf.mono BE.out.size))
  have XB := hid (XB2.out.below hbf)
  have XC2 := hid (XC.out.below hbf)
  have XE2 := hid (XE.out.below hbf)
  clear hbf BE XB2 XC XE
  go_wp2_with fail
  refine (code_any _ _ _ (G.out.keepTo BF.out) XE2.out).mono ?_
  rintro r wi ⟨rfl, hbf⟩
  have BE := hid (BF.out.trans (hbf.mono BF.out.size))
  have XB2 := hid (XB.out.below hbf)
  have XC := hid (XC2.out.below hbf)
  clear hbf BF XB XC2 XE2 G
  first | obtain rfl := XB2.out.nilOf | obtain ⟨t1, y1, rfl⟩ := XB2.out.ifaceOf (by omega)
  first | obtain rfl := XC.out.nilOf | obtain ⟨t2, y2, rfl⟩ := XC.out.ifaceOf (by omega)
  clear XB2 XC
  dsimp only
  go_upto_region 8 with (fail)
  simp only [List.append]
  go_wp2
  go_ret
  exact ⟨rfl, BE.out⟩
set_option maxRecDepth 100000 in
set_option maxHeartbeats 4000000 in
theorem sums_30 (a b n : Int) (w : World) (hg : ErrTypeAt w)
    (h1 : ∀ W, Calls Tryd.prog 14 #[.int .i64 a, .int .i64 b] W (RetIE W n 0)) (h2 : ∀ W, Calls Tryd.prog 15 #[.int .i64 a, .int .i64 b] W (RetIE W 0 6))
    (h3 : ∀ W, Calls Tryd.prog 14 #[.int .i64 b, .int .i64 a] W (RetIE W n 0)) (h4 : ∀ W, Calls Tryd.prog 15 #[.int .i64 b, .int .i64 a] W (RetIE W 0 6))
    (g1 : (n - a == b) = true) (g2 : -9223372036854775808 ≤ n - a) (g3 : n - a ≤ 9223372036854775807) (g4 : decide (b < 0) = false) (g5 : decide (a ≤ n) = true) (g6 : decide (0 < b) = true)
    (q3 : (a != 0) = true) (q4 : (b != 0) = true) :
    Calls Tryd.prog 4 #[.int .i64 a, .int .i64 b] w fun r w' => r = .returned (.bool true) ∧ Below w.heap.size w w' := by
  have G := hid hg
  clear hg
  have H1 := hid h1
  have H2 := hid h2
  have H3 := hid h3
  have H4 := hid h4
  clear h1 h2 h3 h4
  go_enter Tryd.func4, Tryd.ntmps4
  go_wp2_with fail
  refine (small9_any _ G.out).mono ?_
  rintro r wa ⟨rfl, hba⟩
  have BA := hid hba
  clear hba
  go_wp2_with fail
  refine (H1.out _).mono ?_
  rintro r wb ⟨xb, rfl, hb, hbb⟩
  have BB := hid (BA.out.trans (hbb.mono BA.out.size))
  have XB := hid hb
  clear hbb hb BA
  go_wp2_with fail
  refine (H2.out _).mono ?_
  rintro r wc ⟨xc, rfl, hc, hbc⟩
  have BC := hid (BB.out.trans (hbc.mono BB.out.size))
  have XB2 := hid (XB.out.below hbc)
  have XC := hid hc
  clear hbc hc BB XB
  go_wp2_with fail
  refine (H3.out _).mono ?_
  rintro r wd ⟨xd, rfl, hd, hbd⟩
  have BD := hid (BC.out.trans (hbd.mono BC.out.size))
  have XB := hid (XB2.out.below hbd)
  have XC2 := hid (XC.out.below hbd)
  have XD := hid hd
  clear hbd hd BC XB2 XC
  go_wp2_with fail
  refine (H4.out _).mono ?_
  rintro r we ⟨xe, rfl, he, hbe⟩
  have BE := hid (BD.out.trans (hbe.mono BD.out.size))
  have XB2 := hid (XB.out.below hbe)
  have XC := hid (XC2.out.below hbe)
  have XD2 := hid (XD.out.below hbe)
  have XE := hid he
  clear hbe he BD XB XC2 XD H1 H2 H3 H4
  go_wp2_with fail
  refine (code_any _ _ _ (G.out.keepTo BE.out) XB2.out).mono ?_
  rintro r wf ⟨rfl, hbf⟩
  have BF := hid (BE.out.trans (hbf.mono BE.out.size))
  have XB := hid (XB2.out.below hbf)
  have XC2 := hid (XC.out.below hbf)
  have XD := hid (XD2.out.below hbf)
  have XE2 := hid (XE.out.below hbf)
  clear hbf BE XB2 XC XD2 XE
  go_wp2_with fail
  refine (code_any _ _ _ (G.out.keepTo BF.out) XD.out).mono ?_
  rintro r wg ⟨rfl, hbf⟩
  have BE := hid (BF.out.trans (hbf.mono BF.out.size))
  have XB2 := hid (XB.out.below hbf)
  have XC := hid (XC2.out.below hbf)
  have XE := hid (XE2.out.below hbf)
  clear hbf BF XB XC2 XD XE2
  go_wp2_with fail
  refine (code_any _ _ _ (G.out.keepTo BE.out) XC.out).mono ?_
  rintro r wh ⟨rfl, hbf⟩
  have BF := hid (BE.out.trans (hbf.mono BE.out.size))
  have XB := hid (XB2.out.below hbf)
  have XC2 := hid (XC.out.below hbf)
  have XE2 := hid (XE.out.below hbf)
  clear hbf BE XB2 XC XE
  go_wp2_with fail
  refine (code_any _ _ _ (G.out.keepTo BF.out) XE2.out).mono ?_
  rintro r wi ⟨rfl, hbf⟩
  have BE := hid (BF.out.trans (hbf.mono BF.out.size))
  have XB2 := hid (XB.out.below hbf)
  have XC := hid (XC2.out.below hbf)
  clear hbf BF XB XC2 XE2 G
  first | obtain rfl := XB2.out.nilOf | obtain ⟨t1, y1, rfl⟩ := XB2.out.ifaceOf (by omega)
  first | obtain rfl := XC.out.nilOf | obtain ⟨t2, y2, rfl⟩ := XC.out.ifaceOf (by omega)
  clear XB2 XC
  dsimp only
  go_upto_region 8 with (fail)
  simp only [List.append]
  go_wp2
  go_ret
  exact ⟨rfl, BE.out⟩
set_option maxRecDepth 100000 in
set_option maxHeartbeats 4000000 in
theorem sums_31 (a b n : Int) (w : World) (hg : ErrTypeAt w)
    (h1 : ∀ W, Calls Tryd.prog 14 #[.int .i64 a, .int .i64 b] W (RetIE W n 0)) (h2 : ∀ W, Calls Tryd.prog 15 #[.int .i64 a, .int .i64 b] W (RetIE W 0 0))
    (h3 : ∀ W, Calls Tryd.prog 14 #[.int .i64 b, .int .i64 a] W (RetIE W n 0)) (h4 : ∀ W, Calls Tryd.prog 15 #[.int .i64 b, .int .i64 a] W (RetIE W 0 0))
    (g1 : (n - a == b) = true) (g2 : -9223372036854775808 ≤ n - a) (g3 : n - a ≤ 9223372036854775807) (g4 : decide (b < 0) = false) (g5 : decide (a ≤ n) = true) (g6 : decide (0 < b) = true)
    (q1 : (a == 0) = true) :
    Calls Tryd.prog 4 #[.int .i64 a, .int .i64 b] w fun r w' => r = .returned (.bool true) ∧ Below w.heap.size w w' := by
  have G := hid hg
  clear hg
  have H1 := hid h1
  have H2 := hid h2
  have H3 := hid h3
  have H4 := hid h4
  clear h1 h2 h3 h4
  go_enter Tryd.func4, Tryd.ntmps4
  go_wp2_with fail
  refine (small9_any _ G.out).mono ?_
  rintro r wa ⟨rfl, hba⟩
  have BA := hid hba
  clear hba
  go_wp2_with fail
  refine (H1.out _).mono ?_
  rintro r wb ⟨xb, rfl, hb, hbb⟩
  have BB := hid (BA.out.trans (hbb.mono BA.out.size))
  have XB := hid hb
  clear hbb hb BA
  go_wp2_with fail
  refine (H2.out _).mono ?_
  rintro r wc ⟨xc, rfl, hc, hbc⟩
  have BC := hid (BB.out.trans (hbc.mono BB.out.size))
  have XB2 := hid (XB.out.below hbc)
  have XC := hid hc
  clear hbc hc BB XB
  go_wp2_with fail
  refine (H3.out _).mono ?_
  rintro r wd ⟨xd, rfl, hd, hbd⟩
  have BD := hid (BC.out.trans (hbd.mono BC.out.size))
  have XB := hid (XB2.out.below hbd)
  have XC2 := hid (XC.out.below hbd)
  have XD := hid hd
  clear hbd hd BC XB2 XC
  go_wp2_with fail
  refine (H4.out _).mono ?_
  rintro r we ⟨xe, rfl, he, hbe⟩
  have BE := hid (BD.out.trans (hbe.mono BD.out.size))
  have XB2 := hid (XB.out.below hbe)
  have XC := hid (XC2.out.below hbe)
  have XD2 := hid (XD.out.below hbe)
  have XE := hid he
  clear hbe he BD XB XC2 XD H1 H2 H3 H4
  go_wp2_with fail
  refine (code_any _ _ _ (G.out.keepTo BE.out) XB2.out).mono ?_
  rintro r wf ⟨rfl, hbf⟩
  have BF := hid (BE.out.trans (hbf.mono BE.out.size))
  have XB := hid (XB2.out.below hbf)
  have XC2 := hid (XC.out.below hbf)
  have XD := hid (XD2.out.below hbf)
  have XE2 := hid (XE.out.below hbf)
  clear hbf BE XB2 XC XD2 XE
  go_wp2_with fail
  refine (code_any _ _ _ (G.out.keepTo BF.out) XD.out).mono ?_
  rintro r wg ⟨rfl, hbf⟩
  have BE := hid (BF.out.trans (hbf.mono BF.out.size))
  have XB2 := hid (XB.out.below hbf)
  have XC := hid (XC2.out.below hbf)
  have XE := hid (XE2.out.below hbf)
  clear hbf BF XB XC2 XD XE2
  go_wp2_with fail
  refine (code_any _ _ _ (G.out.keepTo BE.out) XC.out).mono ?_
  rintro r wh ⟨rfl, hbf⟩
  have BF := hid (BE.out.trans (hbf.mono BE.out.size))
  have XB := hid (XB2.out.below hbf)
  have XC2 := hid (XC.out.below hbf)
  have XE2 := hid (XE.out.below hbf)
  clear hbf BE XB2 XC XE
  go_wp2_with fail
  refine (code_any _ _ _ (G.out.keepTo BF.out) XE2.out).mono ?_
  rintro r wi ⟨rfl, hbf⟩
  have BE := hid (BF.out.trans (hbf.mono BF.out.size))
  have XB2 := hid (XB.out.below hbf)
  have XC := hid (XC2.out.below hbf)
  clear hbf BF XB XC2 XE2 G
  first | obtain rfl := XB2.out.nilOf | obtain ⟨t1, y1, rfl⟩ := XB2.out.ifaceOf (by omega)
  first | obtain rfl := XC.out.nilOf | obtain ⟨t2, y2, rfl⟩ := XC.out.ifaceOf (by omega)
  clear XB2 XC
  dsimp only
  go_upto_region 8 with (fail)
  simp only [List.append]
  go_wp2
  go_ret
  exact ⟨rfl, BE.out⟩
set_option maxRecDepth 100000 in
set_option maxHeartbeats 4000000 in
theorem sums_32 (a b n p : Int) (w : World) (hg : ErrTypeAt w)
    (h1 : ∀ W, Calls Tryd.prog 14 #[.int .i64 a, .int .i64 b] W (RetIE W n 0)) (h2 : ∀ W, Calls Tryd.prog 15 #[.int .i64 a, .int .i64 b] W (RetIE W p 0))
    (h3 : ∀ W, Calls Tryd.prog 14 #[.int .i64 b, .int .i64 a] W (RetIE W n 0)) (h4 : ∀ W, Calls Tryd.prog 15 #[.int .i64 b, .int .i64 a] W (RetIE W p 0))
    (g1 : (n - a == b) = true) (g2 : -9223372036854775808 ≤ n - a) (g3 : n - a ≤ 9223372036854775807) (g4 : decide (b < 0) = false) (g5 : decide (a ≤ n) = true) (g6 : decide (0 < b) = true)
    (q0 : ¬ a = 0) (q1 : (a == 0) = false) (q2 : (wrap64 (p.tdiv a) == b) = true) (q3 : (p.tmod a == 0) = true) (q4 : (a != 0) = true) :
    Calls Tryd.prog 4 #[.int .i64 a, .int .i64 b] w fun r w' => r = .returned (.bool true) ∧ Below w.heap.size w w' := by
  have G := hid hg
  clear hg
  have H1 := hid h1
  have H2 := hid h2
  have H3 := hid h3
  have H4 := hid h4
  clear h1 h2 h3 h4
  go_enter Tryd.func4, Tryd.ntmps4
  go_wp2_with fail
  refine (small9_any _ G.out).mono ?_
  rintro r wa ⟨rfl, hba⟩
  have BA := hid hba
  clear hba
  go_wp2_with fail
  refine (H1.out _).mono ?_
  rintro r wb ⟨xb, rfl, hb, hbb⟩
  have BB := hid (BA.out.trans (hbb.mono BA.out.size))
  have XB := hid hb
  clear hbb hb BA
  go_wp2_with fail
  refine (H2.out _).mono ?_
  rintro r wc ⟨xc, rfl, hc, hbc⟩
  have BC := hid (BB.out.trans (hbc.mono BB.out.size))
  have XB2 := hid (XB.out.below hbc)
  have XC := hid hc
  clear hbc hc BB XB
  go_wp2_with fail
  refine (H3.out _).mono ?_
  rintro r wd ⟨xd, rfl, hd, hbd⟩
  have BD := hid (BC.out.trans (hbd.mono BC.out.size))
  have XB := hid (XB2.out.below hbd)
  have XC2 := hid (XC.out.below hbd)
  have XD := hid hd
  clear hbd hd BC XB2 XC
  go_wp2_with fail
  refine (H4.out _).mono ?_
  rintro r we ⟨xe, rfl, he, hbe⟩
  have BE := hid (BD.out.trans (hbe.mono BD.out.size))
  have XB2 := hid (XB.out.below hbe)
  have XC := hid (XC2.out.below hbe)
  have XD2 := hid (XD.out.below hbe)
  have XE := hid he
  clear hbe he BD XB XC2 XD H1 H2 H3 H4
  go_wp2_with fail
  refine (code_any _ _ _ (G.out.keepTo BE.out) XB2.out).mono ?_
  rintro r wf ⟨rfl, hbf⟩
  have BF := hid (BE.out.trans (hbf.mono BE.out.size))
  have XB := hid (XB2.out.below hbf)
  have XC2 := hid (XC.out.below hbf)
  have XD := hid (XD2.out.below hbf)
  have XE2 := hid (XE.out.below hbf)
  clear hbf BE XB2 XC XD2 XE
  go_wp2_with fail
  refine (code_any _ _ _ (G.out.keepTo BF.out) XD.out).mono ?_
  rintro r wg ⟨rfl, hbf⟩
  have BE := hid (BF.out.trans (hbf.mono BF.out.size))
  have XB2 := hid (XB.out.below hbf)
  have XC := hid (XC2.out.below hbf)
  have XE := hid (XE2.out.below hbf)
  clear hbf BF XB XC2 XD XE2
  go_wp2_with fail
  refine (code_any _ _ _ (G.out.keepTo BE.out) XC.out).mono ?_
  rintro r wh ⟨rfl, hbf⟩
  have BF := hid (BE.out.trans (hbf.mono BE.out.size))
  have XB := hid (XB2.out.below hbf)
  have XC2 := hid (XC.out.below hbf)
  have XE2 := hid (XE.out.below hbf)
  clear hbf BE XB2 XC XE
  go_wp2_with fail
  refine (code_any _ _ _ (G.out.keepTo BF.out) XE2.out).mono ?_
  rintro r wi ⟨rfl, hbf⟩
  have BE := hid (BF.out.trans (hbf.mono BF.out.size))
  have XB2 := hid (XB.out.below hbf)
  have XC := hid (XC2.out.below hbf)
  clear hbf BF XB XC2 XE2 G
  first | obtain rfl := XB2.out.nilOf | obtain ⟨t1, y1, rfl⟩ := XB2.out.ifaceOf (by omega)
  first | obtain rfl := XC.out.nilOf | obtain ⟨t2, y2, rfl⟩ := XC.out.ifaceOf (by omega)
  clear XB2 XC
  dsimp only
  go_upto_region 8 with (fail)
  simp only [List.append]
  go_wp2
  go_ret
  exact ⟨rfl, BE.out⟩
set_option maxRecDepth 100000 in
set_option maxHeartbeats 4000000 in
theorem sums_40 (a b n : Int) (w : World) (hg : ErrTypeAt w)
    (h1 : ∀ W, Calls Tryd.prog 14 #[.int .i64 a, .int .i64 b] W (RetIE W n 0)) (h2 : ∀ W, Calls Tryd.prog 15 #[.int .i64 a, .int .i64 b] W (RetIE W 0 6))
    (h3 : ∀ W, Calls Tryd.prog 14 #[.int .i64 b, .int .i64 a] W (RetIE W n 0)) (h4 : ∀ W, Calls Tryd.prog 15 #[.int .i64 b, .int .i64 a] W (RetIE W 0 6))
    (g1 : (n - a == b) = true) (g2 : -9223372036854775808 ≤ n - a) (g3 : n - a ≤ 9223372036854775807) (g4 : decide (b < 0) = false) (g5 : decide (a ≤ n) = true) (g6 : decide (n ≤ a) = true) (g7 : decide (0 < b) = false)
    (q3 : (a != 0) = true) (q4 : (b != 0) = true) :
    Calls Tryd.prog 4 #[.int .i64 a, .int .i64 b] w fun r w' => r = .returned (.bool true) ∧ Below w.heap.size w w' := by
  have G := hid hg
  clear hg
  have H1 := hid h1
  have H2 := hid h2
  have H3 := hid h3
  have H4 := hid h4
  clear h1 h2 h3 h4
  go_enter Tryd.func4, Tryd.ntmps4
  go_wp2_with fail
  refine (small9_any _ G.out).mono ?_
  rintro r wa ⟨rfl, hba⟩
  have BA := hid hba
  clear hba
  go_wp2_with fail
  refine (H1.out _).mono ?_
  rintro r wb ⟨xb, rfl, hb, hbb⟩
  have BB := hid (BA.out.trans (hbb.mono BA.out.size))
  have XB := hid hb
  clear hbb hb BA
  go_wp2_with fail
  refine (H2.out _).mono ?_
  rintro r wc ⟨xc, rfl, hc, hbc⟩
  have BC := hid (BB.out.trans (hbc.mono BB.out.size))
  have XB2 := hid (XB.out.below hbc)
  have XC := hid hc
  clear hbc hc BB XB
  go_wp2_with fail
  refine (H3.out _).mono ?_
  rintro r wd ⟨xd, rfl, hd, hbd⟩
  have BD := hid (BC.out.trans (hbd.mono BC.out.size))
  have XB := hid (XB2.out.below hbd)
  have XC2 := hid (XC.out.below hbd)
  have XD := hid hd
  clear hbd hd BC XB2 XC
  go_wp2_with fail
  refine (H4.out _).mono ?_
  rintro r we ⟨xe, rfl, he, hbe⟩
  have BE := hid (BD.out.trans (hbe.mono BD.out.size))
  have XB2 := hid (XB.out.below hbe)
  have XC := hid (XC2.out.below hbe)
  have XD2 := hid (XD.out.below hbe)
  have XE := hid he
  clear hbe he BD XB XC2 XD H1 H2 H3 H4
  go_wp2_with fail
  refine (code_any _ _ _ (G.out.keepTo BE.out) XB2.out).mono ?_
  rintro r wf ⟨rfl, hbf⟩
  have BF := hid (BE.out.trans (hbf.mono BE.out.size))
  have XB := hid (XB2.out.below hbf)
  have XC2 := hid (XC.out.below hbf)
  have XD := hid (XD2.out.below hbf)
  have XE2 := hid (XE.out.below hbf)
  clear hbf BE XB2 XC XD2 XE
  go_wp2_with fail
  refine (code_any _ _ _ (G.out.keepTo BF.out) XD.out).mono ?_
  rintro r wg ⟨rfl, hbf⟩
  have BE := hid (BF.out.trans (hbf.mono BF.out.size))
  have XB2 := hid (XB.out.below hbf)
  have XC := hid (XC2.out.below hbf)
  have XE := hid (XE2.out.below hbf)
  clear hbf BF XB XC2 XD XE2
  go_wp2_with fail
  refine (code_any _ _ _ (G.out.keepTo BE.out) XC.out).mono ?_
  rintro r wh ⟨rfl, hbf⟩
  have BF := hid (BE.out.trans (hbf.mono BE.out.size))
  have XB := hid (XB2.out.below hbf)
  have XC2 := hid (XC.out.below hbf)
  have XE2 := hid (XE.out.below hbf)
  clear hbf BE XB2 XC XE
  go_wp2_with fail
  refine (code_any _ _ _ (G.out.keepTo BF.out) XE2.out).mono ?_
  rintro r wi ⟨rfl, hbf⟩
  have BE := hid (BF.out.trans (hbf.mono BF.out.size))
  have XB2 := hid (XB.out.below hbf)
  have XC := hid (XC2.out.below hbf)
  clear hbf BF XB XC2 XE2 G
  first | obtain rfl := XB2.out.nilOf | obtain ⟨t1, y1, rfl⟩ := XB2.out.ifaceOf (by omega)
  first | obtain rfl := XC.out.nilOf | obtain ⟨t2, y2, rfl⟩ := XC.out.ifaceOf (by omega)
  clear XB2 XC
  dsimp only
  go_upto_region 8 with (fail)
  simp only [List.append]
  go_wp2
  go_ret
  exact ⟨rfl, BE.out⟩
set_option maxRecDepth 100000 in
set_option maxHeartbeats 4000000 in
theorem sums_41 (a b n : Int) (w : World) (hg : ErrTypeAt w)
    (h1 : ∀ W, Calls Tryd.prog 14 #[.int .i64 a, .int .i64 b] W (RetIE W n 0)) (h2 : ∀ W, Calls Tryd.prog 15 #[.int .i64 a, .int .i64 b] W (RetIE W 0 0))
    (h3 : ∀ W, Calls Tryd.prog 14 #[.int .i64 b, .int .i64 a] W (RetIE W n 0)) (h4 : ∀ W, Calls Tryd.prog 15 #[.int .i64 b, .int .i64 a] W (RetIE W 0 0))
    (g1 : (n - a == b) = true) (g2 : -9223372036854775808 ≤ n - a) (g3 : n - a ≤ 9223372036854775807) (g4 : decide (b < 0) = false) (g5 : decide (a ≤ n) = true) (g6 : decide (n ≤ a) = true) (g7 : decide (0 < b) = false)
    (q1 : (a == 0) = true) :
    Calls Tryd.prog 4 #[.int .i64 a, .int .i64 b] w fun r w' => r = .returned (.bool true) ∧ Below w.heap.size w w' := by
  have G := hid hg
  clear hg
  have H1 := hid h1
  have H2 := hid h2
  have H3 := hid h3
  have H4 := hid h4
  clear h1 h2 h3 h4
  go_enter Tryd.func4, Tryd.ntmps4
  go_wp2_with fail
  refine (small9_any _ G.out).mono ?_
  rintro r wa ⟨rfl, hba⟩
  have BA := hid hba
  clear hba
  go_wp2_with fail
  refine (H1.out _).mono ?_
  rintro r wb ⟨xb, rfl, hb, hbb⟩
  have BB := hid (BA.out.trans (hbb.mono BA.out.size))
  have XB := hid hb
  clear hbb hb BA
  go_wp2_with fail
  refine (H2.out _).mono ?_
  rintro r wc ⟨xc, rfl, hc, hbc⟩
  have BC := hid (BB.out.trans (hbc.mono BB.out.size))
  have XB2 := hid (XB.out.below hbc)
  have XC := hid hc
  clear hbc hc BB XB
  go_wp2_with fail
  refine (H3.out _).mono ?_
  rintro r wd ⟨xd, rfl, hd, hbd⟩
  have BD := hid (BC.out.trans (hbd.mono BC.out.size))
  have XB := hid (XB2.out.below hbd)
  have XC2 := hid (XC.out.below hbd)
  have XD := hid hd
  clear hbd hd BC XB2 XC
  go_wp2_with fail
  refine (H4.out _).mono ?_
  rintro r we ⟨xe, rfl, he, hbe⟩
  have BE := hid (BD.out.trans (hbe.mono BD.out.size))
  have XB2 := hid (XB.out.below hbe)
  have XC := hid (XC2.out.below hbe)
  have XD2 := hid (XD.out.below hbe)
  have XE := hid he
  clear hbe he BD XB XC2 XD H1 H2 H3 H4
  go_wp2_with fail
  refine (code_any _ _ _ (G.out.keepTo BE.out) XB2.out).mono ?_
  rintro r wf ⟨rfl, hbf⟩
  have BF := hid (BE.out.trans (hbf.mono BE.out.size))
  have XB := hid (XB2.out.below hbf)
  have XC2 := hid (XC.out.below hbf)
  have XD := hid (XD2.out.below hbf)
  have XE2 := hid (XE.out.below hbf)
  clear hbf BE XB2 XC XD2 XE
  go_wp2_with fail
  refine (code_any _ _ _ (G.out.keepTo BF.out) XD.out).mono ?_
  rintro r wg ⟨rfl, hbf⟩
  have BE := hid (BF.out.trans (hbf.mono BF.out.size))
  have XB2 := hid (XB.out.below hbf)
  have XC := hid (XC2.out.below hbf)
  have XE := hid (XE2.out.below hbf)
  clear hbf BF XB XC2 XD XE2
  go_wp2_with fail
  refine (code_any _ _ _ (G.out.keepTo BE.out) XC.out).mono ?_
  rintro r wh ⟨rfl, hbf⟩
  have BF := hid (BE.out.trans (hbf.mono BE.out.size))
  have XB := hid (XB2.out.below hbf)
  have XC2 := hid (XC.out.below hbf)
  have XE2 := hid (XE.out.below hbf)
  clear hbf BE XB2 XC XE
  go_wp2_with fail
  refine (code_any _ _ _ (G.out.keepTo BF.out) XE2.out).mono ?_
  rintro r wi ⟨rfl, hbf⟩
  have BE := hid (BF.out.trans (hbf.mono BF.out.size))
  have XB2 := hid (XB.out.below hbf)
  have XC := hid (XC2.out.below hbf)
  clear hbf BF XB XC2 XE2 G
  first | obtain rfl := XB2.out.nilOf | obtain ⟨t1, y1, rfl⟩ := XB2.out.ifaceOf (by omega)
  first | obtain rfl := XC.out.nilOf | obtain ⟨t2, y2, rfl⟩ := XC.out.ifaceOf (by omega)
  clear XB2 XC
  dsimp only
  go_upto_region 8 with (fail)
  simp only [List.append]
  go_wp2
  go_ret
  exact ⟨rfl, BE.out⟩
set_option maxRecDepth 100000 in
set_option maxHeartbeats 4000000 in
theorem sums_42 (a b n p : Int) (w : World) (hg : ErrTypeAt w)
    (h1 : ∀ W, Calls Tryd.prog 14 #[.int .i64 a, .int .i64 b] W (RetIE W n 0)) (h2 : ∀ W, Calls Tryd.prog 15 #[.int .i64 a, .int .i64 b] W (RetIE W p 0))
    (h3 : ∀ W, Calls Tryd.prog 14 #[.int .i64 b, .int .i64 a] W (RetIE W n 0)) (h4 : ∀ W, Calls Tryd.prog 15 #[.int .i64 b, .int .i64 a] W (RetIE W p 0))
    (g1 : (n - a == b) = true) (g2 : -9223372036854775808 ≤ n - a) (g3 : n - a ≤ 9223372036854775807) (g4 : decide (b < 0) = false) (g5 : decide (a ≤ n) = true) (g6 : decide (n ≤ a) = true) (g7 : decide (0 < b) = false)
    (q0 : ¬ a = 0) (q1 : (a == 0) = false) (q2 : (wrap64 (p.tdiv a) == b) = true) (q3 : (p.tmod a == 0) = true) (q4 : (a != 0) = true) :
    Calls Tryd.prog 4 #[.int .i64 a, .int .i64 b] w fun r w' => r = .returned (.bool true) ∧ Below w.heap.size w w' := by
  have G := hid hg
  clear hg
  have H1 := hid h1
  have H2 := hid h2
  have H3 := hid h3
  have H4 := hid h4
  clear h1 h2 h3 h4
  go_enter Tryd.func4, Tryd.ntmps4
  go_wp2_with fail
  refine (small9_any _ G.out).mono ?_
  rintro r wa ⟨rfl, hba⟩
  have BA := hid hba
  clear hba
  go_wp2_with fail
  refine (H1.out _).mono ?_
  rintro r wb ⟨xb, rfl, hb, hbb⟩
  have BB := hid (BA.out.trans (hbb.mono BA.out.size))
  have XB := hid hb
  clear hbb hb BA
  go_wp2_with fail
  refine (H2.out _).mono ?_
  rintro r wc ⟨xc, rfl, hc, hbc⟩
  have BC := hid (BB.out.trans (hbc.mono BB.out.size))
  have XB2 := hid (XB.out.below hbc)
  have XC := hid hc
  clear hbc hc BB XB
  go_wp2_with fail
  refine (H3.out _).mono ?_
  rintro r wd ⟨xd, rfl, hd, hbd⟩
  have BD := hid (BC.out.trans (hbd.mono BC.out.size))
  have XB := hid (XB2.out.below hbd)
  have XC2 := hid (XC.out.below hbd)
  have XD := hid hd
  clear hbd hd BC XB2 XC
  go_wp2_with fail
  refine (H4.out _).mono ?_
  rintro r we ⟨xe, rfl, he, hbe⟩
  have BE := hid (BD.out.trans (hbe.mono BD.out.size))
  have XB2 := hid (XB.out.below hbe)
  have XC := hid (XC2.out.below hbe)
  have XD2 := hid (XD.out.below hbe)
  have XE := hid he
  clear hbe he BD XB XC2 XD H1 H2 H3 H4
  go_wp2_with fail
  refine (code_any _ _ _ (G.out.keepTo BE.out) XB2.out).mono ?_
  rintro r wf ⟨rfl, hbf⟩
  have BF := hid (BE.out.trans (hbf.mono BE.out.size))
  have XB := hid (XB2.out.below hbf)
  have XC2 := hid (XC.out.below hbf)
  have XD := hid (XD2.out.below hbf)
  have XE2 := hid (XE.out.below hbf)
  clear hbf BE XB2 XC XD2 XE
  go_wp2_with fail
  refine (code_any _ _ _ (G.out.keepTo BF.out) XD.out).mono ?_
  rintro r wg ⟨rfl, hbf⟩
  have BE := hid (BF.out.trans (hbf.mono BF.out.size))
  have XB2 := hid (XB.out.below hbf)
  have XC := hid (XC2.out.below hbf)
  have XE := hid (XE2.out.below hbf)
  clear hbf BF XB XC2 XD XE2
  go_wp2_with fail
  refine (code_any _ _ _ (G.out.keepTo BE.out) XC.out).mono ?_
  rintro r wh ⟨rfl, hbf⟩
  have BF := hid (BE.out.trans (hbf.mono BE.out.size))
  have XB := hid (XB2.out.below hbf)
  have XC2 := hid (XC.out.below hbf)
  have XE2 := hid (XE.out.below hbf)
  clear hbf BE XB2 XC XE
  go_wp2_with fail
  refine (code_any _ _ _ (G.out.keepTo BF.out) XE2.out).mono ?_
  rintro r wi ⟨rfl, hbf⟩
  have BE := hid (BF.out.trans (hbf.mono BF.out.size))
  have XB2 := hid (XB.out.below hbf)
  have XC := hid (XC2.out.below hbf)
  clear hbf BF XB XC2 XE2 G
  first | obtain rfl := XB2.out.nilOf | obtain ⟨t1, y1, rfl⟩ := XB2.out.ifaceOf (by omega)
  first | obtain rfl := XC.out.nilOf | obtain ⟨t2, y2, rfl⟩ := XC.out.ifaceOf (by omega)
  clear XB2 XC
  dsimp only
  go_upto_region 8 with (fail)
  simp only [List.append]
  go_wp2
  go_ret
  exact ⟨rfl, BE.out⟩
end Go.Proofs.YtlijncmjcecppaaDoor
