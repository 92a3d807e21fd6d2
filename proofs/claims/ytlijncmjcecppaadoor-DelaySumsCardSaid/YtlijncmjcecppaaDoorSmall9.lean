/- The small case of layer 9's statements: true. -/
import Derived.Test.YtlijncmjcecppaaDoorTable
import Derived.Test.YtlijncmjcecppaaDoorMul
namespace Go.Proofs.YtlijncmjcecppaaDoor
open Go.RowKit

theorem ErrTypeAt.keepTo {w w' : World} (h : ErrTypeAt w) (hb : Below w.heap.size w w') : ErrTypeAt w' := h.below hb
theorem eq3_small (w : World) : (binOp .eql 22 (.agg #[.int .i64 70, .int .i64 20, .int .i64 0]) (.agg #[.int .i64 70, .int .i64 20, .int .i64 0])).run Tryd.prog w = .ok (.bool true) w := by kernel_rfl

set_option maxRecDepth 100000 in
set_option maxHeartbeats 4000000 in
theorem small9_any (w : World) (hg : ErrTypeAt w) :
    Calls Tryd.prog 12 #[] w fun r w' => r = .returned (.bool true) ∧ Below w.heap.size w w' := by
  have q3 := eq3_small
  have a1 := hid (add_any 9223372036854775807 1)
  have e1 : Dly.addN 9223372036854775807 1 = 0 := by decide
  have e2 : Dly.addC 9223372036854775807 1 = 6 := by decide
  rw [e1, e2] at a1
  have m1 := hid (mul_any 1099511627776 8388608)
  have e3 : Dly.mulN 1099511627776 8388608 = 0 := by decide
  have e4 : Dly.mulC 1099511627776 8388608 = 6 := by decide
  rw [e3, e4] at m1
  have m2 := hid (mul_any (-1099511627776) 8388608)
  have e5 : Dly.mulN (-1099511627776) 8388608 = -9223372036854775808 := by decide
  have e6 : Dly.mulC (-1099511627776) 8388608 = 0 := by decide
  rw [e5, e6] at m2
  have w1 := hid (way_any 1001 10)
  have e7 : Dly.wayN 1001 10 = 100 := by decide
  have e8 : Dly.wayC 1001 10 = 0 := by decide
  rw [e7, e8] at w1
  have w2 := hid (way_any 1 0)
  have e9 : Dly.wayN 1 0 = 0 := by decide
  have e10 : Dly.wayC 1 0 = 1 := by decide
  rw [e9, e10] at w2
  have o1 := hid (fun W => of_any 1000 500 10 20 40 30 W ⟨by omega, by omega⟩ ⟨by omega, by omega⟩ ⟨by omega, by omega⟩ ⟨by omega, by omega⟩ ⟨by omega, by omega⟩)
  have e11 : Dly.of1 1000 30 10 = 70 := by decide
  have e12 : Dly.of1 1000 30 20 = 20 := by decide
  have e13 : Dly.of1 1000 30 40 = 0 := by decide
  rw [e11, e12, e13] at o1
  clear e1 e2 e3 e4 e5 e6 e7 e8 e9 e10 e11 e12 e13
  have G := hid hg
  clear hg
  have h1 : I64 1 := ⟨by omega, by omega⟩
  go_enter Tryd.func12, Tryd.ntmps12
  go_wp2_with fail
  refine (a1.out _ ⟨by omega, by omega⟩ ⟨by omega, by omega⟩).mono ?_
  rintro r wa ⟨xa, rfl, ha, hba⟩
  have bx := Box.below (Box.new w 24 #[.int .i64 1000, .int .i64 500, .int .i64 10, .int .i64 20, .int .i64 40]) hba (by simp)
  have HA := hid (And.intro ha (And.intro bx (((Below.refl w.heap.size w).alloc (Nat.le_refl _) _).trans (hba.mono (by simp)))))
  clear ha hba bx a1
  go_wp2_with fail
  refine (m1.out _ ⟨by omega, by omega⟩ ⟨by omega, by omega⟩).mono ?_
  rintro r wb ⟨xb, rfl, hb, hbb⟩
  have HB := hid (And.intro hb (And.intro (HA.out.1.below hbb) (And.intro (HA.out.2.1.below hbb HA.out.2.1.lt) (HA.out.2.2.trans (hbb.mono HA.out.2.2.size)))))
  clear hb hbb m1 HA
  go_wp2_with fail
  refine (m2.out _ ⟨by omega, by omega⟩ ⟨by omega, by omega⟩).mono ?_
  rintro r wc ⟨xc, rfl, hc, hbc⟩
  obtain rfl := hc.nilOf
  have HC := hid (And.intro (HB.out.1.below hbc) (And.intro (HB.out.2.1.below hbc) (And.intro (HB.out.2.2.1.below hbc HB.out.2.2.1.lt) (HB.out.2.2.2.trans (hbc.mono HB.out.2.2.2.size)))))
  clear hc hbc m2 HB
  go_wp2_with fail
  refine (w1.out _ ⟨by omega, by omega⟩ ⟨by omega, by omega⟩).mono ?_
  rintro r wd ⟨xd, rfl, hc, hbc⟩
  obtain rfl := hc.nilOf
  have HD := hid (And.intro (HC.out.1.below hbc) (And.intro (HC.out.2.1.below hbc) (And.intro (HC.out.2.2.1.below hbc HC.out.2.2.1.lt) (HC.out.2.2.2.trans (hbc.mono HC.out.2.2.2.size)))))
  clear hc hbc w1 HC
  go_wp2_with fail
  refine (w2.out _ ⟨by omega, by omega⟩ ⟨by omega, by omega⟩).mono ?_
  rintro r we ⟨xe, rfl, he, hbc⟩
  have HE := hid (And.intro he (And.intro (HD.out.1.below hbc) (And.intro (HD.out.2.1.below hbc) (And.intro (HD.out.2.2.1.below hbc HD.out.2.2.1.lt) (HD.out.2.2.2.trans (hbc.mono HD.out.2.2.2.size))))))
  clear he hbc w2 HD
  go_wp2_with fail
  refine (crossing_any 2 30 _ (by omega)).mono ?_
  rintro r wf ⟨A, cap, rfl, hsee, hbc⟩
  have HF := hid (And.intro (HE.out.1.below hbc) (And.intro (HE.out.2.1.below hbc) (And.intro (HE.out.2.2.1.below hbc) (And.intro (HE.out.2.2.2.1.below hbc HE.out.2.2.2.1.lt) (HE.out.2.2.2.2.trans (hbc.mono HE.out.2.2.2.2.size))))))
  have HS := hid hsee
  clear hsee hbc HE
  go_wp2_with fail
  refine (table_ok (cf0 2 30) A cap _ HS.out (by decide)).mono ?_
  rintro r wg ⟨v, rfl, ho, hbc⟩
  obtain ⟨A2, cap2, rfl, _⟩ := own_form ho
  have HG := hid (And.intro (HF.out.1.below hbc) (And.intro (HF.out.2.1.below hbc) (And.intro (HF.out.2.2.1.below hbc) (And.intro (HF.out.2.2.2.1.below hbc HF.out.2.2.2.1.lt) (HF.out.2.2.2.2.trans (hbc.mono HF.out.2.2.2.2.size))))))
  clear ho hbc HF HS
  have elen : (cf0 2 30).lines.length = 2 := rfl
  rw [elen]
  clear elen
  go_wp2_with fail
  refine (crossing_any 1 5 _ (by omega)).mono ?_
  rintro r wh ⟨A3, cap3, rfl, hsee, hbc⟩
  have HH := hid (And.intro (HG.out.1.below hbc) (And.intro (HG.out.2.1.below hbc) (And.intro (HG.out.2.2.1.below hbc) (And.intro (HG.out.2.2.2.1.below hbc HG.out.2.2.2.1.lt) (HG.out.2.2.2.2.trans (hbc.mono HG.out.2.2.2.2.size))))))
  have HS := hid hsee
  clear hsee hbc HG
  go_wp2_with fail
  have e14 : Dly.boundN (cf0 1 5) = 28 := by decide
  have e15 : Cfg.code (cf0 1 5) = 0 := by decide
  have hbd := bound_any (cf0 1 5) A3 cap3 wh HS.out (by decide)
  rw [e14, e15] at hbd
  refine hbd.mono ?_
  clear hbd e14 e15
  rintro r wi ⟨xi, rfl, hi, hbc⟩
  obtain rfl := hi.nilOf
  have HI := hid (And.intro (HH.out.1.below hbc) (And.intro (HH.out.2.1.below hbc) (And.intro (HH.out.2.2.1.below hbc) (And.intro (HH.out.2.2.2.1.below hbc HH.out.2.2.2.1.lt) (HH.out.2.2.2.2.trans (hbc.mono HH.out.2.2.2.2.size))))))
  clear hi hbc HH HS
  have k0 := (HI.out.2.2.2.1.cell 0).trans (show _ = some (.int .i64 1000) from rfl)
  have k1 := (HI.out.2.2.2.1.cell 1).trans (show _ = some (.int .i64 500) from rfl)
  have k2 := (HI.out.2.2.2.1.cell 2).trans (show _ = some (.int .i64 10) from rfl)
  have k3 := (HI.out.2.2.2.1.cell 3).trans (show _ = some (.int .i64 20) from rfl)
  have k4 := (HI.out.2.2.2.1.cell 4).trans (show _ = some (.int .i64 40) from rfl)
  go_wp2_with fail
  refine (o1.out _).mono ?_
  rintro r wj ⟨rfl, hbc⟩
  have HJ := hid (And.intro (HI.out.1.below hbc) (And.intro (HI.out.2.1.below hbc) (And.intro (HI.out.2.2.1.below hbc) (HI.out.2.2.2.2.trans (hbc.mono HI.out.2.2.2.2.size)))))
  clear hbc HI k0 k1 k2 k3 k4 o1
  go_wp2_with fail
  refine (code_any _ _ _ (G.out.keepTo HJ.out.2.2.2) HJ.out.2.2.1).mono ?_
  rintro r wk ⟨rfl, hbc⟩
  have HK := hid (And.intro (HJ.out.1.below hbc) (And.intro (HJ.out.2.1.below hbc) (HJ.out.2.2.2.trans (hbc.mono HJ.out.2.2.2.size))))
  clear hbc HJ
  go_wp2_with fail
  refine (code_any _ _ _ (G.out.keepTo HK.out.2.2) HK.out.2.1).mono ?_
  rintro r wl ⟨rfl, hbc⟩
  have HL := hid (And.intro (HK.out.1.below hbc) (HK.out.2.2.trans (hbc.mono HK.out.2.2.size)))
  clear hbc HK
  go_wp2_with fail
  refine (code_any _ _ _ (G.out.keepTo HL.out.2) HL.out.1).mono ?_
  rintro r wm ⟨rfl, hbc⟩
  go_wp2
  go_ret
  exact ⟨rfl, HL.out.2.trans (hbc.mono HL.out.2.size)⟩
end Go.Proofs.YtlijncmjcecppaaDoor
