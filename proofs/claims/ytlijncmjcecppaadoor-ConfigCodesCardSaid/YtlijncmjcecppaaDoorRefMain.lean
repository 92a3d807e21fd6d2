/- crossbuckref08.Decode by contract: bytes of the right form. -/
import Derived.Test.YtlijncmjcecppaaDoorRefSteps
namespace Go.Proofs.YtlijncmjcecppaaDoor
open Go.RowKit

theorem RdR.start {W : World} {bb off cap : Nat} {x : List UInt8} {cs : Array Value} (hs : Sees W (some ⟨bb, off, none⟩) (byteVs x)) (h4 : 4 ≤ x.length) (hc : x.length ≤ cap) (hb : Box W bb 5 cs) :
    RdR (W.alloc (.cells #[.slice (some ⟨bb, off + 4, none⟩) (x.length - 4) (cap - 4), .bool false] 91)) W.heap.size (x.drop 4) := by
  refine ⟨some ⟨bb, off + 4, none⟩, cap - 4, by rw [List.length_drop]; exact Box.new _ _ _, ?_, by rw [List.length_drop]; omega, fun e => (by cases e), ?_⟩
  · have hd := hs.drop 4
    rw [Option.map_some, add_lit] at hd
    rw [← byteVs_drop]
    exact hd.alloc _
  · intro a ha
    injection ha with ha
    subst ha
    exact ⟨_, hb.alloc _⟩

def RefPost (w : World) (x : List UInt8) (r : Ending) (w' : World) : Prop :=
  if Cfg.ok (Cfg.decBody x) = true then ∃ A cap, r = .returned (.tuple #[cfV A (Cfg.decBody x).lines.length cap (Cfg.decBody x).times, .int .i64 0]) ∧ Out w w' 24 5 (.slice A (Cfg.decBody x).lines.length cap) (Cfg.decBody x).lines.length (linesVs (Cfg.decBody x).lines)
  else r = .returned (.tuple #[.agg cfZ, .int .i64 6]) ∧ Below w.heap.size w w'

set_option maxHeartbeats 4000000 in
set_option maxRecDepth 100000 in
theorem refDecode_form (v : Value) (b x : List UInt8) (c : UInt8) (tl : List UInt8) (w : World) (h : Byts w v b) (hlen : b.length ≤ 10000000000000) (ho : Crc.opened b = some x) (hx : x = [88, 66, 49] ++ c :: tl) (htl : tl.length = 20 + 14 * c.toNat) :
    Calls Tryd.prog 22 #[v] w (RefPost w x) := by
  have C := hid (fun W (h : Byts W v b) => refOpen_some v b _ W h hlen ho)
  have HB := hid h
  have hcb := Crc.byte_lt c
  have hx4 : x.drop 4 = tl := by rw [hx]; rfl
  have hxl : x.length = 24 + 14 * c.toNat := by rw [hx]; simp; omega
  have hx3 : Cfg.at1 x 3 = c.toNat := by rw [hx]; rfl
  have hll : (Cfg.decBody x).lines.length = c.toNat := by rw [← hx3]; simp [Cfg.decBody]
  have HLs := hid (show Cfg.decLs x c.toNat = (Cfg.decBody x).lines by rw [← hx3]; rfl)
  have HLL := hid hll
  have HXL := hid hxl
  have HT3 := hid (show x.take 3 = [88, 66, 49] by rw [hx]; rfl)
  have HC := hid (fun (W : World) A cap (h : Byts W (.slice A x.length cap) x) => show ∃ b off, A = some ⟨b, off, none⟩ ∧ b < W.heap.size ∧ W.cell? ⟨b, off + 3, none⟩ = some (.int .u8 (c.toNat : Nat)) by
      obtain ⟨A', cap', e, hs, _⟩ := h
      injection e with e1 _ _
      subst e1
      obtain ⟨b, off, e, hb, hc⟩ := hs.form (by rw [byteVs_length]; omega)
      refine ⟨b, off, e, hb, hc 3 _ ?_⟩
      rw [hx]
      rfl)
  have ht3 := xb1_toList
  clear h ho hx4 hx3 hll hx htl
  go_enter Tryd.func22, Tryd.ntmps22
  generalize c.toNat = cn at *
  go_wp2_with fail
  refine (C.out _ (HB.out.alloc _)).mono ?_
  rintro r w1 ⟨v1, rfl, h1⟩
  have BX := hid (Box.below (Box.new w 39 cfZ) h1.bel (by simp))
  have H1 := hid h1
  obtain ⟨A1, cap1, hv, _⟩ := h1.form
  subst hv
  obtain ⟨bb, off, rfl, hbb, c1⟩ := HC.out _ _ _ h1.byts
  have HCP := hid h1.byts.capLe
  have hcx := conv_byts (h1.byts.take 3 (by omega))
  rw [HT3.out] at hcx
  rw [HXL.out]
  clear h1 hxl
  have n0 : decide (24 + 14 * (cn : Int) < 4) = false := decide_eq_false (by omega)
  have n1 : (24 + 14 * (cn : Int) != 24 + 14 * (cn : Int)) = false := by simp
  have n2 : ¬ (24 + 14 * (cn : Int)) ≤ 3 := by omega
  have hcap3 : 3 ≤ cap1 := by have := HCP.out; have := HXL.out; omega
  have n3 : ¬ cap1 = 4 := by have := HCP.out; have := HXL.out; omega
  go_wp2_with fail
  clear n0 n1 n2 n3 hcx hcap3 ht3
  obtain ⟨g, hg⟩ : ∃ g, g = w1.heap.size := ⟨_, rfl⟩
  have HA0 : Hid (RefA w1 ((w1.alloc (.cells #[.slice (some ⟨bb, off + 4, none⟩) (24 + 14 * cn - 4) (cap1 - 4), .bool false] 91)).alloc (.cells (tArr (Cfg.fK x 0)) 78)) (g + 1) g x 0) := by
    have hcs : ∃ cs, Box w1 bb 5 cs := by
      rcases H1.out.1.2 with ⟨e, _⟩ | ⟨g', cap, cur, e, _, hh, _⟩
      · injection e with e
        cases e
      · injection e with e
        injection e with e
        injection e with e
        subst e
        exact ⟨_, hh⟩
    obtain ⟨cs, hcs⟩ := hcs
    have hr := RdR.start (W := w1) (cap := cap1) H1.out.sees (by rw [HXL.out]; omega) HCP.out hcs
    rw [HXL.out, ← hg] at hr
    refine ⟨((Below.refl _ _).alloc (Nat.le_refl _) _).alloc (by simp) _, hr.below ((Below.refl _ _).alloc (Nat.le_refl _) _), ?_, by omega, by omega⟩
    have hbx := Box.new (w1.alloc (.cells #[.slice (some ⟨bb, off + 4, none⟩) (24 + 14 * cn - 4) (cap1 - 4), .bool false] 91)) 78 (tArr (Cfg.fK x 0))
    rw [World.size_alloc, ← hg] at hbx
    exact hbx
  rw [show tArr (Cfg.fK x 0) = #[.int .i64 0, .int .i64 0, .int .i64 0, .int .i64 0, .int .i64 0, .int .i64 0, .int .i64 0, .int .i64 0, .int .i64 0, .int .i64 0] from rfl] at HA0
  rw [← hg]
  have HW : Hid (Box w1 w.heap.size 39 cfZ ∧ Below w.heap.size w w1) := ⟨BX.out, ((Below.refl _ _).alloc (Nat.le_refl _) _).trans (H1.out.bel.mono (by simp))⟩
  have HR := hid (fun W k (hk : k < 10) (h : RdR W g (x.drop (4 + 2 * k))) => num2_at g x (4 + 2 * k) W h (by rw [HXL.out]; omega) (by rw [HXL.out]; omega))
  have HG := hid hg
  clear hg BX H1
  go_loopg [8] 10 (fun gg s8 wr => ∃ kk : Nat, kk ≤ 10 ∧ 10 - kk ≤ gg ∧ s8 = .int .i64 kk ∧ Hid (RefA w1 wr (g + 1) g x kk))
  case atStart => exact ⟨0, by omega, by omega, rfl, HA0.out⟩
  case round =>
    clear HA0
    obtain ⟨kk, hkk, hg, rfl, HO⟩ := hrel
    by_cases hlt : kk < 10
    · have hR := HR.out wr kk hlt HO.out.rd
      obtain ⟨b0, b1⟩ := Cfg.get2_bd x (4 + 2 * kk)
      have hst := fun w5 => HO.out.step (w5 := w5) (h10 := hlt)
      generalize Cfg.get2 x (4 + 2 * kk) = v at hR b0 b1 hst
      have HR2 := hid (And.intro hR hst)
      clear hR hst HR c1 hbb
      go_wp2_with fail
      refine HR2.out.1.mono ?_
      rintro r w5 ⟨rfl, hr5, hk5⟩
      have hbx := HO.out.read hk5
      obtain ⟨old, hold⟩ := tArr_at (Cfg.fK x kk) kk hlt
      have hc := (hbx.cell kk).trans hold
      have hf := hbx.frozen kk
      have HS := hid (HR2.out.2 w5 hk5 hr5)
      clear hbx hold hr5 hk5
      go_wp2
      go_roundg (10 - (kk + 1))
      case measure => omega
      case rel => exact ⟨kk + 1, by omega, by omega, by go_num, HS.out⟩
    · have e : kk = 10 := by omega
      subst e
      clear hg hkk hlt HR
      have k0 := (HO.out.box.cell 0).trans (show _ = some (.int .i64 (Cfg.fK x 10 0)) from rfl)
      have k1 := (HO.out.box.cell 1).trans (show _ = some (.int .i64 (Cfg.fK x 10 1)) from rfl)
      have k2 := (HO.out.box.cell 2).trans (show _ = some (.int .i64 (Cfg.fK x 10 2)) from rfl)
      have k3 := (HO.out.box.cell 3).trans (show _ = some (.int .i64 (Cfg.fK x 10 3)) from rfl)
      have k4 := (HO.out.box.cell 4).trans (show _ = some (.int .i64 (Cfg.fK x 10 4)) from rfl)
      have k5 := (HO.out.box.cell 5).trans (show _ = some (.int .i64 (Cfg.fK x 10 5)) from rfl)
      have k6 := (HO.out.box.cell 6).trans (show _ = some (.int .i64 (Cfg.fK x 10 6)) from rfl)
      have k7 := (HO.out.box.cell 7).trans (show _ = some (.int .i64 (Cfg.fK x 10 7)) from rfl)
      have k8 := (HO.out.box.cell 8).trans (show _ = some (.int .i64 (Cfg.fK x 10 8)) from rfl)
      have k9 := (HO.out.box.cell 9).trans (show _ = some (.int .i64 (Cfg.fK x 10 9)) from rfl)
      obtain ⟨C', hC'⟩ : ∃ C, C = wr.heap.size := ⟨_, rfl⟩
      have HB0 : Hid (RefB w1 (wr.alloc (.cells (arrT (.slice none 0 0) (Cfg.fK x 10)) 39)) C' g x 24 (.slice none 0 0) 0) := by
        have hb := HO.out.bel.alloc HO.out.bel.size (.cells (arrT (.slice none 0 0) (Cfg.fK x 10)) 39)
        exact ⟨hb, HO.out.rd.below ((Below.refl _ _).alloc (Nat.le_refl _) _), by rw [hC']; exact Box.new _ _ _, Out.none' hb _ _, by rw [hC']; exact HO.out.bel.size, HO.out.hg⟩
      have HCC := hid hC'
      have HC1 := hid (And.intro hbb c1)
      clear c1 hbb hC'
      go_wp2_with ((with_reducible refine wp_storeNew rfl 39 (.tmp 9) (.tmp 77) rfl (arrT (.slice none 0 0) (Cfg.fK x 10)) ?_ ?_ ?_ ?_ ?_ ?_); exact sConfig; rfl; rfl; rfl; rfl)
      clear k0 k1 k2 k3 k4 k5 k6 k7 k8 k9 HO
      rw [← HCC.out]
      have R4 := hid (fun W o o' (e : o' = o + 4) (ho : o' ≤ 24 + 14 * cn) (h : RdR W g (x.drop o)) => by
        subst e
        exact num4_at g x o W h (by rw [HXL.out]; exact ho) (by rw [HXL.out]; omega))
      have R2 := hid (fun W o o' (e : o' = o + 2) (ho : o' ≤ 24 + 14 * cn) (h : RdR W g (x.drop o)) => by
        subst e
        exact num2_at g x o W h (by rw [HXL.out]; exact ho) (by rw [HXL.out]; omega))
      go_loopg [10, 11, 12] cn (fun gg s10 _ _ wr => ∃ (kk : Nat) (A' : Option Addr) (cap' : Nat), kk ≤ cn ∧ cn - kk ≤ gg ∧ s10 = .int .i64 kk ∧ Hid (RefB w1 wr C' g x (24 + 14 * kk) (.slice A' kk cap') kk))
      case atStart => exact ⟨0, none, 0, by omega, by omega, rfl, HB0.out⟩
      case round =>
        obtain ⟨wo, rfl⟩ : ∃ wo : World, wo = wr := ⟨_, rfl⟩
        clear HB0 HCC
        obtain ⟨kk, A', cap', hkk, hg, rfl, HO⟩ := hrel
        have c1r := (HO.out.bel.cell (p := ⟨bb, off + 3, none⟩) HC1.out.1).trans HC1.out.2
        have n2 : ¬ (24 + 14 * (cn : Int)) ≤ 3 := by omega
        by_cases hlt : kk < cn
        · have q0 := fun W h => R4.out W (24 + 14 * kk) (24 + 14 * kk + 4) rfl (by omega) h
          have q1 := fun W h => R4.out W (24 + 14 * kk + 4) (24 + 14 * kk + 8) rfl (by omega) h
          have q2 := fun W h => R2.out W (24 + 14 * kk + 8) (24 + 14 * kk + 10) rfl (by omega) h
          have q3 := fun W h => R2.out W (24 + 14 * kk + 10) (24 + 14 * kk + 12) rfl (by omega) h
          have q4 := fun W h => R2.out W (24 + 14 * kk + 12) (24 + 14 * kk + 14) rfl (by omega) h
          obtain ⟨b0, b0'⟩ := Cfg.get4_bd x (24 + 14 * kk)
          obtain ⟨b1, b1'⟩ := Cfg.get4_bd x (24 + 14 * kk + 4)
          obtain ⟨b2, b2'⟩ := Cfg.get2_bd x (24 + 14 * kk + 8)
          obtain ⟨b3, b3'⟩ := Cfg.get2_bd x (24 + 14 * kk + 10)
          obtain ⟨b4, b4'⟩ := Cfg.get2_bd x (24 + 14 * kk + 12)
          have hdl : Cfg.decLine x (24 + 14 * kk) = ⟨Cfg.get4 x (24 + 14 * kk), Cfg.get4 x (24 + 14 * kk + 4), Cfg.get2 x (24 + 14 * kk + 8), Cfg.get2 x (24 + 14 * kk + 10), Cfg.get2 x (24 + 14 * kk + 12)⟩ := rfl
          have hsu : linesVs (Cfg.decLs x (kk + 1)) = linesVs (Cfg.decLs x kk) ++ lnVs (Cfg.decLine x (24 + 14 * kk)) := by rw [Cfg.decLs_succ]; simp [linesVs]
          rw [hdl] at hsu
          generalize Cfg.get4 x (24 + 14 * kk) = v0 at q0 b0 b0' hsu
          generalize Cfg.get4 x (24 + 14 * kk + 4) = v1 at q1 b1 b1' hsu
          generalize Cfg.get2 x (24 + 14 * kk + 8) = v2 at q2 b2 b2' hsu
          generalize Cfg.get2 x (24 + 14 * kk + 10) = v3 at q3 b3 b3' hsu
          generalize Cfg.get2 x (24 + 14 * kk + 12) = v4 at q4 b4 b4' hsu
          have Q := hid (And.intro q0 (And.intro q1 (And.intro q2 (And.intro q3 q4))))
          have HSU := hid hsu
          clear q0 q1 q2 q3 q4 hsu hdl
          go_wp2_with fail
          clear c1r n2
          refine (Q.out.1 _ HO.out.rd).mono ?_
          rintro r w5 ⟨rfl, hr, hk⟩
          have HLn := hid (RefL.new (HO.out.read hk hr) #[.int .i64 v0, .int .i64 0, .int .i64 0, .int .i64 0, .int .i64 0])
          obtain ⟨L, hL⟩ : ∃ L, L = w5.heap.size := ⟨_, rfl⟩
          rw [← hL] at HLn
          have HLe := hid hL
          have hc := (HLn.out.line.cell 1).trans (show _ = some (.int .i64 0) from rfl)
          have hf := HLn.out.line.frozen 1
          clear hL hr hk HO
          go_wp2_with ((with_reducible refine wp_storeNew rfl 24 (.tmp 11) (.tmp 89) rfl #[.int .i64 v0, .int .i64 0, .int .i64 0, .int .i64 0, .int .i64 0] ?_ ?_ ?_ ?_ ?_ ?_); exact sLine; rfl; rfl; rfl; rfl)
          rw [← HLe.out]
          clear hc hf
          refine (Q.out.2.1 _ HLn.out.b.rd).mono ?_
          rintro r w6 ⟨rfl, hr, hk⟩
          have HL3 := hid (HLn.out.read hk hr)
          have hc := (HL3.out.line.cell 1).trans (show _ = some (.int .i64 0) from rfl)
          have hf := HL3.out.line.frozen 1
          clear hr hk HLn
          go_wp2_with fail
          have HL4 := hid (HL3.out.store 1 (.int .i64 v1))
          clear HL3 hc hf
          refine wp_loop_rounds 4 ?_
          rw [rounds_succ]
          go_wp2_with fail
          refine (Q.out.2.2.1 _ HL4.out.b.rd).mono ?_
          rintro r w7 ⟨rfl, hr, hk⟩
          have HL5 := hid (HL4.out.read hk hr)
          have hc := (HL5.out.line.cell 2).trans (show _ = some (.int .i64 0) from rfl)
          have hf := HL5.out.line.frozen 2
          clear hr hk HL4
          go_wp2_with fail
          have HL6 := hid (HL5.out.store 2 (.int .i64 v2))
          clear HL5 hc hf
          rw [rounds_succ]
          go_wp2_with fail
          refine (Q.out.2.2.2.1 _ HL6.out.b.rd).mono ?_
          rintro r w8 ⟨rfl, hr, hk⟩
          have HL7 := hid (HL6.out.read hk hr)
          have hc := (HL7.out.line.cell 3).trans (show _ = some (.int .i64 0) from rfl)
          have hf := HL7.out.line.frozen 3
          clear hr hk HL6
          go_wp2_with fail
          have HL8 := hid (HL7.out.store 3 (.int .i64 v3))
          clear HL7 hc hf
          rw [rounds_succ]
          go_wp2_with fail
          refine (Q.out.2.2.2.2 _ HL8.out.b.rd).mono ?_
          rintro r w9 ⟨rfl, hr, hk⟩
          have HL9 := hid (HL8.out.read hk hr)
          have hc := (HL9.out.line.cell 4).trans (show _ = some (.int .i64 0) from rfl)
          have hf := HL9.out.line.frozen 4
          clear hr hk HL8
          go_wp2_with fail
          have HLa := hid (HL9.out.store 4 (.int .i64 v4))
          clear HL9 hc hf
          rw [rounds_succ]
          have hline : Hid (Box (w9.setCell ⟨L, 4, none⟩ (.int .i64 v4)) L 24 #[.int .i64 v0, .int .i64 v1, .int .i64 v2, .int .i64 v3, .int .i64 v4]) := HLa.out.line
          have hout := hid HLa.out.b.out
          have HB := hid HLa.out.b
          have hc0 := (HB.out.box.cell 0).trans (show _ = some (.slice A' kk cap') from rfl)
          clear HLa
          go_wp2_with (first | ((with_reducible refine wp_loadRow rfl 24 (.tmp 11) rfl hline ?_ ?_ ?_); exact sLine; rfl) | (at_builtin; refine wp_app1 eiLine rfl (.tmp 105) (.tmp 107) rfl hout _ rfl rfl (by simp) rfl rfl (by omega) (by omega) ?_))
          intro A5 cap5 w10 H10 G10
          obtain ⟨HBm, hbx⟩ := HB.out.more G10.out (by rw [HSU.out]; exact H10.out)
          have hc := (hbx.cell 0).trans (show _ = some (.slice A' kk cap') from rfl)
          have hf := hbx.frozen 0
          have HM := hid HBm
          clear HBm hbx hline hout HB hc0 H10 G10
          go_wp2
          go_roundg (cn - (kk + 1))
          case measure => omega
          case rel => exact ⟨kk + 1, A5, cap5, by omega, by omega, by go_num, HM.out⟩
        · have e : kk = cn := by omega
          subst e
          clear hg hkk hlt R4 R2
          have HCk := hid (fun W (h : Sees W A' (linesVs (Cfg.decBody x).lines)) => refCheck_any (Cfg.decBody x) A' cap' W h (by rw [HLL.out]; omega))
          rw [HLL.out] at HCk
          have HCx : Hid (∀ W, Sees W A' (linesVs (Cfg.decBody x).lines) → Calls Tryd.prog 24 #[.agg (arrT (.slice A' kk cap') (Cfg.fK x 10))] W fun r w' => r = .returned (.int .i64 (Cfg.code (Cfg.decBody x))) ∧ Below W.heap.size W w') := HCk.out
          have HBX := hid HO.out.box
          have hsee := HO.out.out.sees
          rw [HLs.out] at hsee
          have HS := hid hsee
          clear hsee HCk
          go_wp2_with ((with_reducible refine wp_loadRow rfl 39 (.tmp 9) rfl HBX ?_ ?_ ?_); exact sConfig; rfl)
          clear c1r n2
          refine (HCx.out _ HS.out).mono ?_
          rintro r w5 ⟨rfl, hb5⟩
          have HBX5 := hid (HBX.out.below hb5 HBX.out.lt)
          have HR5 : Hid (Box w5 w.heap.size 39 cfZ) := (HW.out.1.below HO.out.bel HW.out.1.lt).below hb5 (by have := HW.out.1.lt; have := HO.out.bel.size; omega)
          have HB5 := hid (HO.out.bel.trans (hb5.mono HO.out.bel.size))
          have HO5 := hid (HO.out.out.below hb5)
          unfold Cfg.code
          cases hok : Cfg.ok (Cfg.decBody x) with
          | true =>
            simp only [if_true]
            have HK := hid hok
            clear hb5 hok
            go_wp2_with (first | ((with_reducible refine wp_loadRow rfl 39 (.tmp 9) rfl HBX5 ?_ ?_ ?_); exact sConfig; rfl) | ((with_reducible refine wp_storeRow rfl 39 (.tmp 2) (.tmp 116) rfl HR5 (arrT (.slice A' kk cap') (Cfg.fK x 10)) ?_ ?_ ?_ ?_ ?_ ?_); exact sConfig; rfl; rfl; rfl; rfl))
            refine bodyPost_ret (v := .tuple #[.agg (arrT (.slice A' kk cap') (Cfg.fK x 10)), .int .i64 0]) (results_box2 rfl rfl (HR5.out.row _) sConfig rfl) rfl ?_
            unfold RefPost
            rw [if_pos HK.out, HLL.out]
            refine ⟨A', cap', rfl, ?_, ?_⟩
            · have h1 := own_base (HO5.out.1) (HW.out.2.size)
              rw [HLs.out] at h1
              refine own_kept h1 (grown_keep (grown_setRow w5 w.heap.size _)) ?_
              intro g' e1 e2
              have := (HO5.out.1.lt _ e1).1
              have := HW.out.1.lt
              injection e2 with e2
              omega
            · exact (HW.out.2.trans (HB5.out.mono HW.out.2.size)).grown (grown_setRow w5 w.heap.size _) (by have := HW.out.2.size; have := HB5.out.size; omega) (fun k hk => by injection hk with hk; omega)
          | false =>
            simp only [Bool.false_eq_true, if_false]
            have HK := hid hok
            clear hb5 hok
            go_wp2_with ((with_reducible refine wp_storeSame rfl 39 (.tmp 2) (.tmp 114) rfl HR5 ?_ ?_ ?_ ?_ ?_); exact sConfig; rfl; rfl; rfl)
            refine bodyPost_ret (v := .tuple #[.agg cfZ, .int .i64 6]) (results_box2 rfl rfl HR5.out sConfig rfl) rfl ?_
            unfold RefPost
            rw [if_neg (by rw [HK.out]; simp)]
            exact ⟨rfl, HW.out.2.trans (HB5.out.mono HW.out.2.size)⟩
end Go.Proofs.YtlijncmjcecppaaDoor
