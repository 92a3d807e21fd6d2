/- crossbuckref08.Decode by contract: bytes that are no crossing's. -/
import Derived.Test.YtlijncmjcecppaaDoorRefEnc
namespace Go.Proofs.YtlijncmjcecppaaDoor
open Go.RowKit

theorem sNums : SInfo 78 10 := ⟨_, Tryd.underlying78, rfl, by kernel_rfl⟩
theorem xb1_toList : (⟨#[88, 66, 49]⟩ : ByteArray).toList = [88, 66, 49] := by rw [ByteArray.toList_eq]

set_option maxHeartbeats 1000000 in
theorem refDecode_sum (v : Value) (b : List UInt8) (w : World) (h : Byts w v b) (hlen : b.length ≤ 10000000000000) (ho : Crc.opened b = none) :
    Calls Tryd.prog 22 #[v] w fun r w' => r = .returned (.tuple #[.agg cfZ, .int .i64 3]) ∧ Below w.heap.size w w' := by
  have C := hid (fun W (h : Byts W v b) => refOpen_none v b W h hlen ho)
  have HB := hid h
  clear h ho
  have hbx := hid (Box.new w 39 cfZ)
  go_enter Tryd.func22, Tryd.ntmps22
  go_wp2_with fail
  refine (C.out _ (HB.out.alloc _)).mono ?_
  rintro r w1 ⟨rfl, rfl⟩
  go_wp2_with ((with_reducible refine wp_storeSame rfl 39 (.tmp 2) (.tmp 21) rfl hbx ?_ ?_ ?_ ?_ ?_); exact sConfig; rfl; rfl; rfl)
  exact bodyPost_ret (v := .tuple #[.agg cfZ, .int .i64 3]) (results_box2 rfl rfl hbx.out sConfig rfl) rfl ⟨rfl, (Below.refl _ _).alloc (Nat.le_refl _) _⟩

theorem Byts.capLe {w : World} {A : Option Addr} {n cap : Nat} {l : List UInt8} (h : Byts w (.slice A n cap) l) : l.length ≤ cap := by
  obtain ⟨A', cap', e, _, hc, _⟩ := h
  injection e with _ _ e3
  subst e3
  exact hc

set_option maxHeartbeats 1000000 in
set_option maxRecDepth 100000 in
theorem refDecode_bad (v : Value) (b x : List UInt8) (w : World) (h : Byts w v b) (hlen : b.length ≤ 10000000000000) (ho : Crc.opened b = some x) (hf : Cfg.form x = false) :
    Calls Tryd.prog 22 #[v] w fun r w' => r = .returned (.tuple #[.agg cfZ, .int .i64 2]) ∧ Below w.heap.size w w' := by
  have C := hid (fun W (h : Byts W v b) => refOpen_some v b x W h hlen ho)
  have HB := hid h
  have hxl : x.length ≤ b.length := opened_len ho
  clear h ho
  by_cases h4 : x.length < 4
  · have h4' : decide ((x.length : Int) < 4) = true := by simp; first | done | omega
    generalize x.length = n at C h4'
    go_enter Tryd.func22, Tryd.ntmps22
    go_wp2_with fail
    refine (C.out _ (HB.out.alloc _)).mono ?_
    rintro r w1 ⟨v1, rfl, h1⟩
    have hbx := hid (Box.below (Box.new w 39 cfZ) h1.bel (by simp))
    have H1 := hid h1
    obtain ⟨A1, cap1, hv, _⟩ := h1.form
    subst hv
    clear h1
    go_wp2_with ((with_reducible refine wp_storeSame rfl 39 (.tmp 2) (.tmp 42) rfl hbx ?_ ?_ ?_ ?_ ?_); exact sConfig; rfl; rfl; rfl)
    exact bodyPost_ret (v := .tuple #[.agg cfZ, .int .i64 2]) (results_box2 rfl rfl hbx.out sConfig rfl) rfl ⟨rfl, ((Below.refl _ _).alloc (Nat.le_refl _) _).trans (H1.out.bel.mono (by simp))⟩
  · have h4' : decide ((x.length : Int) < 4) = false := by simp; first | done | omega
    have hq : (x.take 3 == [88, 66, 49]) = true ∨ (x.take 3 == [88, 66, 49]) = false := by cases (x.take 3 == [88, 66, 49]) <;> simp
    have hT := hid (fun (W : World) A cap (h : Byts W (.slice A x.length cap) x) => h.take 3 (by omega))
    have hC := hid (fun (W : World) A cap (h : Byts W (.slice A x.length cap) x) => show ∃ b off, A = some ⟨b, off, none⟩ ∧ W.cell? ⟨b, off + 3, none⟩ = some (.int .u8 (x[3].toNat : Nat)) by
      obtain ⟨A', cap', e, hs, _⟩ := h
      injection e with e1 _ _
      subst e1
      exact byte_cell hs (k := 3) (by omega))
    have e3 : Cfg.at1 x 3 = x[3].toNat := by
      unfold Cfg.at1
      rw [List.getD_eq_getElem?_getD, List.getElem?_eq_getElem (by omega)]
      rfl
    have hL := hid (show (x.take 3 == [88, 66, 49]) = true → x.length ≠ 24 + 14 * x[3].toNat from fun hx hy => by
      have : Cfg.form x = true := by
        simp only [Cfg.form, Bool.and_eq_true, decide_eq_true_eq]
        exact ⟨⟨by omega, by simpa using hx⟩, by rw [e3]; exact hy⟩
      rw [this] at hf
      cases hf)
    have hcb := Crc.byte_lt x[3]
    clear hf e3
    generalize x[3].toNat = cn at hC hL hcb
    have ht3 := xb1_toList
    rcases hq with hq | hq
    · have hne := hL.out hq
      generalize hl3 : x.take 3 = l3 at hT hq hL
      obtain ⟨n, hn⟩ : ∃ n, n = x.length := ⟨_, rfl⟩
      have HN := hid hn
      have H4 := hid h4
      have HXL := hid hxl
      rw [← hn] at h4' hne
      have hne' : ((n : Int) != 24 + 14 * (cn : Int)) = true := by rw [bne_iff_ne]; omega
      have hqn : (l3 != [88, 66, 49]) = false := by rw [bne, hq]; rfl
      have hn3 : ¬ (n : Int) ≤ 3 := by omega
      clear hl3 hL hn h4 hxl
      go_enter Tryd.func22, Tryd.ntmps22
      go_wp2_with fail
      refine (C.out _ (HB.out.alloc _)).mono ?_
      rintro r w1 ⟨v1, rfl, h1⟩
      have hbx := hid (Box.below (Box.new w 39 cfZ) h1.bel (by simp))
      have H1 := hid h1
      obtain ⟨A1, cap1, hv, _⟩ := h1.form
      subst hv
      have cx := conv_byts (hT.out _ _ _ h1.byts)
      obtain ⟨bb, off, rfl, hc3⟩ := hC.out _ _ _ h1.byts
      have hcap3 : 3 ≤ cap1 := by have := h1.byts.capLe; have := H4.out; omega
      clear h1
      rw [← HN.out]
      go_wp2_with ((with_reducible refine wp_storeSame rfl 39 (.tmp 2) (.tmp 42) rfl hbx ?_ ?_ ?_ ?_ ?_); exact sConfig; rfl; rfl; rfl)
      exact bodyPost_ret (v := .tuple #[.agg cfZ, .int .i64 2]) (results_box2 rfl rfl hbx.out sConfig rfl) rfl ⟨rfl, ((Below.refl _ _).alloc (Nat.le_refl _) _).trans (H1.out.bel.mono (by simp))⟩
    · generalize hl3 : x.take 3 = l3 at hT hq hL
      obtain ⟨n, hn⟩ : ∃ n, n = x.length := ⟨_, rfl⟩
      have HN := hid hn
      have H4 := hid h4
      have HXL := hid hxl
      rw [← hn] at h4'
      clear hl3 hL hn h4 hxl hlen
      have hqn : (l3 != [88, 66, 49]) = true := by rw [bne, hq]; rfl
      go_enter Tryd.func22, Tryd.ntmps22
      go_wp2_with fail
      refine (C.out _ (HB.out.alloc _)).mono ?_
      rintro r w1 ⟨v1, rfl, h1⟩
      have hbx := hid (Box.below (Box.new w 39 cfZ) h1.bel (by simp))
      have H1 := hid h1
      obtain ⟨A1, cap1, hv, _⟩ := h1.form
      subst hv
      have cx := conv_byts (hT.out _ _ _ h1.byts)
      have hcap3 : 3 ≤ cap1 := by have := h1.byts.capLe; have := H4.out; omega
      clear h1
      rw [← HN.out]
      go_wp2_with ((with_reducible refine wp_storeSame rfl 39 (.tmp 2) (.tmp 42) rfl hbx ?_ ?_ ?_ ?_ ?_); exact sConfig; rfl; rfl; rfl)
      exact bodyPost_ret (v := .tuple #[.agg cfZ, .int .i64 2]) (results_box2 rfl rfl hbx.out sConfig rfl) rfl ⟨rfl, ((Below.refl _ _).alloc (Nat.le_refl _) _).trans (H1.out.bel.mono (by simp))⟩
end Go.Proofs.YtlijncmjcecppaaDoor
