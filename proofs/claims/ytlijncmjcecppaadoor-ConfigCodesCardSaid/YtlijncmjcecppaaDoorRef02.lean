/- The document's own sums (crossbuckref02) by contracts. -/
import Derived.Test.YtlijncmjcecppaaDoorEncode
import Derived.Laws.AppendOwnNone
namespace Go.Proofs.YtlijncmjcecppaaDoor
open Go.RowKit

set_option maxHeartbeats 1000000 in
theorem refOne_any (s c : Nat) (w : World) (hs : s < 65536) (hc : c < 256) :
    Calls Tryd.prog 72 #[.int .u16 (s : Nat), .int .u8 (c : Nat)] w fun r w' => r = .returned (.int .u16 (Crc.step s c : Nat)) ∧ w = w' := by
  have HF := hid (step_form s c hs hc)
  have hx0 := Crc.xor16 hs (show c * 256 < 65536 by omega)
  have HS := hid (show Crc.turnN 8 (s ^^^ (c * 256)) = Crc.step s c by unfold Crc.step Crc.turned; rfl)
  generalize s ^^^ (c * 256) = x0 at HF hx0 HS
  generalize Crc.step s c = y at HS ⊢
  go_enter Tryd.func72, Tryd.ntmps72
  go_wp2_with fail
  rw [HF.out]
  go_loopg [0, 5, 6] 8 (fun gg s0 s5 _ wr => ∃ (kk x : Nat), kk ≤ 8 ∧ 8 - kk ≤ gg ∧ s0 = .int .u16 (x : Nat) ∧ s5 = .int .i64 kk ∧ x < 65536 ∧ w = wr ∧ Hid (Crc.turnN (8 - kk) x = y))
  case atStart => exact ⟨0, x0, by omega, by omega, rfl, rfl, hx0, rfl, HS.out⟩
  case round =>
    obtain ⟨kk, x, hkk, hg, rfl, rfl, hx, rfl, HT⟩ := hrel
    by_cases hlt : kk < 8
    · obtain ⟨j, hj⟩ : ∃ j, 8 - kk = j + 1 := ⟨7 - kk, by omega⟩
      have hj2 : 8 - (kk + 1) = j := by omega
      have HN := hid (And.intro hj hj2)
      clear hj hj2
      by_cases hhi : 32768 ≤ x
      · have hhi' : (32768 : Int) ≤ (x : Int) := by omega
        have HE := hid (turn_hi x hhi)
        go_wp2
        rw [HE.out]
        go_roundg (8 - (kk + 1))
        case measure => omega
        case rel => exact ⟨kk + 1, Crc.turn1 x, by omega, by omega, rfl, by go_num, Crc.turn1_lt hx, rfl, by rw [HN.out.2, ← HT.out, HN.out.1]; rfl⟩
      · have hhi' : ¬ (32768 : Int) ≤ (x : Int) := by omega
        have HE := hid (turn_lo x hhi)
        go_wp2
        rw [HE.out]
        go_roundg (8 - (kk + 1))
        case measure => omega
        case rel => exact ⟨kk + 1, Crc.turn1 x, by omega, by omega, rfl, by go_num, Crc.turn1_lt hx, rfl, by rw [HN.out.2, ← HT.out, HN.out.1]; rfl⟩
    · have e : kk = 8 := by omega
      subst e
      go_wp2
      go_ret
      exact ⟨by rw [← HT.out]; rfl, rfl⟩

set_option maxHeartbeats 1000000 in
theorem refAdd_any (s : Nat) (l : List UInt8) (A : Option Addr) (cap : Nat) (w : World) (hs : s < 65536) (hl : Sees w A (byteVs l)) (hlen : l.length ≤ 1000000000000000) :
    Calls Tryd.prog 67 #[.int .u16 (s : Nat), .slice A l.length cap] w fun r w' => r = .returned (.int .u16 (Crc.crc s l : Nat)) ∧ w = w' := by
  obtain ⟨n, hn⟩ : ∃ n, n = l.length := ⟨_, rfl⟩
  rw [← hn] at hlen ⊢
  have HN := hid hn
  have HL := hid hl
  clear hn hl
  go_enter Tryd.func67, Tryd.ntmps67
  go_wp2_with fail
  go_loopg [0, 5] n (fun gg s0 s5 wr => ∃ (kk x : Nat), kk ≤ n ∧ n - kk ≤ gg ∧ s0 = .int .u16 (x : Nat) ∧ s5 = .int .i64 kk ∧ x < 65536 ∧ w = wr ∧ Hid (x = Crc.crc s (l.take kk)))
  case atStart => exact ⟨0, s, by omega, by omega, rfl, rfl, hs, rfl, rfl⟩
  case round =>
    obtain ⟨kk, x, hkk, hg, rfl, rfl, hx, rfl, HT⟩ := hrel
    by_cases hlt : kk < n
    · have hkl : kk < l.length := by rw [← HN.out]; exact hlt
      obtain ⟨b, off, rfl, hc⟩ := byte_cell HL.out hkl
      have hst := Crc.crc_take_succ s l kk hkl
      have hb := Crc.byte_lt l[kk]
      generalize l[kk].toNat = c at hc hst hb
      have HS := hid hst
      have CT := hid (fun W => refOne_any x c W hx hb)
      clear hst
      go_wp2_with fail
      refine (CT.out _).mono ?_
      rintro r w' ⟨rfl, rfl⟩
      go_wp2
      go_roundg (n - (kk + 1))
      case measure => omega
      case rel =>
        refine ⟨kk + 1, Crc.step x c, by omega, by omega, rfl, by go_num, Crc.step_lt hx hb, rfl, ?_⟩
        show _ = _
        rw [HS.out, ← HT.out]
    · have e : kk = n := by omega
      subst e
      clear hg hkk hlt
      go_wp2
      go_ret
      refine ⟨?_, rfl⟩
      have := HT.out
      rw [List.take_of_length_le (by rw [← HN.out]; exact Nat.le_refl _)] at this
      rw [← this]
      rfl
theorem refSum_any (l : List UInt8) (A : Option Addr) (cap : Nat) (w : World) (hl : Sees w A (byteVs l)) (hlen : l.length ≤ 1000000000000000) :
    Calls Tryd.prog 57 #[.slice A l.length cap] w fun r w' => r = .returned (.int .u16 (Crc.sum l : Nat)) ∧ w = w' := by
  have C := hid (refAdd_any 65535 l A cap w (by omega) hl hlen)
  clear hl
  go_enter Tryd.func57, Tryd.ntmps57
  go_wp2_with fail
  refine C.out.mono ?_
  rintro r w' ⟨rfl, rfl⟩
  go_wp2
  go_ret
  exact ⟨rfl, rfl⟩

/-- append of a row that may be nil. -/
theorem wp_appByts {ops : Array Oper} {rest : List Oper} {o : Oper} {a : Act} {Q : Exit → Act → World → Prop} {w0 w : World} {n : Nat} {v : Value} {xs : List Value} (hgd : o.guard = none) (s x : Operand) (ho : o.op = .call { callee := .builtin .append, args := #[s, x], argTypes := #[42, 42] })
    (H : Hid (Out w0 w 5 1 v n xs)) (A : Option Addr) (m c : Nat) (l : List UInt8) (hb : Hid (Byts w (.slice A m c) l)) (hs : a.eval s = v) (hx : a.eval x = .slice A m c) (hv : v ≠ .slice none 0 0) (hn : n + m < 100000000000000)
    (h : ∀ A' cap' w', Hid (Out w0 w' 5 1 (.slice A' (n + m) cap') (n + m) (xs ++ byteVs l)) → Hid (w.grownBy w' v.ownBlock) → wpList Tryd.prog ops Q rest (a.put o.dst (.slice A' (n + m) cap')) w') :
    wpList Tryd.prog ops Q (o :: rest) a w := by
  obtain ⟨A', c', e, hsee, hc, hnn⟩ := hb.out
  injection e with e1 e2 e3
  subst e1 e2 e3
  cases A with
  | some ad =>
    exact wp_appRow eiByte hgd s x ho H ad l.length c (byteVs l) hs hx (by rw [byteVs_length, Nat.mul_one]) hsee (bytes_oneCell l) (by omega) (by omega) h
  | none =>
    have h0 := hnn rfl
    subst h0
    have : l = [] := List.length_eq_zero_iff.1 (by omega)
    subst this
    obtain ⟨i, z, hi, _⟩ := eiByte.inf
    obtain ⟨A', cap', hv', _⟩ := H.out.form
    subst hv'
    refine wpList_append_own_none hgd s x 42 ho w0.heap.size 5 i 1 eiByte.und hi _ n xs hs H.out.1 hx ?_
    refine h A' cap' w ?_ ⟨rfl, rfl, rfl, Nat.le_refl _, fun _ _ _ => rfl⟩
    show Out _ _ _ _ _ _ _
    rw [show byteVs [] = [] from rfl, List.append_nil]
    exact H.out

set_option maxHeartbeats 1000000 in
theorem refSeal_any (v : Value) (l : List UInt8) (w : World) (hl : Byts w v l) (hlen : l.length ≤ 10000000000000) :
    Calls Tryd.prog 34 #[v] w fun r w' => ∃ v', r = .returned v' ∧ Out w w' 5 1 v' (l.length + 2) (byteVs (Crc.sealed l)) := by
  have HL := hid hl
  obtain ⟨A, cap, rfl, hs, hc, hn⟩ := hl
  have HS := hid (refSum_any l A cap w hs (by omega))
  have hsum := Crc.sum_lt l
  have HE := hid (show byteVs (Crc.sealed l) = byteVs l ++ [.int .u8 ((Crc.sum l : Int) / 256), .int .u8 ((Crc.sum l : Int) % 256)] by
    have h1 : ((UInt8.ofNat (Crc.sum l / 256)).toNat : Int) = (Crc.sum l : Int) / 256 := by rw [Crc.toNat_ofNat]; omega
    have h2 : ((UInt8.ofNat (Crc.sum l)).toNat : Int) = (Crc.sum l : Int) % 256 := by rw [Crc.toNat_ofNat]; omega
    rw [Crc.sealed, byteVs_append]
    simp only [byteVs, List.map_cons, List.map_nil, h1, h2])
  generalize Crc.sum l = s at HS hsum HE
  generalize l.length = n at *
  clear hs hc hn
  go_enter Tryd.func34, Tryd.ntmps34
  go_wp2_with fail
  refine HS.out.mono ?_
  rintro r w' ⟨rfl, rfl⟩
  have HF := hid (Out.fresh (Below.refl w.heap.size w) #[] 5 1 0 rfl (by omega))
  have HLa := hid (HL.out.alloc (.cells #[] 5))
  go_wp2_with (at_builtin; refine wp_appByts rfl (.tmp 6) (.tmp 7) rfl HF A n cap l HLa rfl rfl (by simp) (by omega) ?_)
  intro A1 cap1 w1 H1 _
  clear HF HLa
  go_wp2_with (at_builtin; refine wp_appN eiByte rfl (.tmp 8) (.tmp 15) rfl H1 2 _ rfl rfl rfl rfl rfl (by omega) (by omega) ?_)
  intro A2 cap2 w2 H2 _
  clear H1
  go_wp2
  go_ret
  refine ⟨_, rfl, ?_⟩
  rw [HE.out]
  have := H2.out
  simpa using this
end Go.Proofs.YtlijncmjcecppaaDoor
