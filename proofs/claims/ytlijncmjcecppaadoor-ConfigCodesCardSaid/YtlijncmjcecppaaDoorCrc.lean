/- Package crc and the document's own sums by contracts. -/
import Derived.Test.YtlijncmjcecppaaDoorBase
import Derived.Test.YtlijncmjcecppaaDoorCrcPlain
import Derived.Test.YtlijncmjcecppaaDoorProg
namespace Go.Proofs.YtlijncmjcecppaaDoor
open Go.RowKit

theorem ofInt16 (a : Nat) (ha : a < 65536) : (BitVec.ofInt 16 (a : Int)).toNat = a := by
  rw [BitVec.ofInt_natCast, BitVec.toNat_ofNat]; exact Nat.mod_eq_of_lt ha
theorem u16_xor (a b : Nat) (ha : a < 65536) (hb : b < 65536) : bits .xor .u16 (a : Int) (b : Int) = ((a ^^^ b : Nat) : Int) := by
  have hx : a ^^^ b < 65536 := Crc.xor16 ha hb
  show IntKind.u16.wrap ((BitVec.ofInt 16 (a : Int) ^^^ BitVec.ofInt 16 (b : Int)).toNat : Int) = _
  rw [BitVec.toNat_xor, ofInt16 a ha, ofInt16 b hb, IntKind.wrap_u16]
  omega
theorem u16_and_hi (a : Nat) (ha : a < 65536) : bits .and .u16 (a : Int) 32768 = if 32768 ≤ a then 32768 else 0 := by
  have e : a &&& 32768 = if 32768 ≤ a then 32768 else 0 := by
    have h2 : a.testBit 15 = decide (32768 ≤ a) := by
      rw [Nat.testBit_eq_decide_div_mod_eq]
      by_cases h3 : 32768 ≤ a
      · rw [decide_eq_true h3]; simp; omega
      · rw [decide_eq_false h3]; simp; omega
    apply Nat.eq_of_testBit_eq
    intro i
    have e1 : (32768 : Nat) = 2 ^ 15 := by decide
    rw [Nat.testBit_and, e1, Nat.testBit_two_pow]
    by_cases hi : 15 = i
    · subst hi
      rw [h2, e1]
      by_cases h3 : 2 ^ 15 ≤ a
      · rw [if_pos h3, Nat.testBit_two_pow, decide_eq_true h3]; simp
      · rw [if_neg h3, decide_eq_false h3]; simp
    · rw [decide_eq_false hi, Bool.and_false]
      split
      · rw [Nat.testBit_two_pow, decide_eq_false hi]
      · simp
  show IntKind.u16.wrap ((BitVec.ofInt 16 (a : Int) &&& BitVec.ofInt 16 ((32768 : Nat) : Int)).toNat : Int) = _
  rw [BitVec.toNat_and, ofInt16 a ha, ofInt16 32768 (by omega), IntKind.wrap_u16, e]
  split <;> rfl
theorem u16_dbl (a : Nat) : IntKind.u16.wrap ((a : Int) * 2) = ((2 * a % 65536 : Nat) : Int) := by
  rw [IntKind.wrap_u16]; omega
theorem turn_hi (x : Nat) (hx : 32768 ≤ x) : bits .xor .u16 (IntKind.u16.wrap ((x : Int) * 2)) 4129 = (Crc.turn1 x : Nat) := by
  rw [u16_dbl, Crc.turn1, if_pos hx]
  exact u16_xor _ 4129 (by omega) (by omega)
theorem turn_lo (x : Nat) (hx : ¬ 32768 ≤ x) : (x : Int) * 2 = (Crc.turn1 x : Nat) := by
  rw [Crc.turn1, if_neg hx]
  omega

set_option maxHeartbeats 1000000 in
theorem turned_any (s : Nat) (w : World) (hs : s < 65536) :
    Calls Tryd.prog 73 #[.int .u16 (s : Nat)] w fun r w' => r = .returned (.int .u16 (Crc.turned s : Nat)) ∧ w = w' := by
  go_enter Tryd.func73, Tryd.ntmps73
  go_wp2_with fail
  go_loopg [0, 3] 8 (fun gg s0 s3 wr => ∃ (kk x : Nat), kk ≤ 8 ∧ 8 - kk ≤ gg ∧ s0 = .int .u16 (x : Nat) ∧ s3 = .int .i64 kk ∧ x < 65536 ∧ w = wr ∧ Hid (Crc.turnN (8 - kk) x = Crc.turned s))
  case atStart => exact ⟨0, s, by omega, by omega, rfl, rfl, hs, rfl, by unfold Crc.turned; rfl⟩
  case round =>
    obtain ⟨kk, x, hkk, hg, rfl, rfl, hx, rfl, HT⟩ := hrel
    by_cases hlt : kk < 8
    · obtain ⟨j, hj⟩ : ∃ j, 8 - kk = j + 1 := ⟨7 - kk, by omega⟩
      have hj2 : 8 - (kk + 1) = j := by omega
      have HN := hid (And.intro hj hj2)
      clear hj hj2
      by_cases hhi : 32768 ≤ x
      · have ha : (bits .and .u16 (x : Int) 32768 != 0) = true := by rw [u16_and_hi x hx, if_pos hhi]; decide
        have HE := hid (turn_hi x hhi)
        go_wp2
        rw [HE.out]
        go_roundg (8 - (kk + 1))
        case measure => omega
        case rel => exact ⟨kk + 1, Crc.turn1 x, by omega, by omega, rfl, by go_num, Crc.turn1_lt hx, rfl, by rw [HN.out.2, ← HT.out, HN.out.1]; rfl⟩
      · have ha : (bits .and .u16 (x : Int) 32768 != 0) = false := by rw [u16_and_hi x hx, if_neg hhi]; decide
        have HE := hid (turn_lo x hhi)
        go_wp2
        rw [HE.out]
        go_roundg (8 - (kk + 1))
        case measure => omega
        case rel => exact ⟨kk + 1, Crc.turn1 x, by omega, by omega, rfl, by go_num, Crc.turn1_lt hx, rfl, by rw [HN.out.2, ← HT.out, HN.out.1]; rfl⟩
    · have e : kk = 8 := by omega
      subst e
      go_wp2
      go_ret
      exact ⟨by rw [← HT.out]; rfl, rfl⟩

/-- Bytes as values. -/
def byteVs (l : List UInt8) : List Value := l.map fun c => .int .u8 (c.toNat : Nat)
theorem byteVs_length (l : List UInt8) : (byteVs l).length = l.length := by simp [byteVs]
theorem byteVs_at {l : List UInt8} {k : Nat} (h : k < l.length) : (byteVs l)[k]? = some (.int .u8 (l[k].toNat : Nat)) := by simp [byteVs, h]
theorem byteVs_append (a b : List UInt8) : byteVs (a ++ b) = byteVs a ++ byteVs b := by simp [byteVs]
theorem byteVs_drop (a : List UInt8) (k : Nat) : (byteVs a).drop k = byteVs (a.drop k) := by simp [byteVs, List.map_drop]
theorem byteVs_take (a : List UInt8) (k : Nat) : (byteVs a).take k = byteVs (a.take k) := by simp [byteVs, List.map_take]
/-- A byte's cell. -/
theorem byte_cell {w : World} {A : Option Addr} {l : List UInt8} (h : Sees w A (byteVs l)) {k : Nat} (hk : k < l.length) : ∃ b off, A = some ⟨b, off, none⟩ ∧ w.cell? ⟨b, off + k, none⟩ = some (.int .u8 (l[k].toNat : Nat)) := by
  obtain ⟨b, off, e, _, hc⟩ := h.form (by rw [byteVs_length]; omega)
  exact ⟨b, off, e, hc k _ (byteVs_at hk)⟩
theorem step_form (s c : Nat) (hs : s < 65536) (hc : c < 256) : bits .xor .u16 (s : Int) ((c : Int) * 256) = ((s ^^^ (c * 256) : Nat) : Int) := by
  have := u16_xor s (c * 256) hs (by omega)
  rw [Int.natCast_mul] at this
  exact this

set_option maxHeartbeats 1000000 in
theorem crcAdd_any (s : Nat) (l : List UInt8) (A : Option Addr) (cap : Nat) (w : World) (hs : s < 65536) (hl : Sees w A (byteVs l)) (hlen : l.length ≤ 1000000000000000) :
    Calls Tryd.prog 69 #[.int .u16 (s : Nat), .slice A l.length cap] w fun r w' => r = .returned (.int .u16 (Crc.crc s l : Nat)) ∧ w = w' := by
  obtain ⟨n, hn⟩ : ∃ n, n = l.length := ⟨_, rfl⟩
  rw [← hn] at hlen ⊢
  have HN := hid hn
  have HL := hid hl
  clear hn hl
  go_enter Tryd.func69, Tryd.ntmps69
  go_wp2_with fail
  go_loopg [0, 9] n (fun gg s0 s9 wr => ∃ (kk x : Nat), kk ≤ n ∧ n - kk ≤ gg ∧ s0 = .int .u16 (x : Nat) ∧ s9 = .int .i64 kk ∧ x < 65536 ∧ w = wr ∧ Hid (x = Crc.crc s (l.take kk)))
  case atStart => exact ⟨0, s, by omega, by omega, rfl, rfl, hs, rfl, rfl⟩
  case round =>
    obtain ⟨kk, x, hkk, hg, rfl, rfl, hx, rfl, HT⟩ := hrel
    by_cases hlt : kk < n
    · have hkl : kk < l.length := by rw [← HN.out]; exact hlt
      obtain ⟨b, off, rfl, hc⟩ := byte_cell HL.out hkl
      have hst := Crc.crc_take_succ s l kk hkl
      have hb := Crc.byte_lt l[kk]
      generalize l[kk].toNat = c at hc hst hb
      have HS := hid hst
      have HF := hid (step_form x c hx hb)
      have CT := hid (fun W => turned_any (x ^^^ (c * 256)) W (Crc.xor16 hx (by omega)))
      clear hst
      go_wp2_with fail
      rw [HF.out]
      refine (CT.out _).mono ?_
      rintro r w' ⟨rfl, rfl⟩
      go_wp2
      go_roundg (n - (kk + 1))
      case measure => omega
      case rel =>
        refine ⟨kk + 1, Crc.turned (x ^^^ (c * 256)), by omega, by omega, rfl, by go_num, Crc.turned_lt (Crc.xor16 hx (by omega)), rfl, ?_⟩
        show _ = _
        rw [HS.out, ← HT.out]; rfl
    · have e : kk = n := by omega
      subst e
      clear hg hkk hlt
      go_wp2
      go_ret
      refine ⟨?_, rfl⟩
      have := HT.out
      rw [List.take_of_length_le (by rw [← HN.out]; exact Nat.le_refl _)] at this
      rw [← this]
      rfl
theorem crcSum_any (l : List UInt8) (A : Option Addr) (cap : Nat) (w : World) (hl : Sees w A (byteVs l)) (hlen : l.length ≤ 1000000000000000) :
    Calls Tryd.prog 59 #[.slice A l.length cap] w fun r w' => r = .returned (.int .u16 (Crc.sum l : Nat)) ∧ w = w' := by
  have C := hid (crcAdd_any 65535 l A cap w (by omega) hl hlen)
  clear hl
  go_enter Tryd.func59, Tryd.ntmps59
  go_wp2_with fail
  refine C.out.mono ?_
  rintro r w' ⟨rfl, rfl⟩
  go_wp2
  go_ret
  exact ⟨rfl, rfl⟩
end Go.Proofs.YtlijncmjcecppaaDoor
