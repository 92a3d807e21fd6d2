/- crc.Seal and crc.Open by contract. -/
import Derived.Test.YtlijncmjcecppaaDoorClone
namespace Go.Proofs.YtlijncmjcecppaaDoor
open Go.RowKit

set_option maxHeartbeats 1000000 in
theorem crcSeal_any (l : List UInt8) (A : Option Addr) (cap : Nat) (w : World) (hl : Sees w A (byteVs l)) (hA : A ≠ none) (hlen : l.length ≤ 100000000000000) :
    Calls Tryd.prog 38 #[.slice A l.length cap] w fun r w' => ∃ v, r = .returned v ∧ w'.ownsRow w.heap.size 5 1 v (l.length + 2) (byteVs (Crc.sealed l)) ∧ Below w.heap.size w w' := by
  obtain ⟨i0, hi, hz0, hz1, hz2⟩ := info_parts infoByte
  obtain ⟨a, rfl⟩ : ∃ a, A = some a := by cases A with | none => exact absurd rfl hA | some a => exact ⟨a, rfl⟩
  have HS := hid (crcSum_any l (some a) cap w hl (by omega))
  have hsum := Crc.sum_lt l
  obtain ⟨s, hs⟩ : ∃ s, s = Crc.sum l := ⟨_, rfl⟩
  rw [← hs] at HS hsum
  obtain ⟨n, hn⟩ : ∃ n, n = l.length := ⟨_, rfl⟩
  rw [← hn] at hlen HS ⊢
  have HN := hid (And.intro hn hs)
  have HL := hid hl
  clear hl hn hs hA
  go_enter Tryd.func38, Tryd.ntmps38
  go_wp2_with fail
  refine HS.out.mono ?_
  rintro r w' ⟨rfl, rfl⟩
  go_wp2_with (at_make; refine wpList_make_own _ rfl _ _ 42 rfl w.heap.size 5 i0 _ 1 Tryd.underlying42 hi hz0 hz1 _ _ _ (n + 2) rfl rfl (by omega) ?b1 ?b2 ?b3 ?_)
  case b1 => rw [hz2]; omega
  case b2 => unfold maxLen; omega
  case b3 => exact Nat.le_refl _
  intro w1 hown hgrow
  have hb1 : Below w.heap.size w w1 := (Below.refl _ _).grown hgrow (Nat.le_refl _) (fun k hk => by cases hk)
  have hsee := HL.out.below hb1
  have HO := hid (And.intro hown (And.intro hb1 hsee))
  clear hown hgrow hb1 hsee
  go_wp2_with (at_builtin; refine wpList_append_own_at _ rfl (.tmp 11) (.tmp 12) 42 rfl w.heap.size 5 i0 _ 1 1 Tryd.underlying42 hi hz0 hz1 hz2 rfl (by decide) _ _ _ rfl HO.out.1 a n cap (byteVs l) rfl ?c0 HO.out.2.2.some (bytes_oneCell l) ?c3 ?c4 ?c5 ?_)
  case c0 => rw [byteVs_length, HN.out.1]; omega
  case c3 => unfold maxLen; omega
  case c4 => omega
  case c5 => have := HO.out.2.1.size; omega
  intro v2 w2 hown2 hgrow2 _ _
  have hb2 := HO.out.2.1.grown hgrow2 HO.out.2.1.size (fun k hk => (HO.out.1.lt k hk).1)
  obtain ⟨A2, cap2, hv, _⟩ := own_form hown2
  subst hv
  have HP := hid (And.intro hown2 hb2)
  clear hown2 hgrow2 hb2 HO
  go_wp2_with (at_builtin; refine wpList_append_own_at _ rfl (.tmp 14) (.tmp 20) 42 rfl w.heap.size 5 i0 _ 1 1 Tryd.underlying42 hi hz0 hz1 hz2 rfl (by decide) _ _ _ rfl (HP.out.1.alloc _) ⟨w2.heap.size, 0, none⟩ 2 2 _ rfl ?c0 (cells_new _ _ _) ?c2 ?c3 ?c4 ?c5 ?_)
  case c2 => exact ⟨rfl, rfl⟩
  case c3 => unfold maxLen; omega
  case c4 => omega
  case c5 => have := HP.out.2.size; simp; omega
  intro v3 w3 hown3 hgrow3 _ _
  have hb3 := (HP.out.2.alloc HP.out.2.size (.cells #[.int .u8 ((s : Int) / 256), .int .u8 ((s : Int) % 256)] 5)).grown hgrow3 (by have := HP.out.2.size; simp; omega) (fun k hk => (HP.out.1.lt k hk).1)
  obtain ⟨A3, cap3, hv, _⟩ := own_form hown3
  subst hv
  have HR := hid (And.intro hown3 hb3)
  clear hown3 hgrow3 hb3 HP
  go_wp2
  go_ret
  refine ⟨_, rfl, ?_, HR.out.2⟩
  have e : byteVs (Crc.sealed l) = byteVs l ++ [.int .u8 ((s : Int) / 256), .int .u8 ((s : Int) % 256)] := by
    have h1 : ((UInt8.ofNat (Crc.sum l / 256)).toNat : Int) = (s : Int) / 256 := by rw [Crc.toNat_ofNat, ← HN.out.2]; omega
    have h2 : ((UInt8.ofNat (Crc.sum l)).toNat : Int) = (s : Int) % 256 := by rw [Crc.toNat_ofNat, ← HN.out.2]; omega
    rw [Crc.sealed, byteVs_append]
    simp only [byteVs, List.map_cons, List.map_nil, h1, h2]
  rw [e]
  exact HR.out.1
end Go.Proofs.YtlijncmjcecppaaDoor
