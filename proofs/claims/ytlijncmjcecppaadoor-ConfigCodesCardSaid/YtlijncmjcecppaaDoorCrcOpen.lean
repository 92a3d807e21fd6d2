/- crc.Open by contract. -/
import Derived.Test.YtlijncmjcecppaaDoorSeal
namespace Go.Proofs.YtlijncmjcecppaaDoor
open Go.RowKit

theorem crcOpen_short (A : Option Addr) (n cap : Nat) (w : World) (h : n < 2) :
    Calls Tryd.prog 41 #[.slice A n cap] w fun r w' => r = .returned (.tuple #[.slice none 0 0, .bool false]) ∧ w = w' := by
  have h' : (n : Int) < 2 := by omega
  go_enter Tryd.func41, Tryd.ntmps41
  go_wp2
  go_ret2
  exact ⟨rfl, rfl⟩
theorem crcOpen_bad (l : List UInt8) (A : Option Addr) (cap : Nat) (w : World) (hl : Sees w A (byteVs l)) (hlen : l.length ≤ 100000000000000) (h2 : 2 ≤ l.length) (hs : Crc.sum l ≠ 0) :
    Calls Tryd.prog 41 #[.slice A l.length cap] w fun r w' => r = .returned (.tuple #[.slice none 0 0, .bool false]) ∧ w = w' := by
  have HS := hid (crcSum_any l A cap w hl (by omega))
  have hne : (((Crc.sum l : Nat) : Int) != 0) = true := by rw [bne_iff_ne]; omega
  generalize Crc.sum l = s at HS hne
  generalize l.length = n at *
  have h' : ¬ (n : Int) < 2 := by omega
  clear hl hs
  go_enter Tryd.func41, Tryd.ntmps41
  go_wp2_with (go_at_call 59; refine HS.out.mono ?_; rintro r w' ⟨rfl, rfl⟩)
  go_ret2
  exact ⟨rfl, rfl⟩
theorem crcOpen_ok (l : List UInt8) (a : Addr) (cap : Nat) (w : World) (hl : Sees w (some a) (byteVs l)) (hcap : l.length ≤ cap) (hlen : l.length ≤ 100000000000000) (h2 : 2 ≤ l.length) (hs : Crc.sum l = 0) :
    Calls Tryd.prog 41 #[.slice (some a) l.length cap] w fun r w' => ∃ v, r = .returned (.tuple #[v, .bool true]) ∧
      w'.ownsRow w.heap.size 5 1 v (l.length - 2) (byteVs (l.take (l.length - 2))) ∧ v ≠ .slice none 0 0 ∧ Below w.heap.size w w' := by
  have HS := hid (crcSum_any l (some a) cap w hl (by omega))
  rw [hs] at HS
  have hc := clone_some a (l.take (l.length - 2)) cap w (by rw [← byteVs_take]; exact hl.take _) (by simp; omega)
  have e : (l.take (l.length - 2)).length = l.length - 2 := by simp
  rw [e] at hc
  have HC := hid hc
  generalize byteVs (l.take (l.length - 2)) = vs at HC ⊢
  obtain ⟨n, hn⟩ : ∃ n, l.length = n + 2 := ⟨l.length - 2, by omega⟩
  have e2 : n + 2 - 2 = n := by omega
  rw [hn, e2] at HC
  rw [hn] at HS hcap hlen
  rw [hn, e2]
  have h' : ¬ ((n + 2 : Nat) : Int) < 2 := by omega
  clear hl hs hc e hn e2 h2
  go_enter Tryd.func41, Tryd.ntmps41
  go_wp2_with (first | (go_at_call 59; refine HS.out.mono ?_; rintro r w' ⟨rfl, rfl⟩) | (go_at_call 60; refine HC.out.mono ?_; rintro r w' ⟨v, rfl, ho, hne, hb⟩))
  go_ret2
  exact ⟨v, rfl, ho, hne, hb⟩
end Go.Proofs.YtlijncmjcecppaaDoor
