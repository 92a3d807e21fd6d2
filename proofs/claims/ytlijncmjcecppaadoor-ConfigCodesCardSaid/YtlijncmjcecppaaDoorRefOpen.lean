/- crossbuckref02.Open by contract. -/
import Derived.Test.YtlijncmjcecppaaDoorRef03
namespace Go.Proofs.YtlijncmjcecppaaDoor
open Go.RowKit

theorem opened_split (l : List UInt8) (h2 : 2 ≤ l.length) : ∃ (p : List UInt8) (x y : UInt8), l = p ++ [x, y] ∧ p.length = l.length - 2 ∧ (Crc.sum l = 0 ↔ x.toNat = Crc.sum p / 256 ∧ y.toNat = Crc.sum p % 256) ∧ l.take (l.length - 2) = p := by
  have hd : l.drop (l.length - 2) = [l[l.length - 2]'(by omega), l[l.length - 1]'(by omega)] := by
    rw [List.drop_eq_getElem_cons (by omega), List.drop_eq_getElem_cons (by omega)]
    have e : l.length - 2 + 1 = l.length - 1 := by omega
    rw [List.drop_of_length_le (by omega)]
    simp [e]
  have e : l = l.take (l.length - 2) ++ [l[l.length - 2]'(by omega), l[l.length - 1]'(by omega)] := by
    rw [← hd, List.take_append_drop]
  refine ⟨_, _, _, e, by simp, ?_, rfl⟩
  conv => lhs; rw [e]
  exact Crc.crc_end (by omega) _ _ _

theorem refOpen_short (A : Option Addr) (n cap : Nat) (w : World) (h : n < 2) :
    Calls Tryd.prog 47 #[.slice A n cap] w fun r w' => r = .returned (.tuple #[.slice none 0 0, .bool false]) ∧ w = w' := by
  have h' : (n : Int) < 2 := by omega
  go_enter Tryd.func47, Tryd.ntmps47
  go_wp2
  go_ret2
  exact ⟨rfl, rfl⟩

set_option maxHeartbeats 1000000 in
theorem refOpen_bad (p : List UInt8) (x y : UInt8) (v : Value) (w : World) (hl : Byts w v (p ++ [x, y])) (hlen : p.length ≤ 10000000000000) (hs : ¬ (x.toNat = Crc.sum p / 256 ∧ y.toNat = Crc.sum p % 256)) :
    Calls Tryd.prog 47 #[v] w fun r w' => r = .returned (.tuple #[.slice none 0 0, .bool false]) ∧ w = w' := by
  have hl' := hl
  obtain ⟨A, cap, rfl, hsee, hc, hn⟩ := hl'
  have elen : (p ++ [x, y]).length = p.length + 2 := by simp
  have ht := hl.take p.length (by omega)
  rw [List.take_left] at ht
  obtain ⟨A', cap', e, hsee', _⟩ := ht
  injection e with e1 _ e3
  subst e1 e3
  have HS := hid (refSum_any p A cap w hsee' (by omega))
  obtain ⟨b, off, rfl, hc1⟩ := byte_cell hsee (k := p.length) (by omega)
  obtain ⟨b', off', e, hc2⟩ := byte_cell hsee (k := p.length + 1) (by omega)
  injection e with e
  injection e with e1 e2
  subst e1 e2
  have g1 : (p ++ [x, y])[p.length]'(by omega) = x := by simp
  have g2 : (p ++ [x, y])[p.length + 1]'(by omega) = y := by simp
  rw [g1] at hc1
  rw [g2] at hc2
  have hsum := Crc.sum_lt p
  have hx := Crc.byte_lt x
  have hy := Crc.byte_lt y
  rw [elen] at hc ⊢
  clear hsee hsee' hl hn g1 g2 elen
  generalize Crc.sum p = s at HS hs hsum
  generalize x.toNat = xn at hc1 hs hx
  generalize y.toNat = yn at hc2 hs hy
  generalize p.length = n at *
  have hneg : ¬ ((n : Int) < 0) := by omega
  have hor : (((xn : Int) != (s : Int) / 256) = true) ∨ (((xn : Int) != (s : Int) / 256) = false ∧ ((yn : Int) != (s : Int) % 256) = true) := by
    simp only [bne_iff_ne, bne_eq_false_iff_eq]
    omega
  clear hs
  rcases hor with h1 | ⟨h1, h2⟩
  all_goals
    go_enter Tryd.func47, Tryd.ntmps47
    go_wp2_with fail
    refine HS.out.mono ?_
    rintro r w' ⟨rfl, rfl⟩
    go_wp2
    go_ret2
    exact ⟨rfl, rfl⟩

set_option maxHeartbeats 1000000 in
theorem refOpen_ok (p : List UInt8) (x y : UInt8) (v : Value) (w : World) (hl : Byts w v (p ++ [x, y])) (hlen : p.length ≤ 10000000000000) (hs : x.toNat = Crc.sum p / 256 ∧ y.toNat = Crc.sum p % 256) :
    Calls Tryd.prog 47 #[v] w fun r w' => ∃ v', r = .returned (.tuple #[v', .bool true]) ∧ Out w w' 5 1 v' p.length (byteVs p) := by
  have hl' := hl
  obtain ⟨A, cap, rfl, hsee, hc, hn⟩ := hl'
  have elen : (p ++ [x, y]).length = p.length + 2 := by simp
  have ht := hl.take p.length (by omega)
  rw [List.take_left] at ht
  have HT := hid ht
  obtain ⟨A', cap', e, hsee', _⟩ := ht
  injection e with e1 _ e3
  subst e1 e3
  have HS := hid (refSum_any p A cap w hsee' (by omega))
  obtain ⟨b, off, rfl, hc1⟩ := byte_cell hsee (k := p.length) (by omega)
  obtain ⟨b', off', e, hc2⟩ := byte_cell hsee (k := p.length + 1) (by omega)
  injection e with e
  injection e with e1 e2
  subst e1 e2
  have g1 : (p ++ [x, y])[p.length]'(by omega) = x := by simp
  have g2 : (p ++ [x, y])[p.length + 1]'(by omega) = y := by simp
  rw [g1] at hc1
  rw [g2] at hc2
  have hsum := Crc.sum_lt p
  have hx := Crc.byte_lt x
  have hy := Crc.byte_lt y
  rw [elen] at hc ⊢
  clear hsee hsee' hl hn g1 g2 elen
  generalize Crc.sum p = s at HS hs hsum
  generalize x.toNat = xn at hc1 hs hx
  generalize y.toNat = yn at hc2 hs hy
  generalize p.length = n at *
  have hneg : ¬ ((n : Int) < 0) := by omega
  have h1 : ((xn : Int) != (s : Int) / 256) = false := by
    simp only [bne_eq_false_iff_eq]
    omega
  have h2 : ((yn : Int) != (s : Int) % 256) = false := by
    simp only [bne_eq_false_iff_eq]
    omega
  clear hs
  go_enter Tryd.func47, Tryd.ntmps47
  go_wp2_with fail
  refine HS.out.mono ?_
  rintro r w' ⟨rfl, rfl⟩
  have HF := hid (Out.fresh (Below.refl w.heap.size w) #[] 5 1 0 rfl (by omega))
  have HLa := hid (HT.out.alloc (.cells #[] 5))
  go_wp2_with (at_builtin; refine wp_appByts rfl (.tmp 34) (.tmp 37) rfl HF _ n cap p HLa rfl rfl (by simp) (by omega) ?_)
  intro A1 cap1 w1 H1 _
  clear HF HLa HT
  go_wp2
  go_ret2
  refine ⟨_, rfl, ?_⟩
  have := H1.out
  simpa using this

theorem refOpen_none (v : Value) (b : List UInt8) (w : World) (h : Byts w v b) (hlen : b.length ≤ 10000000000000) (ho : Crc.opened b = none) :
    Calls Tryd.prog 47 #[v] w fun r w' => r = .returned (.tuple #[.slice none 0 0, .bool false]) ∧ w = w' := by
  unfold Crc.opened at ho
  split at ho
  · rename_i hx
    by_cases h2 : b.length < 2
    · obtain ⟨A, cap, rfl, _⟩ := h
      exact refOpen_short A _ cap w h2
    · obtain ⟨p, x, y, e, e2, hs, _⟩ := opened_split b (by omega)
      subst e
      exact refOpen_bad p x y v w h (by simp at hlen; omega) (fun k => by rcases hx with hx | hx; omega; exact hx (hs.2 k))
  · cases ho
theorem refOpen_some (v : Value) (b x : List UInt8) (w : World) (h : Byts w v b) (hlen : b.length ≤ 10000000000000) (ho : Crc.opened b = some x) :
    Calls Tryd.prog 47 #[v] w fun r w' => ∃ v', r = .returned (.tuple #[v', .bool true]) ∧ Out w w' 5 1 v' x.length (byteVs x) := by
  unfold Crc.opened at ho
  split at ho
  · cases ho
  · rename_i hx
    injection ho with ho
    have h2 : 2 ≤ b.length := by omega
    have h0 : Crc.sum b = 0 := by
      rcases Nat.eq_zero_or_pos (Crc.sum b) with h | h
      · exact h
      · exact absurd (Or.inr (by omega)) hx
    obtain ⟨p, a, c, e, e2, hs, hp⟩ := opened_split b h2
    rw [hp] at ho
    subst ho
    have hb := hs.1 h0
    rw [e] at h hlen
    exact refOpen_ok p a c v w h (by simp at hlen; omega) hb
end Go.Proofs.YtlijncmjcecppaaDoor
