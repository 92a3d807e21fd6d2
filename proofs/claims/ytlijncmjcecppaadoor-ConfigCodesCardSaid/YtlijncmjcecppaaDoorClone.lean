/- slices.Clone of bytes by contract. -/
import Derived.Test.YtlijncmjcecppaaDoorCrc
namespace Go.Proofs.YtlijncmjcecppaaDoor
open Go.RowKit

theorem infoByte : (Tryd.prog.info? 5).map (fun i => (i.zero, i.size, i.bytes)) = some (some (.int .u8 0), 1, 1) := by kernel_rfl
theorem bytes_oneCell (l : List UInt8) : ∀ u ∈ byteVs l, u.oneCell' = true := by
  intro u hu
  simp only [byteVs, List.mem_map] at hu
  obtain ⟨c, _, rfl⟩ := hu
  rfl
theorem clone_nil (w : World) : Calls Tryd.prog 60 #[.slice none 0 0] w fun r w' => r = .returned (.slice none 0 0) ∧ w = w' := by
  have hq := fun (W : World) => Lib.run_eql_slice_nil (P := Tryd.prog) W 42 5 none 0 0 0 0 Tryd.underlying42
  go_enter Tryd.func60, Tryd.ntmps60
  go_wp2
  go_ret
  exact ⟨rfl, rfl⟩
theorem Sees.some {w : World} {a : Addr} {vs : List Value} (h : Sees w (Option.some a) vs) : ∀ j u, vs[j]? = Option.some u → w.cell? (a.add j) = Option.some u := by
  intro j u hu
  obtain ⟨a', e, hc⟩ := h j u hu
  have e' : a = a' := Option.some.inj e
  rw [e']; exact hc
set_option maxHeartbeats 1000000 in
theorem clone_some (a : Addr) (l : List UInt8) (cap : Nat) (w : World) (hl : Sees w (some a) (byteVs l)) (hlen : l.length ≤ 100000000000000) :
    Calls Tryd.prog 60 #[.slice (some a) l.length cap] w fun r w' => ∃ v, r = .returned v ∧ w'.ownsRow w.heap.size 5 1 v l.length (byteVs l) ∧ v ≠ .slice none 0 0 ∧ Below w.heap.size w w' := by
  obtain ⟨i0, hi, hz0, hz1, hz2⟩ := info_parts infoByte
  have hq := fun (W : World) => Lib.run_eql_slice_nil (P := Tryd.prog) W 42 5 (some a) l.length cap 0 0 Tryd.underlying42
  obtain ⟨n, hn⟩ : ∃ n, n = l.length := ⟨_, rfl⟩
  rw [← hn] at hlen hq ⊢
  have ho := World.ownsRow_made (base := w.heap.size) (e := 5) (size := 1) w #[] 0 (Nat.le_refl _) (by unfold maxLen; omega) rfl
  have HO := hid ho
  have HL := hid (hl.alloc (.cells #[] 5))
  have HN := hid hn
  clear ho hl hn
  go_enter Tryd.func60, Tryd.ntmps60
  go_wp2_with (at_builtin; refine wpList_append_own_at _ rfl (.tmp 5) (.tmp 6) 42 rfl w.heap.size 5 i0 _ 1 1 Tryd.underlying42 hi hz0 hz1 hz2 rfl (by decide) _ _ _ rfl HO.out a n cap (byteVs l) rfl ?c0 HL.out.some (bytes_oneCell l) ?c3 ?c4 ?c5 ?_)
  case c0 => rw [byteVs_length, HN.out]; omega
  case c3 => unfold maxLen; omega
  case c4 => omega
  case c5 => simp
  intro v' w1 hown' hgrow hnil hat
  have hb : Below w.heap.size w w1 := ((Below.refl _ _).alloc (Nat.le_refl _) _).grown hgrow (by simp) (fun k hk => (HO.out.lt k hk).1)
  have hne : v' ≠ .slice none 0 0 := hnil
  obtain ⟨A', cap', hv, _⟩ := own_form hown'
  subst hv
  have HR := hid (And.intro hown' (And.intro hne hb))
  clear hown' hgrow hnil hat hb hne
  go_wp2
  go_ret
  refine ⟨_, rfl, ?_, HR.out.2.1, HR.out.2.2⟩
  have := HR.out.1
  simpa using this
end Go.Proofs.YtlijncmjcecppaaDoor
