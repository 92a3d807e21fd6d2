/- Bytes that came in as data: their cells. -/
import Derived.Test.YtlijncmjcecppaaDoorRowKit
import Derived.Test.YtlijncmjcecppaaDoorOctet
namespace Go.Proofs.YtlijncmjcecppaaDoor
open Go.ChangeShapes Go.WideShapes Go.RowKit
set_option maxRecDepth 100000

theorem o_cellsU8 : Tryd.prog.cellsOf 5 = 1 := by kernel_rfl
theorem bounds_u8 {n : Int} (h : (Lit.int .u8 n).wf = true) : 0 ≤ n ∧ n < 256 := by
  simp [Lit.wf, IntKind.min, IntKind.max, IntKind.signed, IntKind.bits] at h
  omega
section
variable {H : Type} {enc : TypeId × Value → H} {w : World} {base : Nat} {spare : Nat → Bool} {held : Bool} {fuel : Nat}
theorem o_u8 {cs : List Value} {x : DataW H × List MemPlace} (h : DataW.trod enc Tryd.prog w base spare held fuel 5 cs = some x) : ∃ c : UInt8, cs = [.int .u8 (c.toNat : Nat)] := by
  obtain ⟨n, rfl, _, hw⟩ := DataW.trod_int Tryd.underlying5 h
  obtain ⟨h0, h1⟩ := bounds_u8 hw
  refine ⟨UInt8.ofNat n.toNat, ?_⟩
  rw [Crc.toNat_ofNat]
  congr 2
  omega
theorem o_bytes {cs : List Value} {x : DataW H × List MemPlace} (h : DataW.trod enc Tryd.prog w base spare held fuel 42 cs = some x) : ∃ v l, cs = [v] ∧ Byts w v l := by
  rcases DataW.trod_slice Tryd.underlying42 h with ⟨rfl, _⟩ | ⟨a, len, cap, elems, rest, n, _, rfl, _, _, hlc, _, hlen, hel, _⟩
  · exact ⟨_, [], rfl, Byts.nil _⟩
  · have key : ∀ m, m ≤ len → ∃ l : List UInt8, l.length = m ∧ Sees w (some a) (byteVs l) := by
      intro m
      induction m with
      | zero => intro _; exact ⟨[], rfl, Sees.nil _ _⟩
      | succ m ih =>
        intro hm
        obtain ⟨l, hl, hs⟩ := ih (by omega)
        have h1 := hel m (by omega)
        rw [List.getElem?_eq_getElem (by omega)] at h1
        obtain ⟨cs', hc, ht⟩ := Option.bind_eq_some_iff.1 h1
        rw [o_cellsU8] at hc
        obtain ⟨_, _, hat⟩ := World.cells?_some hc
        obtain ⟨c, rfl⟩ := o_u8 ht
        refine ⟨l ++ [c], by simp [hl], ?_⟩
        intro j v hv
        refine ⟨a, rfl, ?_⟩
        rw [byteVs_append] at hv
        by_cases hj : j < (byteVs l).length
        · rw [List.getElem?_append_left hj] at hv
          obtain ⟨a', ea, hc'⟩ := hs j v hv
          injection ea with ea
          rw [ea]; exact hc'
        · rw [List.getElem?_append_right (by omega)] at hv
          rw [byteVs_length, hl] at hv hj
          have hj1 : j - m < 1 := by
            have := (List.getElem?_eq_some_iff.1 hv).1
            exact this
          have ej : j = m := by omega
          subst ej
          have := hat 0 (by omega)
          rw [add_twice] at this
          rw [Nat.mul_one, Nat.add_zero] at this
          rw [Nat.sub_self] at hv
          exact this.trans hv
    obtain ⟨l, hl, hs⟩ := key len (Nat.le_refl _)
    exact ⟨_, l, rfl, some a, cap, by rw [hl], hs, by omega, fun e => by cases e⟩
end
theorem open_bytes {H : Type} {enc : TypeId × Value → H} {W : World} {r : Reach} {base b0 : Nat} {spare : Nat → Bool} {held : Bool} {v : Value} {d : DataW H} {p : List MemPlace} (hv : Value.okWide Tryd.prog W r b0 42 v) (h : DataW.Trod enc Tryd.prog W base spare held 42 v d p) :
    ∃ l : List UInt8, Byts W v l := by
  obtain ⟨a, len, cap, rfl⟩ := okWide_slice Tryd.underlying42 hv
  obtain ⟨fuel, hf⟩ := h
  obtain ⟨v', l, e, hb⟩ := o_bytes hf
  have e' : [Value.slice a len cap] = [v'] := e
  injection e' with e' _
  subst e'
  exact ⟨l, hb⟩
end Go.Proofs.YtlijncmjcecppaaDoor
