/- Bytes as strings; bytes.Equal, HasPrefix, CutPrefix by contracts. -/
import Derived.Test.YtlijncmjcecppaaDoorOctet
import Derived.Laws.IdiomStrings
import Derived.Laws.BytesArg
namespace Go.Proofs.YtlijncmjcecppaaDoor
open Go.RowKit

/-- A string of bytes. -/
def bsOf (l : List UInt8) : ByteArray := ⟨l.toArray⟩
@[go_sem] theorem bsOf_toList (l : List UInt8) : (bsOf l).toList = l := by rw [ByteArray.toList_eq]; rfl
theorem conv_byts {v : Value} {l : List UInt8} {w : World} (h : Byts w v l) : (convert 42 9 v).run Tryd.prog w = .ok (.string (bsOf l)) w := by
  obtain ⟨A, cap, rfl, hs, hc, hn⟩ := h
  cases A with
  | none =>
    have h0 := hn rfl
    subst h0
    have : l = [] := List.length_eq_zero_iff.1 (by omega)
    subst this
    exact run_convert_bytes_nil w 42 5 Tryd.underlying42 Tryd.underlying5 0 0 9 Tryd.underlying9
  | some a =>
    exact run_convert_bytes_back w 42 9 5 a cap l Tryd.underlying42 Tryd.underlying5 Tryd.underlying9 (fun j hj => hs.some j _ (byteVs_at hj))
theorem equal_any (va vb : Value) (a b : List UInt8) (w : World) (ha : Byts w va a) (hb : Byts w vb b) :
    Calls Tryd.prog 70 #[va, vb] w fun r w' => r = .returned (.bool (a == b)) ∧ w = w' := by
  have ca := conv_byts ha
  have cb := conv_byts hb
  clear ha hb
  go_enter Tryd.func70, Tryd.ntmps70
  go_wp2
  go_ret
  exact ⟨rfl, rfl⟩

theorem Byts.take {w : World} {A : Option Addr} {cap : Nat} {l : List UInt8} (h : Byts w (.slice A l.length cap) l) (k : Nat) (hk : k ≤ l.length) : Byts w (.slice A k cap) (l.take k) := by
  obtain ⟨A', cap', e, hs, hc, hn⟩ := h
  injection e with e1 e2 e3
  subst e1 e3
  refine ⟨A, cap, by rw [List.length_take, Nat.min_eq_left hk], ?_, by rw [List.length_take]; omega, hn⟩
  rw [← byteVs_take]
  exact hs.take k

/-- bytes.HasPrefix. -/
theorem hasPrefix_any (va vb : Value) (a b : List UInt8) (w : World) (ha : Byts w va a) (hb : Byts w vb b) :
    Calls Tryd.prog 61 #[va, vb] w fun r w' => r = .returned (.bool (a.take b.length == b)) ∧ w = w' := by
  have ha' := ha
  have hb' := hb
  obtain ⟨A, cap, rfl, _, hc, _⟩ := ha'
  obtain ⟨B, capb, rfl, _, hcb, _⟩ := hb'
  by_cases h : b.length ≤ a.length
  · have HC := hid (equal_any _ _ _ _ w (ha.take b.length h) hb)
    have hge : (b.length : Int) ≤ (a.length : Int) := by omega
    generalize (a.take b.length == b) = q at HC ⊢
    generalize a.length = n at *
    generalize b.length = m at *
    have hmc : m ≤ cap := by omega
    clear ha hb
    go_enter Tryd.func61, Tryd.ntmps61
    go_wp2_with fail
    refine HC.out.mono ?_
    rintro r w' ⟨rfl, rfl⟩
    go_wp2
    go_ret
    exact ⟨rfl, rfl⟩
  · have e : (a.take b.length == b) = false := by
      apply beq_eq_false_iff_ne.2
      intro hx
      have := congrArg List.length hx
      rw [List.length_take] at this
      omega
    rw [e]
    have hge : decide ((b.length : Int) ≤ (a.length : Int)) = false := by simp; omega
    generalize a.length = n at *
    generalize b.length = m at *
    clear ha hb e
    go_enter Tryd.func61, Tryd.ntmps61
    go_wp2
    go_ret
    exact ⟨rfl, rfl⟩

/-- bytes.CutPrefix, where the prefix is there, and shorter than all. -/
theorem cutPrefix_ok (va vb : Value) (a b : List UInt8) (w : World) (ha : Byts w va (b ++ a)) (hb : Byts w vb b) (hlen : (b ++ a).length ≤ 1000000000000000) :
    Calls Tryd.prog 43 #[va, vb] w fun r w' => ∃ v', r = .returned (.tuple #[v', .bool true]) ∧ Byts w v' a ∧ w = w' := by
  have HC := hid (hasPrefix_any va vb _ _ w ha hb)
  rw [show ((b ++ a).take b.length == b) = true by simp] at HC
  obtain ⟨A, cap, rfl, hs, hc, hn⟩ := ha
  obtain ⟨B, capb, rfl, _, hcb, _⟩ := hb
  have hlen' : (b ++ a).length = b.length + a.length := by simp
  have hd := hs.drop b.length
  rw [byteVs_drop, List.drop_left] at hd
  rw [hlen'] at HC hc hlen ⊢
  have HD := hid (And.intro hd hn)
  obtain ⟨n, hnn⟩ : ∃ n, n = a.length := ⟨_, rfl⟩
  rw [← hnn] at HC hc hlen ⊢
  have HN := hid hnn
  obtain ⟨m, hmm⟩ : ∃ n, n = b.length := ⟨_, rfl⟩
  rw [← hmm] at HC hc hlen hcb HD ⊢
  clear hd hn hnn hs hlen' hmm
  go_enter Tryd.func43, Tryd.ntmps43
  go_wp2_with fail
  refine HC.out.mono ?_
  rintro r w' ⟨rfl, rfl⟩
  go_wp2_with fail
  · have hcap : cap = m := by assumption
    subst hcap
    have hn0 : n = 0 := by omega
    subst hn0
    have ha : a = [] := List.length_eq_zero_iff.1 HN.out.symm
    subst ha
    go_ret2
    exact ⟨_, rfl, ⟨A, 0, rfl, Sees.nil _ _, by simp, fun _ => rfl⟩, rfl⟩
  · have hcap : ¬ cap = m := by assumption
    go_ret2
    refine ⟨_, rfl, ⟨Option.map (fun x => x.add m) A, cap - m, by rw [HN.out]; rfl, HD.out.1, ?_, ?_⟩, rfl⟩
    · rw [← HN.out]; omega
    · intro e
      cases A with
      | none => rw [HD.out.2 rfl]; omega
      | some a => cases e
theorem cutPrefix_no (va vb : Value) (a b : List UInt8) (w : World) (ha : Byts w va a) (hb : Byts w vb b) (hne : a.take b.length ≠ b) :
    Calls Tryd.prog 43 #[va, vb] w fun r w' => r = .returned (.tuple #[va, .bool false]) ∧ w = w' := by
  have HC := hid (hasPrefix_any va vb _ _ w ha hb)
  rw [show (a.take b.length == b) = false from beq_eq_false_iff_ne.2 hne] at HC
  clear ha hb hne
  go_enter Tryd.func43, Tryd.ntmps43
  go_wp2_with fail
  refine HC.out.mono ?_
  rintro r w' ⟨rfl, rfl⟩
  go_wp2
  go_ret2
  exact ⟨rfl, rfl⟩
end Go.Proofs.YtlijncmjcecppaaDoor
