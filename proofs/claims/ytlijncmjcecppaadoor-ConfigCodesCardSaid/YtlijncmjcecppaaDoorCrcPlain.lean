/- Sums of sixteen bits, in plain Lean: how a sum is turned, that turning is one to one, that sealed bytes have the sum 0 and only these, and that a turned byte turns the sum. -/
namespace Go.Proofs.YtlijncmjcecppaaDoor
namespace Crc

def turn1 (s : Nat) : Nat := if 32768 ≤ s then (2 * s % 65536) ^^^ 4129 else 2 * s
def turnN : Nat → Nat → Nat
  | 0, s => s
  | k + 1, s => turnN k (turn1 s)
def turned (s : Nat) : Nat := turnN 8 s
def step (s c : Nat) : Nat := turned (s ^^^ (c * 256))
def crc (s : Nat) (l : List UInt8) : Nat := l.foldl (fun s c => step s c.toNat) s
def sum (l : List UInt8) : Nat := crc 65535 l
def sealed (l : List UInt8) : List UInt8 := l ++ [UInt8.ofNat (sum l / 256), UInt8.ofNat (sum l)]
def opened (l : List UInt8) : Option (List UInt8) := if l.length < 2 ∨ sum l ≠ 0 then none else some (l.take (l.length - 2))

theorem turn1_lt {s : Nat} (h : s < 65536) : turn1 s < 65536 := by
  unfold turn1
  split
  · exact Nat.xor_lt_two_pow (n := 16) (by omega) (by omega)
  · omega
theorem turnN_lt (k : Nat) : ∀ {s : Nat}, s < 65536 → turnN k s < 65536 := by
  induction k with
  | zero => intro s h; exact h
  | succ k ih => intro s h; exact ih (turn1_lt h)
theorem turnN_succ (k : Nat) : ∀ s, turnN (k + 1) s = turn1 (turnN k s) := by
  induction k with
  | zero => intro s; rfl
  | succ k ih => intro s; show turnN (k + 1) (turn1 s) = _; rw [ih]; rfl
theorem turned_lt {s : Nat} (h : s < 65536) : turned s < 65536 := turnN_lt 8 h
theorem parity_high (s : Nat) : ((2 * s % 65536) ^^^ 4129) % 2 = 1 := by
  have h := Nat.testBit_xor (2 * s % 65536) 4129 0
  rw [Nat.testBit_zero, Nat.testBit_zero] at h
  have h0 : (2 * s % 65536) % 2 = 0 := by omega
  rw [h0] at h
  have h1 : Nat.testBit 4129 0 = true := by decide
  rw [h1] at h
  exact of_decide_eq_true (h.trans rfl)
theorem xor_cancel {a b c : Nat} (h : a ^^^ c = b ^^^ c) : a = b := by
  have h' := congrArg (· ^^^ c) h
  simpa [Nat.xor_assoc, Nat.xor_self] using h'
theorem xor16 {a b : Nat} (ha : a < 65536) (hb : b < 65536) : a ^^^ b < 65536 := Nat.xor_lt_two_pow (n := 16) ha hb
theorem turn1_inj {s t : Nat} (hs : s < 65536) (ht : t < 65536) (h : turn1 s = turn1 t) : s = t := by
  unfold turn1 at h
  by_cases h1 : 32768 ≤ s <;> by_cases h2 : 32768 ≤ t
  · rw [if_pos h1, if_pos h2] at h
    have := xor_cancel h
    omega
  · rw [if_pos h1, if_neg h2] at h
    have := parity_high s
    omega
  · rw [if_neg h1, if_pos h2] at h
    have := parity_high t
    omega
  · rw [if_neg h1, if_neg h2] at h
    omega
theorem turnN_inj (k : Nat) : ∀ {s t : Nat}, s < 65536 → t < 65536 → turnN k s = turnN k t → s = t := by
  induction k with
  | zero => intro s t _ _ h; exact h
  | succ k ih => intro s t hs ht h; exact turn1_inj hs ht (ih (turn1_lt hs) (turn1_lt ht) h)
theorem turned_inj {s t : Nat} (hs : s < 65536) (ht : t < 65536) (h : turned s = turned t) : s = t := turnN_inj 8 hs ht h
theorem turnN_small (k : Nat) : ∀ {s : Nat}, s * 2 ^ k < 65536 → turnN k s = s * 2 ^ k := by
  induction k with
  | zero => intro s _; simp [turnN]
  | succ k ih =>
    intro s h
    have hp : 0 < 2 ^ k := Nat.two_pow_pos k
    have h2 : s * 2 ^ (k + 1) = (2 * s) * 2 ^ k := by rw [Nat.pow_succ, Nat.mul_comm 2 s, Nat.mul_assoc, Nat.mul_comm 2 (2 ^ k)]
    rw [h2] at h ⊢
    have hs : ¬ 32768 ≤ s := by
      intro hc
      have : 2 * s * 1 ≤ 2 * s * 2 ^ k := Nat.mul_le_mul_left _ hp
      omega
    show turnN k (turn1 s) = _
    rw [turn1, if_neg hs]
    exact ih h
theorem turned_byte {c : Nat} (h : c < 256) : turned c = c * 256 := by
  have := turnN_small 8 (s := c) (by omega)
  exact this
theorem turned_zero : turned 0 = 0 := by decide
attribute [irreducible] turned
theorem xor_hi (s : Nat) : s ^^^ (s / 256 * 256) = s % 256 := by
  apply Nat.eq_of_testBit_eq
  intro i
  have e1 : s / 256 * 256 = (s >>> 8) <<< 8 := by rw [Nat.shiftRight_eq_div_pow, Nat.shiftLeft_eq]
  have e2 : s % 256 = s % 2 ^ 8 := rfl
  rw [Nat.testBit_xor, e1, e2, Nat.testBit_mod_two_pow, Nat.testBit_shiftLeft, Nat.testBit_shiftRight]
  by_cases h : i < 8
  · have h' : ¬ 8 ≤ i := by omega
    simp [h, h']
  · have h' : 8 ≤ i := by omega
    have h3 : 8 + (i - 8) = i := by omega
    simp [h, h', h3]
theorem step_lt {s c : Nat} (hs : s < 65536) (hc : c < 256) : step s c < 65536 := by
  unfold step
  exact turned_lt (xor16 (by omega) (by omega))
theorem byte_lt (c : UInt8) : c.toNat < 256 := c.toNat_lt
theorem crc_lt (l : List UInt8) : ∀ {s : Nat}, s < 65536 → crc s l < 65536 := by
  induction l with
  | nil => intro s h; exact h
  | cons c l ih => intro s h; exact ih (step_lt h (byte_lt c))
theorem sum_lt (l : List UInt8) : sum l < 65536 := crc_lt l (by omega)
theorem crc_append (s : Nat) (a b : List UInt8) : crc s (a ++ b) = crc (crc s a) b := by simp [crc]
theorem crc_cons (s : Nat) (c : UInt8) (l : List UInt8) : crc s (c :: l) = crc (step s c.toNat) l := rfl
theorem crc_take_succ (s : Nat) (l : List UInt8) (k : Nat) (h : k < l.length) : crc s (l.take (k + 1)) = step (crc s (l.take k)) (l[k].toNat) := by
  rw [List.take_succ_eq_append_getElem h, crc_append]; rfl
theorem step_inj_left {s t c : Nat} (hs : s < 65536) (ht : t < 65536) (hc : c < 256) (h : step s c = step t c) : s = t := by
  unfold step at h
  exact xor_cancel (turned_inj (xor16 (by omega) (by omega)) (xor16 (by omega) (by omega)) h)
theorem crc_inj (l : List UInt8) : ∀ {s t : Nat}, s < 65536 → t < 65536 → crc s l = crc t l → s = t := by
  induction l with
  | nil => intro s t _ _ h; exact h
  | cons c l ih => intro s t hs ht h; exact step_inj_left hs ht (byte_lt c) (ih (step_lt hs (byte_lt c)) (step_lt ht (byte_lt c)) h)
theorem xor_comm_cancel {a b c : Nat} (h : a ^^^ b = a ^^^ c) : b = c := by
  rw [Nat.xor_comm a b, Nat.xor_comm a c] at h
  exact xor_cancel h
theorem step_inj_right {s c d : Nat} (hs : s < 65536) (hc : c < 256) (hd : d < 256) (h : step s c = step s d) : c = d := by
  unfold step at h
  have h2 := turned_inj (xor16 (by omega) (by omega)) (xor16 (by omega) (by omega)) h
  have h3 := xor_comm_cancel h2
  omega
/-- The two last bytes of a row of sum 0 are the sum of what stands ahead of them. -/
theorem crc_two {s : Nat} (hs : s < 65536) (x y : UInt8) : crc s [x, y] = 0 ↔ x.toNat = s / 256 ∧ y.toNat = s % 256 := by
  have hx := byte_lt x
  have hy := byte_lt y
  have e : crc s [x, y] = step (step s x.toNat) y.toNat := rfl
  have key : ∀ z : Nat, z < 65536 → (turned z = 0 ↔ z = 0) := fun z hz =>
    ⟨fun h => turned_inj hz (by omega) (h.trans turned_zero.symm), fun h => by rw [h]; exact turned_zero⟩
  rw [e]
  constructor
  · intro h
    have h1 := (key _ (xor16 (step_lt hs hx) (by omega))).1 h
    have h2 : step s x.toNat = y.toNat * 256 := by
      have := congrArg (· ^^^ (y.toNat * 256)) h1
      simpa [Nat.xor_assoc, Nat.xor_self] using this
    have h3 : turned (s ^^^ (x.toNat * 256)) = turned y.toNat := h2.trans (turned_byte hy).symm
    have h4 := turned_inj (xor16 (by omega) (by omega)) (by omega) h3
    have h5 : s = x.toNat * 256 ^^^ y.toNat := by
      have := congrArg (· ^^^ (x.toNat * 256)) h4
      simp [Nat.xor_assoc, Nat.xor_self] at this
      rw [this, Nat.xor_comm]
    have h6 : x.toNat * 256 ^^^ y.toNat = x.toNat * 256 + y.toNat := by
      have hh := xor_hi (x.toNat * 256 + y.toNat)
      have hd : (x.toNat * 256 + y.toNat) / 256 = x.toNat := by omega
      have hm : (x.toNat * 256 + y.toNat) % 256 = y.toNat := by omega
      rw [hd, hm] at hh
      have := congrArg (· ^^^ (x.toNat * 256)) hh
      simp [Nat.xor_assoc, Nat.xor_self] at this
      rw [this, Nat.xor_comm]
    rw [h6] at h5
    omega
  · rintro ⟨h1, h2⟩
    have e1 : step s x.toNat = y.toNat * 256 := by
      unfold step
      rw [h1, xor_hi, turned_byte (by omega), h2]
    unfold step at e1 ⊢
    rw [e1, Nat.xor_self]
    exact turned_zero
theorem crc_end {s : Nat} (hs : s < 65536) (l : List UInt8) (x y : UInt8) : crc s (l ++ [x, y]) = 0 ↔ x.toNat = crc s l / 256 ∧ y.toNat = crc s l % 256 := by
  rw [crc_append]; exact crc_two (crc_lt l hs) x y
theorem toNat_ofNat (n : Nat) : (UInt8.ofNat n).toNat = n % 256 := by simp
theorem sum_sealed (l : List UInt8) : sum (sealed l) = 0 := by
  have h := sum_lt l
  refine (crc_end (by omega) l _ _).2 ⟨?_, ?_⟩
  · rw [toNat_ofNat]; unfold sum at h ⊢; omega
  · rw [toNat_ofNat]; rfl
theorem opened_sealed (l : List UInt8) : opened (sealed l) = some l := by
  unfold opened
  have h1 : (sealed l).length = l.length + 2 := by simp [sealed]
  rw [if_neg (by rw [h1, sum_sealed]; omega), h1]
  simp [sealed]
theorem sealed_opened {l x : List UInt8} (h : opened l = some x) : sealed x = l := by
  unfold opened at h
  split at h
  · cases h
  · rename_i hc
    have hlen : 2 ≤ l.length := by omega
    have hsum : sum l = 0 := by
      rcases Nat.eq_zero_or_pos (sum l) with h0 | h0
      · exact h0
      · exact absurd (Or.inr (by omega)) hc
    have hx : x = l.take (l.length - 2) := by simpa using h.symm
    have hl : l = x ++ [l[l.length - 2]'(by omega), l[l.length - 1]'(by omega)] := by
      have hd : l.drop (l.length - 2) = [l[l.length - 2]'(by omega), l[l.length - 1]'(by omega)] := by
        rw [List.drop_eq_getElem_cons (by omega), List.drop_eq_getElem_cons (by omega)]
        have e : l.length - 2 + 1 = l.length - 1 := by omega
        rw [List.drop_of_length_le (by omega)]
        simp [e]
      rw [hx, ← hd, List.take_append_drop]
    rw [hl] at hsum
    have h2 := (crc_end (by omega) x _ _).1 hsum
    have ha : ∀ (c : UInt8) (n : Nat), c.toNat = n → c = UInt8.ofNat n := by
      intro c n hc; apply UInt8.toNat_inj.1; rw [toNat_ofNat, ← hc]; exact (Nat.mod_eq_of_lt (byte_lt c)).symm
    have ha' : ∀ (c : UInt8) (n : Nat), c.toNat = n % 256 → c = UInt8.ofNat n := by
      intro c n hc; apply UInt8.toNat_inj.1; rw [toNat_ofNat, hc]
    conv => rhs; rw [hl]
    unfold sealed
    rw [ha _ _ h2.1, ha' _ _ h2.2]
    rfl
/-- One byte that is another turns the sum. -/
theorem crc_set (s : Nat) (hs : s < 65536) (l : List UInt8) (k : Nat) (h : k < l.length) (v : UInt8) (hv : v ≠ l[k]) : crc s (l.set k v) ≠ crc s l := by
  intro he
  have e1 : l.set k v = l.take k ++ (v :: l.drop (k + 1)) := by rw [List.set_eq_take_append_cons_drop, if_pos h]
  have e2 : l = l.take k ++ (l[k] :: l.drop (k + 1)) := by rw [← List.drop_eq_getElem_cons h, List.take_append_drop]
  rw [e1, crc_append, crc_cons] at he
  conv at he => rhs; rw [e2]
  rw [crc_append, crc_cons] at he
  have hb : crc s (l.take k) < 65536 := crc_lt _ hs
  have h3 := crc_inj _ (step_lt hb (byte_lt _)) (step_lt hb (byte_lt _)) he
  have h4 := step_inj_right hb (byte_lt _) (byte_lt _) h3
  exact hv (UInt8.toNat_inj.1 h4)
end Crc
end Go.Proofs.YtlijncmjcecppaaDoor
