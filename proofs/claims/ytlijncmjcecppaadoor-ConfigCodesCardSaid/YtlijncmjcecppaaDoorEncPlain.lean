/- A crossing's bytes, piece by piece, in plain Lean. -/
import Derived.Test.YtlijncmjcecppaaDoorCfgPlain
namespace Go.Proofs.YtlijncmjcecppaaDoor
namespace Cfg
def hd (c : Cf) : List UInt8 := [88, 66, 49, UInt8.ofNat c.lines.length]
def encT (c : Cf) (k : Nat) : List UInt8 := hd c ++ (c.times.nums.take k).flatMap fun n => be2 n.toNat
def encL (c : Cf) (k : Nat) : List UInt8 := encT c 10 ++ (c.lines.take k).flatMap encLine
theorem encT_zero (c : Cf) : encT c 0 = hd c := by simp [encT]
theorem encT_succ (c : Cf) (k : Nat) (h : k < c.times.nums.length) : encT c (k + 1) = encT c k ++ be2 c.times.nums[k].toNat := by
  unfold encT
  rw [List.take_succ_eq_append_getElem h, List.flatMap_append, ← List.append_assoc]
  simp
theorem encL_zero (c : Cf) : encL c 0 = encT c 10 := by simp [encL]
theorem encL_succ (c : Cf) (k : Nat) (h : k < c.lines.length) : encL c (k + 1) = encL c k ++ encLine c.lines[k] := by
  unfold encL
  rw [List.take_succ_eq_append_getElem h, List.flatMap_append, ← List.append_assoc]
  simp
theorem encL_all (c : Cf) : encL c c.lines.length = body c := by
  unfold encL encT body encTimes hd
  rw [List.take_of_length_le (Nat.le_refl _), List.take_of_length_le (by show 10 ≤ 10; exact Nat.le_refl _)]
theorem encT_length (c : Cf) (k : Nat) (h : k ≤ 10) : (encT c k).length = 4 + 2 * k := by
  unfold encT hd
  rw [List.length_append]
  have : ∀ l : List Int, (l.flatMap fun n => be2 n.toNat).length = 2 * l.length := by
    intro l
    induction l with
    | nil => rfl
    | cons a l ih => rw [List.flatMap_cons, List.length_append, ih, be2_length, List.length_cons]; omega
  rw [this, List.length_take]
  have h10 : c.times.nums.length = 10 := rfl
  rw [h10]
  simp
  omega
theorem encL_length (c : Cf) (k : Nat) (h : k ≤ c.lines.length) : (encL c k).length = 24 + 14 * k := by
  unfold encL
  rw [List.length_append, encT_length c 10 (Nat.le_refl _), flat_length, List.length_take, Nat.min_eq_left h]
theorem encLine_eq (l : Ln) (x : List UInt8) : x ++ encLine l = ((((x ++ be4 l.strike.toNat) ++ be4 l.signal.toNat) ++ be2 l.s0.toNat) ++ be2 l.s1.toNat) ++ be2 l.s2.toNat := by
  simp [encLine]
end Cfg
end Go.Proofs.YtlijncmjcecppaaDoor
