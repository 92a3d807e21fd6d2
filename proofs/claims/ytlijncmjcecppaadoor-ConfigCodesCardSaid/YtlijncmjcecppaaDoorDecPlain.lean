/- Bytes as crossings, piece by piece, in plain Lean. -/
import Derived.Test.YtlijncmjcecppaaDoorCfgPlain
namespace Go.Proofs.YtlijncmjcecppaaDoor
namespace Cfg
/-- The first k times; 0 behind them. -/
def fK (x : List UInt8) (k i : Nat) : Int := if i < k then (decTimes x).nums.getD i 0 else 0
theorem fK_old (x : List UInt8) {k j : Nat} (h : j ≠ k) : fK x (k + 1) j = fK x k j := by
  unfold fK
  by_cases h1 : j < k
  · rw [if_pos h1, if_pos (by omega)]
  · rw [if_neg h1, if_neg (by omega)]
theorem fK_new (x : List UInt8) (k : Nat) : fK x (k + 1) k = (decTimes x).nums.getD k 0 := if_pos (Nat.lt_succ_self k)
theorem nums_get2 (x : List UInt8) (k : Nat) (h : k < 10) : (decTimes x).nums.getD k 0 = get2 x (4 + 2 * k) := by
  match k, h with
  | 0, _ => rfl
  | 1, _ => rfl
  | 2, _ => rfl
  | 3, _ => rfl
  | 4, _ => rfl
  | 5, _ => rfl
  | 6, _ => rfl
  | 7, _ => rfl
  | 8, _ => rfl
  | 9, _ => rfl
theorem drop2 (x : List UInt8) (o : Nat) (h : o + 2 ≤ x.length) : ∃ a b, x.drop o = a :: b :: x.drop (o + 2) ∧ get2 x o = (a.toNat : Int) * 256 + b.toNat := by
  refine ⟨x[o], x[o + 1], ?_, ?_⟩
  · rw [List.drop_eq_getElem_cons (by omega), List.drop_eq_getElem_cons (by omega)]
  · simp only [get2, at1, List.getD_eq_getElem?_getD]
    rw [List.getElem?_eq_getElem (by omega), List.getElem?_eq_getElem (by omega)]
    simp
theorem drop4 (x : List UInt8) (o : Nat) (h : o + 4 ≤ x.length) : ∃ a b c d, x.drop o = a :: b :: c :: d :: x.drop (o + 4) ∧ get4 x o = (((a.toNat : Int) * 256 + b.toNat) * 256 + c.toNat) * 256 + d.toNat := by
  refine ⟨x[o], x[o + 1], x[o + 2], x[o + 3], ?_, ?_⟩
  · rw [List.drop_eq_getElem_cons (by omega), List.drop_eq_getElem_cons (by omega), List.drop_eq_getElem_cons (by omega), List.drop_eq_getElem_cons (by omega)]
  · simp only [get4, at1, List.getD_eq_getElem?_getD]
    rw [List.getElem?_eq_getElem (by omega), List.getElem?_eq_getElem (by omega), List.getElem?_eq_getElem (by omega), List.getElem?_eq_getElem (by omega)]
    simp
    omega
theorem get2_bd (x : List UInt8) (o : Nat) : 0 ≤ get2 x o ∧ get2 x o < 65536 := by
  have := at1_lt x o
  have := at1_lt x (o + 1)
  unfold get2
  omega
theorem get4_bd (x : List UInt8) (o : Nat) : 0 ≤ get4 x o ∧ get4 x o < 4294967296 := by
  have := at1_lt x o
  have := at1_lt x (o + 1)
  have := at1_lt x (o + 2)
  have := at1_lt x (o + 3)
  unfold get4
  omega
def decLs (x : List UInt8) (k : Nat) : List Ln := (List.range k).map fun i => decLine x (24 + 14 * i)
theorem decLs_succ (x : List UInt8) (k : Nat) : decLs x (k + 1) = decLs x k ++ [decLine x (24 + 14 * k)] := by simp [decLs, List.range_succ]
theorem decLs_length (x : List UInt8) (k : Nat) : (decLs x k).length = k := by simp [decLs]
end Cfg
end Go.Proofs.YtlijncmjcecppaaDoor
