/- Crossings in plain Lean: which may be, their bytes, bytes as crossings, and that the one undoes the other. -/
import Derived.Test.YtlijncmjcecppaaDoorCrcPlain
namespace Go.Proofs.YtlijncmjcecppaaDoor

structure Ln where
  strike : Int
  signal : Int
  s0 : Int
  s1 : Int
  s2 : Int
  deriving DecidableEq
structure Tm where
  amber : Int
  red : Int
  entry : Int
  travel : Int
  prove : Int
  opened : Int
  override : Int
  fresh : Int
  approach : Int
  warn : Int
  deriving DecidableEq
structure Cf where
  lines : List Ln
  times : Tm
  deriving DecidableEq
def Ln.nums (l : Ln) : List Int := [l.strike, l.signal, l.s0, l.s1, l.s2]
def Tm.nums (t : Tm) : List Int := [t.amber, t.red, t.entry, t.travel, t.prove, t.opened, t.override, t.fresh, t.approach, t.warn]
def I64 (n : Int) : Prop := -9223372036854775808 ≤ n ∧ n ≤ 9223372036854775807

namespace Cfg
def inB (n least most : Int) : Bool := decide (least ≤ n) && decide (n ≤ most)
def lineOk (l : Ln) : Bool := inB l.s0 1 5000 && inB l.s1 1 5000 && inB l.s2 1 5000 && inB l.strike 2 1000000 && inB l.signal 1 (l.strike - 1)
def timesOk (t : Tm) : Bool := t.nums.all fun n => inB n 1 6000
def ok (c : Cf) : Bool := inB c.lines.length 1 8 && timesOk c.times && c.lines.all lineOk

def be2 (n : Nat) : List UInt8 := [UInt8.ofNat (n / 256), UInt8.ofNat n]
def be4 (n : Nat) : List UInt8 := [UInt8.ofNat (n / 16777216), UInt8.ofNat (n / 65536), UInt8.ofNat (n / 256), UInt8.ofNat n]
def encTimes (t : Tm) : List UInt8 := t.nums.flatMap fun n => be2 n.toNat
def encLine (l : Ln) : List UInt8 := be4 l.strike.toNat ++ be4 l.signal.toNat ++ be2 l.s0.toNat ++ be2 l.s1.toNat ++ be2 l.s2.toNat
def body (c : Cf) : List UInt8 := [88, 66, 49, UInt8.ofNat c.lines.length] ++ encTimes c.times ++ c.lines.flatMap encLine
def enc (c : Cf) : List UInt8 := Crc.sealed (body c)

def at1 (x : List UInt8) (i : Nat) : Nat := (x.getD i 0).toNat
def get2 (x : List UInt8) (i : Nat) : Int := (at1 x i * 256 + at1 x (i + 1) : Nat)
def get4 (x : List UInt8) (i : Nat) : Int := (at1 x i * 16777216 + at1 x (i + 1) * 65536 + at1 x (i + 2) * 256 + at1 x (i + 3) : Nat)
def decTimes (x : List UInt8) : Tm :=
  { amber := get2 x 4, red := get2 x 6, entry := get2 x 8, travel := get2 x 10, prove := get2 x 12, opened := get2 x 14, override := get2 x 16, fresh := get2 x 18, approach := get2 x 20, warn := get2 x 22 }
def decLine (x : List UInt8) (o : Nat) : Ln := { strike := get4 x o, signal := get4 x (o + 4), s0 := get2 x (o + 8), s1 := get2 x (o + 10), s2 := get2 x (o + 12) }
def decBody (x : List UInt8) : Cf := { lines := (List.range (at1 x 3)).map fun i => decLine x (24 + 14 * i), times := decTimes x }
def form (x : List UInt8) : Bool := decide (4 ≤ x.length) && decide (x.take 3 = [88, 66, 49]) && decide (x.length = 24 + 14 * at1 x 3)
/-- What bytes are: a crossing, or the number of an error. -/
def dec (b : List UInt8) : Except Int Cf :=
  match Crc.opened b with
  | none => .error 3
  | some x => if form x then (if ok (decBody x) then .ok (decBody x) else .error 6) else .error 2

theorem inB_iff {n a b : Int} : inB n a b = true ↔ a ≤ n ∧ n ≤ b := by simp [inB]
theorem lineOk_iff (l : Ln) : lineOk l = true ↔ (1 ≤ l.s0 ∧ l.s0 ≤ 5000) ∧ (1 ≤ l.s1 ∧ l.s1 ≤ 5000) ∧ (1 ≤ l.s2 ∧ l.s2 ≤ 5000) ∧ (2 ≤ l.strike ∧ l.strike ≤ 1000000) ∧ (1 ≤ l.signal ∧ l.signal ≤ l.strike - 1) := by
  simp [lineOk, inB_iff, and_assoc]
theorem ok_iff (c : Cf) : ok c = true ↔ (1 ≤ c.lines.length ∧ c.lines.length ≤ 8) ∧ (∀ n ∈ c.times.nums, 1 ≤ n ∧ n ≤ 6000) ∧ (∀ l ∈ c.lines, lineOk l = true) := by
  have e : ∀ n : Nat, inB (n : Int) 1 8 = true ↔ 1 ≤ n ∧ n ≤ 8 := fun n => by rw [inB_iff]; omega
  simp only [ok, timesOk, Bool.and_eq_true, List.all_eq_true, e, inB_iff, and_assoc]

theorem be2_length (n : Nat) : (be2 n).length = 2 := rfl
theorem be4_length (n : Nat) : (be4 n).length = 4 := rfl
theorem encLine_length (l : Ln) : (encLine l).length = 14 := rfl
theorem encTimes_length (t : Tm) : (encTimes t).length = 20 := rfl
theorem flat_length (l : List Ln) : (l.flatMap encLine).length = 14 * l.length := by
  induction l with
  | nil => rfl
  | cons a l ih => rw [List.flatMap_cons, List.length_append, ih, encLine_length, List.length_cons]; omega
theorem body_length (c : Cf) : (body c).length = 24 + 14 * c.lines.length := by
  simp only [body, List.length_append, flat_length, encTimes_length, List.length_cons, List.length_nil]
theorem enc_length (c : Cf) : (enc c).length = 26 + 14 * c.lines.length := by
  rw [enc, Crc.sealed, List.length_append, body_length]; simp; omega
theorem flat_drop (l : List Ln) : ∀ k, (l.flatMap encLine).drop (14 * k) = (l.drop k).flatMap encLine := by
  induction l with
  | nil => intro k; simp
  | cons a l ih =>
    intro k
    cases k with
    | zero => simp
    | succ k =>
      have e : 14 * (k + 1) = (encLine a).length + 14 * k := by rw [encLine_length]; omega
      rw [List.flatMap_cons, e, List.drop_append, List.drop_succ_cons, ← ih k]
      simp

theorem at1_drop (x : List UInt8) (o i : Nat) : at1 (x.drop o) i = at1 x (o + i) := by simp [at1, List.getD_eq_getElem?_getD, List.getElem?_drop]
theorem get2_drop (x : List UInt8) (o i : Nat) : get2 (x.drop o) i = get2 x (o + i) := by simp [get2, at1_drop, Nat.add_assoc]
theorem get4_drop (x : List UInt8) (o i : Nat) : get4 (x.drop o) i = get4 x (o + i) := by simp [get4, at1_drop, Nat.add_assoc]
theorem decLine_drop (x : List UInt8) (o i : Nat) : decLine (x.drop o) i = decLine x (o + i) := by simp [decLine, get2_drop, get4_drop, Nat.add_assoc]
theorem at1_lt (x : List UInt8) (i : Nat) : at1 x i < 256 := Crc.byte_lt _
theorem ofNat_toNat (n : Nat) : (UInt8.ofNat n).toNat = n % 256 := Crc.toNat_ofNat n
theorem get2_be2 (n : Nat) (h : n < 65536) (r : List UInt8) : get2 (be2 n ++ r) 0 = n := by
  simp only [get2, at1, be2, List.cons_append, List.nil_append, List.getD_cons_zero, List.getD_cons_succ, ofNat_toNat, Nat.zero_add]
  omega
theorem get4_be4 (n : Nat) (h : n < 4294967296) (r : List UInt8) : get4 (be4 n ++ r) 0 = n := by
  simp only [get4, at1, be4, List.cons_append, List.nil_append, List.getD_cons_zero, List.getD_cons_succ, ofNat_toNat, Nat.zero_add]
  omega
theorem decLine_encLine (l : Ln) (h : lineOk l = true) (r : List UInt8) : decLine (encLine l ++ r) 0 = l := by
  obtain ⟨⟨a1, a2⟩, ⟨b1, b2⟩, ⟨c1, c2⟩, ⟨d1, d2⟩, e1, e2⟩ := (lineOk_iff l).1 h
  cases l with
  | mk st sg s0 s1 s2 =>
    simp only at a1 a2 b1 b2 c1 c2 d1 d2 e1 e2
    simp only [decLine, Ln.mk.injEq, get4, get2, at1, encLine, be2, be4, List.cons_append, List.nil_append, List.getD_cons_zero, List.getD_cons_succ, ofNat_toNat, Nat.zero_add]
    refine ⟨?_, ?_, ?_, ?_, ?_⟩ <;> omega
theorem decTimes_body (c : Cf) (h : ∀ n ∈ c.times.nums, 1 ≤ n ∧ n ≤ 6000) : decTimes (body c) = c.times := by
  cases c with
  | mk ls t =>
    cases t with
    | mk a b c d e f g i j k =>
      simp only [Tm.nums, List.mem_cons, List.not_mem_nil, or_false, forall_eq_or_imp, forall_eq] at h
      obtain ⟨⟨a1, a2⟩, ⟨b1, b2⟩, ⟨c1, c2⟩, ⟨d1, d2⟩, ⟨e1, e2⟩, ⟨f1, f2⟩, ⟨g1, g2⟩, ⟨i1, i2⟩, ⟨j1, j2⟩, k1, k2⟩ := h
      simp only [decTimes, Tm.mk.injEq, get2, at1, body, encTimes, Tm.nums, be2, List.flatMap_cons, List.flatMap_nil, List.cons_append, List.nil_append, List.getD_cons_zero, List.getD_cons_succ, ofNat_toNat]
      refine ⟨?_, ?_, ?_, ?_, ?_, ?_, ?_, ?_, ?_, ?_⟩ <;> omega
theorem body_drop (c : Cf) : (body c).drop 24 = c.lines.flatMap encLine := by
  have e : 24 = ([88, 66, 49, UInt8.ofNat c.lines.length] ++ encTimes c.times).length := by simp [encTimes_length]
  rw [body, e, List.drop_left]
theorem at1_body (c : Cf) (h : c.lines.length ≤ 8) : at1 (body c) 3 = c.lines.length := by
  simp only [at1, body, List.cons_append, List.nil_append, List.getD_cons_zero, List.getD_cons_succ, ofNat_toNat]
  omega
theorem decBody_body (c : Cf) (h : ok c = true) : decBody (body c) = c := by
  obtain ⟨⟨_, h8⟩, ht, hl⟩ := (ok_iff c).1 h
  have e1 := decTimes_body c ht
  have e2 : (List.range (at1 (body c) 3)).map (fun i => decLine (body c) (24 + 14 * i)) = c.lines := by
    rw [at1_body c h8]
    apply List.ext_getElem
    · simp
    · intro i h1 h2
      rw [List.getElem_map, List.getElem_range]
      have h3 : decLine (body c) (24 + 14 * i) = decLine ((c.lines.drop i).flatMap encLine) 0 := by
        rw [← flat_drop, ← body_drop, decLine_drop, decLine_drop, Nat.add_zero]
      rw [h3, List.drop_eq_getElem_cons h2, List.flatMap_cons]
      exact decLine_encLine _ (hl _ (List.getElem_mem h2)) _
  unfold decBody
  rw [e1, e2]
theorem form_body (c : Cf) (h : ok c = true) : form (body c) = true := by
  obtain ⟨⟨_, h8⟩, _, _⟩ := (ok_iff c).1 h
  simp only [form, Bool.and_eq_true, decide_eq_true_eq, body_length, at1_body c h8]
  refine ⟨⟨by omega, ?_⟩, trivial⟩
  simp [body]
/-- What was encoded is decoded as it was. -/
theorem dec_enc (c : Cf) (h : ok c = true) : dec (enc c) = .ok c := by
  unfold dec enc
  rw [Crc.opened_sealed]
  simp [form_body c h, decBody_body c h, h]

theorem ofNat_at1 (x : List UInt8) (i : Nat) (h : i < x.length) : UInt8.ofNat (at1 x i) = x[i] := by
  apply UInt8.toNat_inj.1
  rw [ofNat_toNat, at1, List.getD_eq_getElem?_getD, List.getElem?_eq_getElem h]
  exact Nat.mod_eq_of_lt (Crc.byte_lt _)
theorem byte_eq {c : UInt8} {n : Nat} (h : n % 256 = c.toNat) : UInt8.ofNat n = c := by apply UInt8.toNat_inj.1; rw [ofNat_toNat, h]
theorem be2_get2 (x : List UInt8) (o : Nat) (h : o + 2 ≤ x.length) : be2 (get2 x o).toNat = (x.drop o).take 2 := by
  rw [List.drop_eq_getElem_cons (by omega), List.drop_eq_getElem_cons (by omega)]
  have h0 := at1_lt x o
  have h1 := at1_lt x (o + 1)
  have e0 : at1 x o = x[o].toNat := by rw [at1, List.getD_eq_getElem?_getD, List.getElem?_eq_getElem (by omega)]; rfl
  have e1 : at1 x (o + 1) = x[o + 1].toNat := by rw [at1, List.getD_eq_getElem?_getD, List.getElem?_eq_getElem (by omega)]; rfl
  simp only [be2, get2, Int.toNat_natCast, List.take_succ_cons, List.take_zero, List.cons.injEq, and_true]
  exact ⟨byte_eq (by omega), byte_eq (by omega)⟩
theorem be4_get4 (x : List UInt8) (o : Nat) (h : o + 4 ≤ x.length) : be4 (get4 x o).toNat = (x.drop o).take 4 := by
  rw [List.drop_eq_getElem_cons (by omega), List.drop_eq_getElem_cons (by omega), List.drop_eq_getElem_cons (by omega), List.drop_eq_getElem_cons (by omega)]
  have h0 := at1_lt x o
  have h1 := at1_lt x (o + 1)
  have h2 := at1_lt x (o + 2)
  have h3 := at1_lt x (o + 3)
  have e0 : at1 x o = x[o].toNat := by rw [at1, List.getD_eq_getElem?_getD, List.getElem?_eq_getElem (by omega)]; rfl
  have e1 : at1 x (o + 1) = x[o + 1].toNat := by rw [at1, List.getD_eq_getElem?_getD, List.getElem?_eq_getElem (by omega)]; rfl
  have e2 : at1 x (o + 2) = (x[o + 1 + 1]'(by omega)).toNat := by rw [at1, List.getD_eq_getElem?_getD, List.getElem?_eq_getElem (by omega)]; rfl
  have e3 : at1 x (o + 3) = (x[o + 1 + 1 + 1]'(by omega)).toNat := by rw [at1, List.getD_eq_getElem?_getD, List.getElem?_eq_getElem (by omega)]; rfl
  simp only [be4, get4, Int.toNat_natCast, List.take_succ_cons, List.take_zero, List.cons.injEq, and_true]
  exact ⟨byte_eq (by omega), byte_eq (by omega), byte_eq (by omega), byte_eq (by omega)⟩
theorem take_join (x : List UInt8) (o a b : Nat) : (x.drop o).take a ++ (x.drop (o + a)).take b = (x.drop o).take (a + b) := by
  rw [List.take_add, List.drop_drop]
theorem encLine_decLine (x : List UInt8) (o : Nat) (h : o + 14 ≤ x.length) : encLine (decLine x o) = (x.drop o).take 14 := by
  simp only [encLine, decLine]
  rw [be4_get4 x o (by omega), be4_get4 x (o + 4) (by omega), be2_get2 x (o + 8) (by omega), be2_get2 x (o + 10) (by omega), be2_get2 x (o + 12) (by omega)]
  rw [take_join x o 4 4, take_join x o 8 2, take_join x o 10 2, take_join x o 12 2]
theorem lines_dec (x : List UInt8) (n : Nat) : ∀ o, x.length = o + 14 * n → ((List.range n).map fun i => decLine x (o + 14 * i)).flatMap encLine = x.drop o := by
  induction n with
  | zero => intro o h; simp; omega
  | succ n ih =>
    intro o h
    have h2 := ih (o + 14) (by omega)
    rw [List.range_succ_eq_map, List.map_cons, List.flatMap_cons, List.map_map]
    have e : ((fun i => decLine x (o + 14 * i)) ∘ Nat.succ) = fun i => decLine x (o + 14 + 14 * i) := by
      funext i; simp only [Function.comp_apply]; congr 1; omega
    rw [e, h2, Nat.mul_zero, Nat.add_zero, encLine_decLine x o (by omega)]
    have h3 := List.take_append_drop 14 (x.drop o)
    rw [List.drop_drop] at h3
    exact h3
theorem encTimes_decTimes (x : List UInt8) (h : 24 ≤ x.length) : encTimes (decTimes x) = (x.drop 4).take 20 := by
  simp only [encTimes, decTimes, Tm.nums, List.flatMap_cons, List.flatMap_nil, List.append_nil]
  rw [be2_get2 x 4 (by omega), be2_get2 x 6 (by omega), be2_get2 x 8 (by omega), be2_get2 x 10 (by omega), be2_get2 x 12 (by omega), be2_get2 x 14 (by omega), be2_get2 x 16 (by omega), be2_get2 x 18 (by omega), be2_get2 x 20 (by omega), be2_get2 x 22 (by omega)]
  rw [take_join x 20 2 2, take_join x 18 2 4, take_join x 16 2 6, take_join x 14 2 8, take_join x 12 2 10, take_join x 10 2 12, take_join x 8 2 14, take_join x 6 2 16, take_join x 4 2 18]
theorem body_decBody (x : List UInt8) (h : form x = true) : body (decBody x) = x := by
  simp only [form, Bool.and_eq_true, decide_eq_true_eq] at h
  obtain ⟨⟨h4, h3⟩, hl⟩ := h
  have hn := at1_lt x 3
  have e1 : (decBody x).lines.flatMap encLine = x.drop 24 := lines_dec x _ 24 hl
  have e2 : (decBody x).times = decTimes x := rfl
  have e3 : (decBody x).lines.length = at1 x 3 := by simp [decBody]
  unfold body
  rw [e1, e2, e3, encTimes_decTimes x (by omega), ofNat_at1 x 3 (by omega)]
  have e4 : ([88, 66, 49, x[3]] : List UInt8) = x.take 4 := by
    have : x.take 4 = x.take 3 ++ [x[3]] := by rw [List.take_succ_eq_append_getElem]
    rw [this, h3]; rfl
  rw [e4, List.append_assoc]
  have e5 := take_join x 0 4 20
  have e6 : (x.drop 4).take 20 ++ x.drop 24 = x.drop 4 := by
    have := List.take_append_drop 20 (x.drop 4)
    rw [List.drop_drop] at this
    exact this
  rw [e6, List.take_append_drop]
/-- What is decoded has one form. -/
theorem enc_dec (b : List UInt8) (c : Cf) (h : dec b = .ok c) : ok c = true ∧ enc c = b := by
  unfold dec at h
  split at h
  · cases h
  · rename_i x hx
    split at h
    · rename_i hf
      split at h
      · rename_i hk
        have e : decBody x = c := by injection h
        subst e
        refine ⟨hk, ?_⟩
        unfold enc
        rw [body_decBody x hf]
        exact Crc.sealed_opened hx
      · cases h
    · cases h
theorem dec_err {b : List UInt8} {e : Int} (h : dec b = .error e) : e = 3 ∨ e = 2 ∨ e = 6 := by
  unfold dec at h
  split at h
  · injection h with h; exact .inl h.symm
  · split at h
    · split at h
      · cases h
      · injection h with h; exact .inr (.inr h.symm)
    · injection h with h; exact .inr (.inl h.symm)
theorem enc_inj {a b : Cf} (ha : ok a = true) (hb : ok b = true) (h : enc a = enc b) : a = b := by
  have h1 := dec_enc a ha
  rw [h, dec_enc b hb] at h1
  injection h1 with h1
  exact h1.symm
/-- Of bytes of which one is turned there is no crossing. -/
theorem dec_turned (c : Cf) (k : Nat) (h : k < (enc c).length) (v : UInt8) (hv : v ≠ (enc c)[k]) : dec ((enc c).set k v) = .error 3 := by
  have h1 : Crc.sum ((enc c).set k v) ≠ Crc.sum (enc c) := Crc.crc_set 65535 (by omega) _ k h v hv
  have h2 : Crc.sum (enc c) = 0 := Crc.sum_sealed _
  unfold dec Crc.opened
  rw [if_pos (.inr (by rw [h2] at h1; exact h1))]
end Cfg
end Go.Proofs.YtlijncmjcecppaaDoor
