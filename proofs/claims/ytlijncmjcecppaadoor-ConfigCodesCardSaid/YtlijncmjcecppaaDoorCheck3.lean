/- Package config by contracts: Check itself. -/
import Derived.Test.YtlijncmjcecppaaDoorCheck2
namespace Go.Proofs.YtlijncmjcecppaaDoor
open Go.RowKit

/-- A crossing as a value; its lines lie at A. -/
def cfV (A : Option Addr) (n cap : Nat) (t : Tm) : Value := .agg #[.slice A n cap, .int .i64 t.amber, .int .i64 t.red, .int .i64 t.entry, .int .i64 t.travel, .int .i64 t.prove, .int .i64 t.opened, .int .i64 t.override, .int .i64 t.fresh, .int .i64 t.approach, .int .i64 t.warn]
def Cfg.code (c : Cf) : Int := if Cfg.ok c then 0 else 6

theorem contains_bad (ls : List Ln) (A : Option Addr) (cap : Nat) (w : World) (hs : Sees w A (linesVs ls)) (hbig : ls.length ≤ 1000000000000000) :
    Calls Tryd.prog 50 #[.slice A ls.length cap, .func (.func 51) #[] #[]] w fun r w' =>
      r = .returned (.bool (ls.any (fun l => !Cfg.lineOk l))) ∧ Below w.heap.size w w' := by
  have C := hid (index_bad ls A cap w hs hbig)
  generalize ls.any (fun l => !Cfg.lineOk l) = q at C ⊢
  clear hs
  go_enter Tryd.func50, Tryd.ntmps50
  go_wp2_with fail
  refine C.out.mono ?_
  rintro r w' ⟨i, rfl, hi, hb⟩
  cases q with
  | true =>
    have h : 0 ≤ i := by rw [hi]
    clear hi
    go_wp2
    go_ret
    exact ⟨rfl, hb⟩
  | false =>
    have h : decide (0 ≤ i) = false := decide_eq_false (by rw [hi]; simp)
    clear hi
    go_wp2
    go_ret
    exact ⟨rfl, hb⟩

theorem ix10 (b o : Nat) (k : Nat) (hk : k < 10) (w : World) : (Instr.index 71 (.agg (tenPtrs b o)) (.int .i64 (k : Int))).run Tryd.prog w = .ok (.pointer (some ⟨b, o + k, none⟩)) w := by
  match k, hk with
  | 0, _ => show _ = _; kernel_rfl
  | 1, _ => show _ = _; kernel_rfl
  | 2, _ => show _ = _; kernel_rfl
  | 3, _ => show _ = _; kernel_rfl
  | 4, _ => show _ = _; kernel_rfl
  | 5, _ => show _ = _; kernel_rfl
  | 6, _ => show _ = _; kernel_rfl
  | 7, _ => show _ = _; kernel_rfl
  | 8, _ => show _ = _; kernel_rfl
  | 9, _ => show _ = _; kernel_rfl

theorem Tm.nums_length (t : Tm) : t.nums.length = 10 := rfl
/-- The times' cells in a block that holds a crossing. -/
theorem times_cells {w : World} {g : Nat} {ty : TypeId} {v0 : Value} {t : Tm} (h : Box w g ty #[v0, .int .i64 t.amber, .int .i64 t.red, .int .i64 t.entry, .int .i64 t.travel, .int .i64 t.prove, .int .i64 t.opened, .int .i64 t.override, .int .i64 t.fresh, .int .i64 t.approach, .int .i64 t.warn]) (k : Nat) (hk : k < 10) :
    w.cell? ⟨g, 1 + k, none⟩ = some (.int .i64 (t.nums[k]'(by rw [Tm.nums_length]; exact hk))) := by
  rw [h.cell]
  match k, hk with
  | 0, _ => rfl
  | 1, _ => rfl
  | 2, _ => rfl
  | 3, _ => rfl
  | 4, _ => rfl
  | 5, _ => rfl
  | 6, _ => rfl
  | 7, _ => rfl
  | 8, _ => rfl
  | 9, _ => rfl

def Cfg.sofar (c : Cf) (k : Nat) : Bool := Cfg.inB c.lines.length 1 8 && (c.times.nums.take k).all fun n => Cfg.inB n 1 6000
theorem Cfg.sofar_succ (c : Cf) (k : Nat) (hk : k < c.times.nums.length) : Cfg.sofar c (k + 1) = (Cfg.sofar c k && Cfg.inB c.times.nums[k] 1 6000) := by
  unfold Cfg.sofar
  rw [List.take_succ_eq_append_getElem hk, List.all_append]
  simp [Bool.and_assoc]
theorem Cfg.ok_sofar (c : Cf) : Cfg.ok c = (Cfg.sofar c 10 && c.lines.all Cfg.lineOk) := by
  unfold Cfg.ok Cfg.sofar Cfg.timesOk
  rw [List.take_of_length_le (by rw [Tm.nums_length]; omega)]
theorem not_any {α : Type} (p : α → Bool) (l : List α) : l.any (fun x => !p x) = !l.all p := by
  induction l with
  | nil => rfl
  | cons a l ih => simp only [List.any_cons, List.all_cons, ih, Bool.not_and]

set_option maxHeartbeats 2000000 in
theorem check_any (c : Cf) (A : Option Addr) (cap : Nat) (w : World) (hs : Sees w A (linesVs c.lines)) (hbig : c.lines.length ≤ 1000000000000000) :
    Calls Tryd.prog 23 #[cfV A c.lines.length cap c.times] w fun r w' => ∃ x, r = .returned x ∧ ErrIs w' x (Cfg.code c) ∧ Below w.heap.size w w' := by
  have hok := Cfg.ok_sofar c
  unfold Cfg.code
  rw [hok]
  obtain ⟨cd, hcd⟩ : ∃ cd : Int, cd = if (Cfg.sofar c 10 && c.lines.all Cfg.lineOk) = true then 0 else 6 := ⟨_, rfl⟩
  rw [← hcd]
  have HCD := hid hcd
  clear hcd
  have HZ := hid (show Cfg.sofar c 0 = Cfg.inB c.lines.length 1 8 by simp [Cfg.sofar])
  have HC := hid (fun W (h : Sees W A (linesVs c.lines)) => contains_bad c.lines A cap W h hbig)
  have HS := hid hs
  have HB := hid (fun k hk => Cfg.sofar_succ c k hk)
  have HT := hid (fun (W : World) (g : Nat) (ty : TypeId) (v0 : Value) h k hk => times_cells (w := W) (g := g) (ty := ty) (v0 := v0) (t := c.times) h k hk)
  have HI := hid (fun W => in_any c.lines.length 1 8 W)
  have hnot := not_any Cfg.lineOk c.lines
  have HN := hid hnot
  clear hs hok hnot
  generalize hall : c.lines.all Cfg.lineOk = ql
  have HA := hid hall
  clear hall
  cases c with
  | mk ls t =>
    simp only at HCD
    simp only at HC HS HT HI HA HN hbig HB HZ
    obtain ⟨n, hn⟩ : ∃ n, n = ls.length := ⟨_, rfl⟩
    simp only [cfV]
    rw [← hn] at hbig HC HI HZ ⊢
    have Hn := hid hn
    clear hn
    generalize hq0 : Cfg.inB (n : Int) 1 8 = q0 at HI HZ
    clear hq0
    go_enter Tryd.func23, Tryd.ntmps23
    go_wp2_with fail
    refine (HI.out _).mono ?_
    rintro r w' ⟨rfl, rfl⟩
    go_wp2_with fail
    refine (times_any _ _ _).mono ?_
    rintro r w2 ⟨rfl, hb2⟩
    have hbx := Box.below (Box.new w 39 #[.slice A n cap, .int .i64 t.amber, .int .i64 t.red, .int .i64 t.entry, .int .i64 t.travel, .int .i64 t.prove, .int .i64 t.opened, .int .i64 t.override, .int .i64 t.fresh, .int .i64 t.approach, .int .i64 t.warn]) hb2 (by simp)
    have hbw : Below w.heap.size w w2 := ((Below.refl _ _).alloc (Nat.le_refl _) _).trans (hb2.mono (by simp))
    have HX := hid hbx
    have HW := hid hbw
    clear hb2 hbx hbw
    have ix := fun k hk => ix10 w.heap.size 1 k hk
    go_wp2_with fail
    go_loopg [3, 5, 12] 10 (fun gg s3 _ s12 wr => ∃ (kk : Nat) (q : Bool), kk ≤ 10 ∧ 10 - kk ≤ gg ∧ s3 = .bool q ∧ s12 = .int .i64 kk ∧ w2 = wr ∧ Hid (Cfg.sofar { lines := ls, times := t } kk = q))
    case atStart => exact ⟨0, q0, by omega, by omega, rfl, rfl, rfl, HZ.out⟩
    case round =>
      obtain ⟨kk, q, hkk, hg, rfl, rfl, rfl, HQ⟩ := hrel
      by_cases hlt : kk < 10
      · have hc := HT.out w2 _ _ _ HX.out kk hlt
        have hs := HB.out kk (by rw [Tm.nums_length]; exact hlt)
        generalize t.nums[kk]'(by rw [Tm.nums_length]; exact hlt) = v at hc hs
        have ixk := ix kk hlt
        have HSU := hid hs
        clear hs ix
        cases q with
        | false =>
          go_wp2
          go_roundg (10 - (kk + 1))
          case measure => omega
          case rel => exact ⟨kk + 1, false, by omega, by omega, rfl, by go_num, rfl, by rw [HSU.out, HQ.out]; rfl⟩
        | true =>
          have HV := hid (fun W => in_any v 1 6000 W)
          generalize hqv : Cfg.inB v 1 6000 = qv at HV
          have HQV := hid hqv
          clear hqv
          go_wp2_with (go_at_call 49; refine (HV.out _).mono ?_; rintro r w' ⟨rfl, rfl⟩)
          go_roundg (10 - (kk + 1))
          case measure => omega
          case rel => exact ⟨kk + 1, qv, by omega, by omega, rfl, by go_num, rfl, by rw [HSU.out, HQ.out, HQV.out]; rfl⟩
      · have e : kk = 10 := by omega
        subst e
        clear ix hg hkk hlt
        have hx0 := HX.out.cell 0
        simp only [List.getElem?_toArray, List.getElem?_cons_zero] at hx0
        cases q with
        | false =>
          go_wp2_with (go_at_call 42; refine (new_err _ _ _ (by omega)).mono ?_; rintro r w' ⟨x, rfl, hx, _, hb⟩)
          go_ret
          have ecd : cd = 6 := by rw [HCD.out, HQ.out]; rfl
          exact ⟨x, rfl, by rw [ecd]; exact hx, HW.out.trans (hb.mono HW.out.size)⟩
        | true =>
          have HD := hid (HC.out w2 (HS.out.below HW.out))
          have HNA := HN.out
          rw [HA.out] at HNA
          rw [HNA] at HD
          clear HNA
          cases ql with
          | true =>
            go_wp2_with (go_at_call 50; refine HD.out.mono ?_; rintro r w' ⟨rfl, hb⟩)
            go_ret
            have ecd : cd = 0 := by rw [HCD.out, HQ.out, HA.out]; rfl
            exact ⟨_, rfl, .inl ⟨rfl, ecd⟩, HW.out.trans (hb.mono HW.out.size)⟩
          | false =>
            go_wp2_with (first | (go_at_call 50; refine HD.out.mono ?_; rintro r w3 ⟨rfl, hb⟩) | (go_at_call 42; refine (new_err _ _ _ (by omega)).mono ?_; rintro r w' ⟨x, rfl, hx, _, hb'⟩))
            go_ret
            have ecd : cd = 6 := by rw [HCD.out, HQ.out, HA.out]; rfl
            exact ⟨x, rfl, by rw [ecd]; exact hx, HW.out.trans ((hb.trans (hb'.mono hb.size)).mono HW.out.size)⟩
end Go.Proofs.YtlijncmjcecppaaDoor
