/- ConfigTurned: of any crossing, any number and any byte the law answers true; the input reads behind the call as before. Condition: the package-level variable errors.errorType is what the program's text lays (tied). -/
import Derived.Test.YtlijncmjcecppaaDoorOpen
import Derived.Test.YtlijncmjcecppaaDoorOpenB
import Derived.Test.YtlijncmjcecppaaDoorLawTurned
namespace Go.Proofs.YtlijncmjcecppaaDoor
open Go.ChangeShapes Go.WideShapes Go.RowKit
set_option maxRecDepth 100000

theorem configTurned_walk {H : Type} {enc : TypeId × Value → H} (W : World) (base : Nat) (args : Array Value) (ds : List (DataW H)) (p : List MemPlace)
    (hval : ∀ (j : Nat) t v, Tryd.f8.params[j]? = some t → args[j]? = some v → Value.okWide Tryd.prog W .any base t v)
    (hA : DataW.TrodAll enc Tryd.prog W 0 (fun _ => true) true Tryd.f8.params.toList args.toList ds p) (hg : ErrTypeAt W) :
    Calls Tryd.prog 8 args W fun e W' => e = .returned (.bool true) ∧ Below W.heap.size W W' := by
  rw [Tryd.params8] at hA hval
  obtain ⟨v0, v1, v2, d0, d1, d2, p0, p1, p2, rfl, rfl, rfl, h0, h1, h2⟩ := trodAll_three hA
  obtain ⟨c, c_A, c_cap, rfl, c_see, c_fits⟩ := open_config (hval 0 39 v0 rfl rfl) h0
  obtain ⟨k, rfl, rfl, rfl, k_wf⟩ := open_int Tryd.underlying3 (hval 1 3 v1 rfl rfl) h1
  have k_fits : I64 k := bounds_i64 k_wf
  obtain ⟨b, rfl, rfl, rfl, b_wf⟩ := open_int Tryd.underlying5 (hval 2 5 v2 rfl rfl) h2
  exact turned_any_law c c_A c_cap k b W hg c_see (bounds_u8 b_wf).1 (bounds_u8 b_wf).2

theorem configTurned_lifted (os : Os) (started : os.Started) (H : Type) (enc : TypeId × Value → H) :
    ReturnsInHanded {} Tryd.checked os 8 .any (fun w args => (Rows.configTurnedSpec.pre enc Tryd.prog Tryd.f8 [] false w args ∧ laidMetH Tryd.prog laidAll w) ∧ sizedMet enc Tryd.prog Tryd.f8 (OpenSpec.ofChange Rows.configTurnedSpec) false w args)
      (Rows.configTurnedSpec.post enc Tryd.prog Tryd.f8 false true false false) := by
  refine law_lifted Tryd.func8 (by kernel_rfl) rfl rfl ?_ ?_ os started H enc
    (ChangeSpec.witness_at (enc := enc) (C := Tryd.checked) (os := os) (X := fun w _ => laidMetH Tryd.prog laidAll w) false (laidWorld os) #[.agg #[.slice none 0 0, .int .i64 0, .int .i64 0, .int .i64 0, .int .i64 0, .int .i64 0, .int .i64 0, .int .i64 0, .int .i64 0, .int .i64 0, .int .i64 0], .int .i64 0, .int .u8 0] 8 rfl (by kernel_rfl) (by kernel_rfl) (by kernel_rfl) (by kernel_rfl) (by kernel_rfl) (laidWorld_met os _))
    (fun W base args ds p hval hA hg => configTurned_walk W base args ds p hval hA hg)
  · intro t ht
    rw [Tryd.params8] at ht
    simp only [List.mem_cons, List.not_mem_nil, or_false] at ht
    rcases ht with rfl | rfl | rfl
    all_goals exact ⟨by kernel_rfl, of_decide_eq_true (by kernel_rfl)⟩
  · intro H ds hds
    rw [Tryd.params8] at hds
    match ds, hds with
    | [d0, d1, d2], _ => rfl

theorem configTurned_holds : Rows.ConfigTurnedSaid :=
  OpenClaim.holds_of_wide 8 Tryd.f8 rfl rfl rfl rfl rfl rfl rfl ⟨rfl, rfl, rfl, rfl, rfl⟩ rfl rfl rfl rfl rfl (by kernel_rfl) Tryd.func8 (by kernel_rfl)
    (of_decide_eq_true (by kernel_rfl)) (by unfold Func.isWrapper; rw [if_neg (of_decide_eq_false (by kernel_rfl))]; exact ⟨rfl, rfl⟩)
    (fun os started H enc _ => configTurned_lifted os started H enc)

theorem configTurned_card : Rows.ConfigTurnedCardSaid :=
  Claim7.holds_tied_plain_at .later [] [.handle] true (true, "547064edb85859ee3bd88473c107612762eac7ac2779b50e144785093365986b") true
    configTurned_holds (fun _ h => by cases h) (by kernel_rfl) (fun _ h => by cases h) configTurned_row_tie rfl ⟨rfl, rfl⟩ (by kernel_rfl) rfl
    (fun f fn hf hfn => by
      obtain rfl : f = 8 := Option.some.inj ((show Tryd.prog.funcNamed "crossbuck/crossbucklaw08.ConfigTurned" = some 8 by kernel_rfl).symm.trans hf) |>.symm
      obtain rfl : fn = Tryd.f8 := (Option.some.inj (Tryd.func8.symm.trans hfn)).symm
      exact ⟨by kernel_rfl, fun j t ht => by
        rw [Tryd.params8] at ht
        have hm := List.mem_of_getElem? (l := [39, 3, 5]) (i := j) (a := t) (by simpa using ht)
        simp only [List.mem_cons, List.not_mem_nil, or_false] at hm
        rcases hm with rfl | rfl | rfl
        all_goals (show _ = _; kernel_rfl)⟩)
    (by kernel_rfl)
#print axioms configTurned_card
end Go.Proofs.YtlijncmjcecppaaDoor
