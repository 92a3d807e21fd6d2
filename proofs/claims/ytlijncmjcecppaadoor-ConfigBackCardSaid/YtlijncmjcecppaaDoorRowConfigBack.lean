/- ConfigBack: of any crossing and any bytes the law answers true; the input reads behind the call as before. Condition: the package-level variable errors.errorType is what the program's text lays (tied). -/
import Derived.Test.YtlijncmjcecppaaDoorOpen
import Derived.Test.YtlijncmjcecppaaDoorOpenB
import Derived.Test.YtlijncmjcecppaaDoorLawBack
namespace Go.Proofs.YtlijncmjcecppaaDoor
open Go.ChangeShapes Go.WideShapes Go.RowKit
set_option maxRecDepth 100000

theorem configBack_walk {H : Type} {enc : TypeId × Value → H} (W : World) (base : Nat) (args : Array Value) (ds : List (DataW H)) (p : List MemPlace)
    (hval : ∀ (j : Nat) t v, Tryd.f7.params[j]? = some t → args[j]? = some v → Value.okWide Tryd.prog W .any base t v)
    (hA : DataW.TrodAll enc Tryd.prog W 0 (fun _ => true) true Tryd.f7.params.toList args.toList ds p) (hg : ErrTypeAt W) :
    Calls Tryd.prog 7 args W fun e W' => e = .returned (.bool true) ∧ Below W.heap.size W W' := by
  rw [Tryd.params7] at hA hval
  obtain ⟨v0, v1, d0, d1, p0, p1, rfl, rfl, rfl, h0, h1⟩ := trodAll_two hA
  obtain ⟨c, c_A, c_cap, rfl, c_see, c_fits⟩ := open_config (hval 0 39 v0 rfl rfl) h0
  obtain ⟨b, b_see⟩ := open_bytes (hval 1 42 v1 rfl rfl) h1
  exact configBack_any c b _ c_A c_cap W hg c_see b_see

theorem configBack_lifted (os : Os) (started : os.Started) (H : Type) (enc : TypeId × Value → H) :
    ReturnsInHanded {} Tryd.checked os 7 .any (fun w args => (Rows.configBackSpec.pre enc Tryd.prog Tryd.f7 [] false w args ∧ laidMetH Tryd.prog laidAll w) ∧ sizedMet enc Tryd.prog Tryd.f7 (OpenSpec.ofChange Rows.configBackSpec) false w args)
      (Rows.configBackSpec.post enc Tryd.prog Tryd.f7 false true false false) := by
  refine law_lifted Tryd.func7 (by kernel_rfl) rfl rfl ?_ ?_ os started H enc
    (ChangeSpec.witness_at (enc := enc) (C := Tryd.checked) (os := os) (X := fun w _ => laidMetH Tryd.prog laidAll w) false (laidWorld os) #[.agg #[.slice none 0 0, .int .i64 0, .int .i64 0, .int .i64 0, .int .i64 0, .int .i64 0, .int .i64 0, .int .i64 0, .int .i64 0, .int .i64 0, .int .i64 0], .slice none 0 0] 8 rfl (by kernel_rfl) (by kernel_rfl) (by kernel_rfl) (by kernel_rfl) (by kernel_rfl) (laidWorld_met os _))
    (fun W base args ds p hval hA hg => configBack_walk W base args ds p hval hA hg)
  · intro t ht
    rw [Tryd.params7] at ht
    simp only [List.mem_cons, List.not_mem_nil, or_false] at ht
    rcases ht with rfl | rfl
    all_goals exact ⟨by kernel_rfl, of_decide_eq_true (by kernel_rfl)⟩
  · intro H ds hds
    rw [Tryd.params7] at hds
    match ds, hds with
    | [d0, d1], _ => rfl

theorem configBack_holds : Rows.ConfigBackSaid :=
  OpenClaim.holds_of_wide 7 Tryd.f7 rfl rfl rfl rfl rfl rfl rfl ⟨rfl, rfl, rfl, rfl, rfl⟩ rfl rfl rfl rfl rfl (by kernel_rfl) Tryd.func7 (by kernel_rfl)
    (of_decide_eq_true (by kernel_rfl)) (by unfold Func.isWrapper; rw [if_neg (of_decide_eq_false (by kernel_rfl))]; exact ⟨rfl, rfl⟩)
    (fun os started H enc _ => configBack_lifted os started H enc)

theorem configBack_card : Rows.ConfigBackCardSaid :=
  Claim7.holds_tied_plain_at .later [] [.handle] true (true, "547064edb85859ee3bd88473c107612762eac7ac2779b50e144785093365986b") true
    configBack_holds (fun _ h => by cases h) (by kernel_rfl) (fun _ h => by cases h) configBack_row_tie rfl ⟨rfl, rfl⟩ (by kernel_rfl) rfl
    (fun f fn hf hfn => by
      obtain rfl : f = 7 := Option.some.inj ((show Tryd.prog.funcNamed "crossbuck/crossbucklaw08.ConfigBack" = some 7 by kernel_rfl).symm.trans hf) |>.symm
      obtain rfl : fn = Tryd.f7 := (Option.some.inj (Tryd.func7.symm.trans hfn)).symm
      exact ⟨by kernel_rfl, fun j t ht => by
        rw [Tryd.params7] at ht
        have hm := List.mem_of_getElem? (l := [39, 42]) (i := j) (a := t) (by simpa using ht)
        simp only [List.mem_cons, List.not_mem_nil, or_false] at hm
        rcases hm with rfl | rfl
        all_goals (show _ = _; kernel_rfl)⟩)
    (by kernel_rfl)
#print axioms configBack_card
end Go.Proofs.YtlijncmjcecppaaDoor
