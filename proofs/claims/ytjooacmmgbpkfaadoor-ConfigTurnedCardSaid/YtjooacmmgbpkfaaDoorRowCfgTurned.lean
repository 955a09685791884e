/- ConfigTurned: for every configuration, place and turn the law returns true, and its input reads behind the call as before; errors.errorType's value is tied to the program's text. No further conditions. -/
import Derived.Test.YtjooacmmgbpkfaaDoorLaid
import Derived.Test.YtjooacmmgbpkfaaDoorOpenCfg
import Derived.Test.YtjooacmmgbpkfaaDoorCfgTurned
import Derived.Test.YtjooacmmgbpkfaaDoorTie
import Derived.Test.YtjooacmmgbpkfaaDoorCards
import Derived.SevenTiedAt
namespace Go.Proofs.YtjooacmmgbpkfaaDoor.configTurned
open Go.ChangeShapes Go.WideShapes Go.ChangeAt Go.RowKit Go.Joins
set_option linter.unusedVariables false

theorem own : ownKnob Tryd.prog.godebug = none := by kernel_rfl
theorem laidOut : laidOutB Tryd.prog = true := by kernel_rfl

set_option maxRecDepth 100000 in
theorem lifted (os : Os) (started : os.Started) (H : Type) (enc : TypeId × Value → H) :
    ReturnsInHanded {} Tryd.checked os 5 .any (fun w args => (Rows.configTurnedSpec.pre enc Tryd.prog Tryd.f5 [] false w args ∧ laidMetH Tryd.prog laidL w) ∧ sizedMet enc Tryd.prog Tryd.f5 (OpenSpec.ofChange Rows.configTurnedSpec) false w args)
      (Rows.configTurnedSpec.post enc Tryd.prog Tryd.f5 false true false false) := by
  refine returnsInHanded_of_change_and (C := Tryd.checked) (X := fun w _ => laidMetH Tryd.prog laidL w) (fun _ _ _ hh h => h.of_heap hh) own started (by kernel_rfl) Tryd.func5
    (ChangeSpec.witness_at (enc := enc) (C := Tryd.checked) (os := os) (X := fun w _ => laidMetH Tryd.prog laidL w) false (laidWorld os) #[.agg zeroCfg, .int .i64 0, .int .u16 0] 8 rfl (by kernel_rfl) (by kernel_rfl) (by kernel_rfl) (by kernel_rfl) (by kernel_rfl) (laidWorld_met os _)) ?_
  intro W base args ds gs before hval0 hW _ _ hL _
  have hval : ∀ (j : Nat) t v, Tryd.f5.params[j]? = some t → args[j]? = some v → Value.okWide Tryd.prog W .any base t v := hval0
  have hW' := hW
  obtain ⟨p, q, hA0, hV0, rfl, hfz, hnd⟩ := hW
  have hA : DataW.TrodAll enc Tryd.prog W 0 (fun _ => true) true Tryd.f5.params.toList args.toList ds p := hA0
  have hV : DataW.TrodVars enc Tryd.prog W (fun _ => true) [] gs q := hV0
  rw [Tryd.params5] at hA hval
  obtain ⟨v0, vs0, d0, ds0, p0, q0, hargs, rfl, rfl, h0, r0⟩ := trodAll_cons hA
  obtain ⟨v1, vs1, d1, ds1, p1, q1, rfl, rfl, rfl, h1, r1⟩ := trodAll_cons r0
  obtain ⟨v2, vs2, d2, ds2, p2, q2, rfl, rfl, rfl, h2, r2⟩ := trodAll_cons r1
  obtain ⟨rfl, rfl, rfl⟩ := trodAll_nil r2
  obtain rfl : args = #[v0, v1, v2] := by cases args; simp_all
  obtain ⟨rfl, rfl⟩ : gs = [] ∧ q = [] := by
    cases gs with
    | nil => exact ⟨rfl, hV⟩
    | cons g r => exact absurd hV (by intro h; cases h)
  have k0 := h0
  have lt0 : ∀ x ∈ p0, x.block < W.heap.size := by obtain ⟨m, hm⟩ := k0; exact DataW.trod_lt m _ _ _ hm
  obtain ⟨c, vc, rfl, hc⟩ := open_cfg (hval 0 26 v0 rfl rfl) h0
  obtain ⟨z1, rfl, rfl, rfl, w1⟩ := open_int Tryd.underlying3 (hval 1 3 v1 rfl rfl) h1
  obtain ⟨z2, rfl, rfl, rfl, w2⟩ := open_int Tryd.underlying23 (hval 2 23 v2 rfl rfl) h2
  have b2 := wf_u16 w2
  have b1 := bounds_i64 w1
  obtain ⟨tn, rfl⟩ : ∃ tn : Nat, z2 = (tn : Int) := ⟨z2.toNat, by omega⟩
  have hg := handle_of_laid hL
  refine (cfgturned_true c vc z1 tn W hc hg b1 (by omega)).mono fun e W' ⟨he, bel⟩ => ?_
  subst he
  exact ⟨_, rfl, _, _, _, [], _, [], hW', trodAll_mk1 (shut_bool Tryd.underlying4 _), (trodAll_cons_mk (Below.trod laidOut (by kernel_rfl) (of_decide_eq_true (by kernel_rfl)) k0 bel lt0) (trodAll_cons_mk (shut_int Tryd.underlying3 w1) (trodAll_cons_mk (shut_int Tryd.underlying23 w2) trodAll_mk0))), rfl, bel.frame _, fun h => by cases h⟩

theorem over : Rows.configTurnedRow.holds Tryd.pinned (OpenSpec.ofChange Rows.configTurnedSpec) :=
  OpenClaim.holds_of_wide 5 Tryd.f5 rfl rfl rfl rfl rfl rfl rfl ⟨rfl, rfl, rfl, rfl, rfl⟩ rfl rfl rfl rfl rfl (by kernel_rfl) Tryd.func5 (by kernel_rfl)
    (of_decide_eq_true (by kernel_rfl)) (by unfold Func.isWrapper; first | (rw [if_pos (by decide +kernel)]; kernel_rfl) | (rw [if_neg (by decide +kernel)]; exact ⟨rfl, rfl⟩))
    (fun os started H enc _ => lifted os started H enc)
theorem params_at (j : Nat) (t : TypeId) (ht : Tryd.f5.params[j]? = some t) : Tryd.prog.wantsStandIn t = false := by
  rw [Tryd.params5] at ht
  match j, ht with
  | 0, ht =>
    obtain rfl : t = 26 := by simpa using ht.symm
    exact (show Tryd.prog.wantsStandIn 26 = false by kernel_rfl)
  | 1, ht =>
    obtain rfl : t = 3 := by simpa using ht.symm
    exact (show Tryd.prog.wantsStandIn 3 = false by kernel_rfl)
  | 2, ht =>
    obtain rfl : t = 23 := by simpa using ht.symm
    exact (show Tryd.prog.wantsStandIn 23 = false by kernel_rfl)
  | j + 3, ht => simp at ht
theorem proved : Rows.ConfigTurnedCardSaid :=
  Claim7.holds_tied_plain_at .later [] [.handle] true (true, "635db712090f6612200e209023987af1bb0ab5f67e4613a01ecac8ae62b1ca9a") true
    over (fun _ h => by cases h) (by kernel_rfl) (fun _ h => by cases h) configTurned_row_tie rfl ⟨rfl, rfl⟩ (by kernel_rfl) rfl
    (fun f fn hf hfn => by
      obtain rfl : f = 5 := Option.some.inj ((show Tryd.prog.funcNamed "triune/triunelaw09.ConfigTurned" = some 5 by kernel_rfl).symm.trans hf) |>.symm
      obtain rfl : fn = Tryd.f5 := (Option.some.inj (Tryd.func5.symm.trans hfn)).symm
      exact ⟨by kernel_rfl, params_at⟩)
    (by kernel_rfl)
#print axioms proved
end Go.Proofs.YtjooacmmgbpkfaaDoor.configTurned
