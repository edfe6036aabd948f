/- QuorumMore: for every Ask and list of signatures the law returns true and the arguments read as before. Conditions: those of the given statement alone (the table seedcorn/digest.turns reads as the program's text lays it, which the card ties). -/
import Derived.Test.YtpodfmnnabepaaaDoorCards
import Derived.Test.YtpodfmnnabepaaaDoorM5
import Derived.Test.YtpodfmnnabepaaaDoorM8
import Derived.Test.YtpodfmnnabepaaaDoorM11
namespace Go.Proofs.YtpodfmnnabepaaaDoor
open Go Go.ChangeShapes Go.WideShapes Go.ChangeAt Go.RowKit
open Ot (Dg)
set_option maxRecDepth 100000 in
theorem quorumMore_lifted (os : Os) (started : os.Started) (H : Type) (enc : TypeId × Value → H) :
    ReturnsInHanded {} Tryd.checked os 13 .any (fun w args => (Rows.quorumMoreSpec.pre enc Tryd.prog Tryd.f13 [] false w args ∧ laidMetH Tryd.prog laidT w) ∧ sizedMet enc Tryd.prog Tryd.f13 (OpenSpec.ofChange Rows.quorumMoreSpec) false w args)
      (Rows.quorumMoreSpec.post enc Tryd.prog Tryd.f13 false true false false) := by
  refine returnsInHanded_of_change_and (C := Tryd.checked) (X := fun w _ => laidMetH Tryd.prog laidT w) (fun _ _ _ hh h => h.of_heap hh) own started (by kernel_rfl) Tryd.func13
    (ChangeSpec.witness_shaped (enc := enc) (C := Tryd.checked) (os := os) (X := fun w _ => laidMetH Tryd.prog laidT w) false (World.laidAll Tryd.prog os laidT) #[(.agg #[.slice none 0 0, .int .i64 0, .int .u32 0, .int .u32 0, .int .u32 0, .int .u32 0, .slice none 0 0]), (.slice none 0 0)] 8 (World.laidAll_os _ _ _)
      (World.shaped_of_ZipB (by kernel_rfl) (by kernel_rfl)) (by kernel_rfl) (by kernel_rfl) (by kernel_rfl)
      (by rw [MakeChecks.laidMetH_plain _ _ _ (by kernel_rfl)]; exact laidMet_laidAll _ (by kernel_rfl) (by kernel_rfl))) ?_
  intro W base args ds gs before hval0 hW _ _ hL _
  have hval : ∀ (j : Nat) t v, Tryd.f13.params[j]? = some t → args[j]? = some v → Value.okWide Tryd.prog W .any base t v := hval0
  have hW' := hW
  obtain ⟨p, q, hA0, hV, rfl, _, _⟩ := hW
  have hA : DataW.TrodAll enc Tryd.prog W 0 (fun _ => true) true Tryd.f13.params.toList args.toList ds p := hA0
  rw [Tryd.params13] at hA hval
  obtain ⟨v0, v1, d0, d1, p0, p1, rfl, rfl, rfl, h0, h1⟩ := trodAll_two hA
  obtain ⟨rfl, rfl⟩ := trodVars_none hV
  obtain ⟨bs0, n0, m0, L0, bv0, lv0, rfl, k0a, k0b, k0c, k0d, k0e, k0f⟩ := open_qask (hval 0 52 v0 rfl rfl) h0
  obtain ⟨L1, k1a, k1b⟩ := open_sgs (hval 1 50 v1 rfl rfl) h1
  try simp only [List.append_nil] at hW'
  refine (lmore_any bs0 n0 m0 L0 bv0 lv0 L1 v1 W (tn_of_laid hL) k0a k0b k0c k0d k0e k0f k1a k1b).mono fun e W' ⟨he, hb⟩ => ?_
  subst he
  exact ⟨_, rfl, _, _, _, _, _, [], hW', trodAll_mk1 (shut_bool Tryd.underlying4 _), trodAll_mk2 (Below.trod laidOut (by kernel_rfl) (of_decide_eq_true (by kernel_rfl)) h0 hb (fun x hx => by simpa using hW'.lt x (by simp [hx]))) (Below.trod laidOut (by kernel_rfl) (of_decide_eq_true (by kernel_rfl)) h1 hb (fun x hx => by simpa using hW'.lt x (by simp [hx]))), rfl, hb.frame _, fun h => by cases h⟩
theorem quorumMore_holds : Rows.QuorumMoreSaid :=
  OpenClaim.holds_of_wide 13 Tryd.f13 rfl rfl rfl rfl rfl rfl rfl ⟨rfl, rfl, rfl, rfl, rfl⟩ rfl rfl rfl rfl rfl (by kernel_rfl) Tryd.func13 (by kernel_rfl)
    (of_decide_eq_true (by kernel_rfl)) (by unfold Func.isWrapper; first | (rw [if_pos (by decide +kernel)]; kernel_rfl) | (rw [if_neg (by decide +kernel)]; exact ⟨rfl, rfl⟩))
    (fun os started H enc _ => quorumMore_lifted os started H enc)
theorem quorumMore_card : Rows.QuorumMoreCardSaid :=
  Claim7.holds_tied_plain_at .later [] [.data] true (true, "c3c52f4f4f809bbca110d0149b10593e80f9ec098c59ea68e09b02632895fec7") false quorumMore_holds (fun _ h => by cases h) (by kernel_rfl) (fun _ h => by cases h) quorumMore_row_tie rfl ⟨rfl, rfl⟩ (by kernel_rfl) rfl
    (fun f fn hf hfn => by
      obtain rfl : f = 13 := Option.some.inj ((show Tryd.prog.funcNamed "seedcorn/seedcornlaw45.QuorumMore" = some 13 by kernel_rfl).symm.trans hf) |>.symm
      obtain rfl : fn = Tryd.f13 := (Option.some.inj (Tryd.func13.symm.trans hfn)).symm
      exact ⟨by kernel_rfl, fun j t ht => by
        rw [Tryd.params13] at ht
        have hm : t ∈ [52, 50] := by simpa using Array.mem_of_getElem? ht
        have hall : ([52, 50].all fun u => !Tryd.prog.wantsStandIn u) = true := by kernel_rfl
        exact (show Tryd.prog.wantsStandIn t = false by simpa using List.all_eq_true.1 hall t hm)⟩)
    (by kernel_rfl)
#print axioms quorumMore_card
end Go.Proofs.YtpodfmnnabepaaaDoor
