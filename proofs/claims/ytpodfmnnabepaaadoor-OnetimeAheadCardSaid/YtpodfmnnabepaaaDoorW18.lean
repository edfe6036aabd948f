import Derived.Test.YtpodfmnnabepaaaDoorW17
import Derived.Test.YtpodfmnnabepaaaDoorW14
namespace Go.Proofs.YtpodfmnnabepaaaDoor
open Go.RowKit
open Ot (Dg)
set_option maxRecDepth 100000 in
theorem ints_any (v u : Value) (l : List Nat) (w : World) (hv : NumAt w v l) (hu : NumAt w u l) : Calls Tryd.prog 18 #[v, u] w fun e w' => e = .returned (.bool true) ∧ Below w.heap.size w w' := by
  obtain ⟨g, cap, rfl, hgl, hg⟩ := hv
  obtain ⟨g', cap', rfl, hgl', hg'⟩ := hu
  have Hg := Lib.hid hg; clear hg
  have Hg' := Lib.hid hg'; clear hg'
  go_enter Tryd.func18, Tryd.ntmps18
  go_wp2_with fail
  go_loopw [5] (fun i wr => ∃ k : Nat, k ≤ 35 ∧ i = .int .i64 k ∧ Below w.heap.size w wr) (fun i wr => 35 - (intOf i).toNat)
  case atStart => exact ⟨0, by omega, rfl, Below.refl _ _⟩
  case round =>
    obtain ⟨k, hk, rfl, hb⟩ := hrel
    by_cases hlt : k < 35
    · have ca := (hb.cell (p := ⟨g, k, none⟩) hgl).trans (Hg.out k hlt)
      have cb := (hb.cell (p := ⟨g', k, none⟩) hgl').trans (Hg'.out k hlt)
      generalize l.getD k 0 = a at *
      have hk1 : (k : Int) < 35 := by omega
      have hk0 : (0 : Int) ≤ (k : Int) := by omega
      have hd : decide ((k : Int) < 35) = true := by simp; omega
      go_wp2_with fail
      go_quiet (fail)
      go_wp2
      go_roundw
      case rel => exact ⟨k + 1, by omega, by go_num, pw_drewN hb _⟩
      case measure => simp [intOf]; omega
    · obtain rfl : k = 35 := by omega
      go_wp2
      go_ret
      exact ⟨rfl, hb⟩
end Go.Proofs.YtpodfmnnabepaaaDoor
