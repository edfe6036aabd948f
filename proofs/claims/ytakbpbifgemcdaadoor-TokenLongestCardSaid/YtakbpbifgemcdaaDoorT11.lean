/- Walk: the law TokenLongest. Conditions: those written in each. -/
import Derived.Test.YtakbpbifgemcdaaDoorT10
namespace Go.Proofs.YtakbpbifgemcdaaDoor
open Go.RowKit
theorem bstr_cons (x : UInt8) (r : Tk.By) : (L (bstr (x :: r)))[0]? = some x := rfl
set_option maxRecDepth 100000 in
set_option maxHeartbeats 4000000 in
theorem goes_any (kd nm pl : Nat) (x : UInt8) (r : Tk.By) (c : UInt8) (w : World) :
    Calls Tryd.prog 28 #[.agg #[.int .i64 kd, .string (bstr (x :: r)), .int .u32 nm, .int .i64 pl], .int .u8 (c.toNat : Nat)] w fun e w' => e = .returned (.bool (Tk.goes kd (x :: r) c)) ∧ Below w.heap.size w w' := by
  have hix : ∀ w, (Instr.index 9 (.string (bstr (x :: r))) (.int .i64 0)).run Tryd.prog w = .ok (.int .u8 (x.toNat : Nat)) w := str_at (bstr_cons x r)
  have hsz : (bstr (x :: r)).size = r.length + 1 := rfl
  generalize bstr (x :: r) = T at *
  by_cases h2 : kd = 2
  · subst h2
    have hal : Below w.heap.size w (w.alloc (.cells #[.int .i64 2, .string T, .int .u32 nm, .int .i64 pl] 39)) := (Below.refl _ _).alloc (Nat.le_refl _) _
    go_enter Tryd.func28, Tryd.ntmps28
    go_wp2_with fail
    all_goals
      go_ret
      exact ⟨ret_bool (by simp [Tk.goes, Tk.dig, ← UInt8.toNat_inj]; try omega), hal⟩
  · by_cases h4 : kd = 4
    · subst h4
      have hal : Below w.heap.size w (w.alloc (.cells #[.int .i64 4, .string T, .int .u32 nm, .int .i64 pl] 39)) := (Below.refl _ _).alloc (Nat.le_refl _) _
      have hg : Tk.goes 4 (x :: r) c = true ↔ (x.toNat = c.toNat ∧ r.length = 0) ∧ (c.toNat = 60 ∨ c.toNat = 61 ∨ c.toNat = 38 ∨ c.toNat = 124) := by
        rw [List.length_eq_zero_iff]
        simp [Tk.goes, ← UInt8.toNat_inj]
      generalize Tk.goes 4 (x :: r) c = G at *
      generalize r.length = n at *
      have Hg := Lib.hid hg; clear hg
      go_enter Tryd.func28, Tryd.ntmps28
      go_wp2_with fail
      all_goals
        go_ret
        refine ⟨ret_bool ?_, hal⟩
        rw [Hg.out]
        simp
        try omega
    · have hal : Below w.heap.size w (w.alloc (.cells #[.int .i64 kd, .string T, .int .u32 nm, .int .i64 pl] 39)) := (Below.refl _ _).alloc (Nat.le_refl _) _
      have e1 : ((kd : Int) == 2) = false := by rw [beq_eq_false_iff_ne]; omega
      have e2 : ((kd : Int) == 4) = false := by rw [beq_eq_false_iff_ne]; omega
      go_enter Tryd.func28, Tryd.ntmps28
      go_wp2_with fail
      all_goals
        go_ret
        exact ⟨ret_bool (by simp [Tk.goes, Tk.inn, Tk.dig, Tk.ltr, h2, h4]; try omega), hal⟩
end Go.Proofs.YtakbpbifgemcdaaDoor
