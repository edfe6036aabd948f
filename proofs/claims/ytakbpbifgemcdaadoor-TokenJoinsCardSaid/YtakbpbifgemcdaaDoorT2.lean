/- Walks: token.value. Conditions: those written in each. -/
import Derived.Test.YtakbpbifgemcdaaDoorT1
namespace Go.Proofs.YtakbpbifgemcdaaDoor
open Go.RowKit
def valueV (o : Option Nat) : Value := match o with | some n => .tuple #[.int .u32 (n : Nat), .bool true] | none => .tuple #[.int .u32 0, .bool false]
set_option maxHeartbeats 1000000 in
theorem value_any (s : ByteArray) (hd : ∀ c ∈ L s, Tk.dig c = true) (hs : s.size ≤ 4611686018427387904) (w : World) :
    Calls Tryd.prog 69 #[.string s] w fun e w' => e = .returned (valueV (Tk.value (L s) 0)) ∧ w' = w := by
  generalize hV : valueV (Tk.value (L s) 0) = V
  go_enter Tryd.func69, Tryd.ntmps69
  go_wp2_with fail
  go_loop [4, 5, 8] (fun v _ i => ∃ (k n : Nat), k ≤ s.size ∧ n ≤ 4294967295 ∧ i = .int .i64 k ∧ v = .int .u64 n ∧ Tk.value (L s) 0 = Tk.value ((L s).drop k) n) (fun _ _ i => s.size - (Lib.intOf i).toNat)
  case atStart => exact ⟨0, 0, Nat.zero_le _, by decide, rfl, rfl, rfl⟩
  case round =>
    obtain ⟨k, n, hk, hn, rfl, rfl, hval⟩ := hrel
    have Hv := Lib.hid hval; clear hval
    have hstep : ∀ hlt : k < s.size, ∃ d : Nat, ((s[k]'hlt).toNat : Int) - 48 = (d : Int) ∧ d ≤ 9 ∧ Tk.value ((L s).drop k) n = if 10 * n + d > 4294967295 then none else Tk.value ((L s).drop (k + 1)) (10 * n + d) := fun hlt => by
      have hl : k < (L s).length := by rw [← L_size]; exact hlt
      have hc := hd _ (List.getElem_mem hl)
      have he : (L s)[k] = s[k]'hlt := rfl
      rw [he] at hc
      simp only [Tk.dig, Bool.and_eq_true, decide_eq_true_eq] at hc
      refine ⟨(s[k]'hlt).toNat - 48, by omega, by omega, ?_⟩
      rw [List.drop_eq_getElem_cons hl, Tk.value, he]
    have Hst := Lib.hid hstep; clear hstep
    by_cases hlt : k < s.size
    · obtain ⟨d, hd1, hd2, hd3⟩ := Hst.out hlt
      have Hd3 := Lib.hid hd3; clear hd3
      go_wp2_with fail
      · have hgt : (4294967295 : Int) < 10 * (n : Int) + (d : Int) := by assumption
        refine bodyPost_ret (v := .tuple #[.int .u32 0, .bool false]) (by simp [results, Tryd.results69, go_sem]) rfl ⟨?_, rfl⟩
        rw [← hV, Hv.out, Hd3.out, if_pos (by omega)]
        rfl
      · have hle : 10 * (n : Int) + (d : Int) ≤ (4294967295 : Int) := by assumption
        refine ⟨⟨k + 1, 10 * n + d, by omega, by omega, rfl, ?_, ?_⟩, ?_⟩
        · rfl
        · rw [Hv.out, Hd3.out, if_neg (by omega)]
        · simp [Lib.intOf]; omega
    · go_wp2_with fail
      refine bodyPost_ret (v := .tuple #[.int .u32 n, .bool true]) (by simp [results, Tryd.results69, go_sem]) rfl ⟨?_, rfl⟩
      obtain rfl : k = s.size := by omega
      rw [← hV, Hv.out, List.drop_eq_nil_of_le (by rw [L_size]; exact Nat.le_refl _)]
      rfl
end Go.Proofs.YtakbpbifgemcdaaDoor
