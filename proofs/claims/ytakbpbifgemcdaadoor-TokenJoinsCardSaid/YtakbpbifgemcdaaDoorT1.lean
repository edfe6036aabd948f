/- Walks: the tests of a byte, and runs of bytes. No conditions but those written. -/
import Derived.Test.YtakbpbifgemcdaaDoorT0
import Derived.Test.YtakbpbifgemcdaaDoorPa
import Derived.Lib.Strings
import Derived.Lib.Slices
import Derived.Lib.SlicesS
import Derived.Lib.Walk
import Derived.WalkKit
import Derived.WalkSpells
import Derived.WalkLawsBesides
import Derived.Lib.Hide
import Derived.Deep.RegionWith
import Derived.StillTailTactics
import Derived.Deep.QuietTactic
import Derived.BigQuiet
import Derived.Deep.RegionHeld3
import Derived.BigRegion
namespace Go.Proofs.YtakbpbifgemcdaaDoor
open Go.RowKit
/-- A string's bytes. -/
abbrev L (s : ByteArray) : Tk.By := s.data.toList
theorem L_size (s : ByteArray) : s.size = (L s).length := Lib.size_eq s
theorem L_extract (s : ByteArray) (a b : Nat) : L (s.extract a b) = ((L s).drop a).take (b - a) := Lib.extract_data s a b
theorem str_at {s : ByteArray} {k : Nat} {c : UInt8} (h : (L s)[k]? = some c) (w : World) : (Instr.index 9 (.string s) (.int .i64 (k : Nat))).run Tryd.prog w = .ok (.int .u8 (c.toNat : Nat)) w := by
  obtain ⟨hk, hc⟩ := List.getElem?_eq_some_iff.1 h
  have hs : k < s.size := by rw [L_size]; exact hk
  have hki : (0 : Int) ≤ (k : Int) ∧ (k : Int) < (s.size : Int) := ⟨by omega, by omega⟩
  rw [run_index_string w 9 s .i64 k Tryd.underlying9, dif_pos hki]
  have : s[k]'hs = c := by rw [← hc]; rfl
  simp [this]
theorem ret_bool {b b' : Bool} (h : b = true ↔ b' = true) : Ending.returned (.bool b) = .returned (.bool b') := by rw [Bool.eq_iff_iff.2 h]
set_option maxHeartbeats 1000000 in
theorem letter_any (c : UInt8) (w : World) : Calls Tryd.prog 50 #[.int .u8 (c.toNat : Nat)] w fun e w' => e = .returned (.bool (Tk.ltr c)) ∧ w' = w := by
  go_enter Tryd.func50, Tryd.ntmps50
  go_wp2
  all_goals
    go_ret
    exact ⟨ret_bool (by simp [Tk.ltr]; omega), rfl⟩
theorem digit_any (c : UInt8) (w : World) : Calls Tryd.prog 68 #[.int .u8 (c.toNat : Nat)] w fun e w' => e = .returned (.bool (Tk.dig c)) ∧ w' = w := by
  go_enter Tryd.func68, Tryd.ntmps68
  go_wp2
  all_goals
    go_ret
    exact ⟨ret_bool (by simp [Tk.dig]; omega), rfl⟩
set_option maxHeartbeats 1000000 in
theorem rletter_any (c : UInt8) (w : World) : Calls Tryd.prog 53 #[.int .u8 (c.toNat : Nat)] w fun e w' => e = .returned (.bool (Tk.ltr c)) ∧ w' = w := by
  go_enter Tryd.func53, Tryd.ntmps53
  go_wp2
  all_goals
    go_ret
    exact ⟨ret_bool (by simp [Tk.ltr]; omega), rfl⟩
theorem rdigit_any (c : UInt8) (w : World) : Calls Tryd.prog 56 #[.int .u8 (c.toNat : Nat)] w fun e w' => e = .returned (.bool (Tk.dig c)) ∧ w' = w := by
  go_enter Tryd.func56, Tryd.ntmps56
  go_wp2
  all_goals
    go_ret
    exact ⟨ret_bool (by simp [Tk.dig]; omega), rfl⟩
theorem line_any (c : UInt8) (w : World) : Calls Tryd.prog 39 #[.int .u8 (c.toNat : Nat)] w fun e w' => e = .returned (.bool (Tk.lineEnd c)) ∧ w' = w := by
  go_enter Tryd.func39, Tryd.ntmps39
  go_wp2
  all_goals
    go_ret
    exact ⟨ret_bool (by simp [Tk.lineEnd, bne]; omega), rfl⟩
theorem inner_any (c : UInt8) (w : World) : Calls Tryd.prog 51 #[.int .u8 (c.toNat : Nat)] w fun e w' => e = .returned (.bool (Tk.inn c)) ∧ w' = w := by
  cases h1 : Tk.ltr c <;> cases h2 : Tk.dig c <;>
  · go_enter Tryd.func51, Tryd.ntmps51
    go_wp2_with (first
      | (go_at_call 50; refine (letter_any c _).mono ?_; rintro e w' ⟨rfl, rfl⟩; rw [h1])
      | (go_at_call 68; refine (digit_any c _).mono ?_; rintro e w' ⟨rfl, rfl⟩; rw [h2]))
    all_goals
      go_ret
      exact ⟨ret_bool (by simp [Tk.inn, h1, h2]; try omega), rfl⟩
/-- A function value that tells of a byte. -/
def Tells (f : Value) (p : UInt8 → Bool) : Prop :=
  ∃ g, f = .func (.func g) #[] #[] ∧ (∀ args w, (callFunc g args).run Tryd.prog w = .ok (.enter g args) w) ∧ ∀ (c : UInt8) w, Calls Tryd.prog g #[.int .u8 (c.toNat : Nat)] w fun e w' => e = .returned (.bool (p c)) ∧ w' = w
theorem digit_tells : Tells (.func (.func 68) #[] #[]) Tk.dig := ⟨68, rfl, fun args w => by kernel_rfl, digit_any⟩
theorem inner_tells : Tells (.func (.func 51) #[] #[]) Tk.inn := ⟨51, rfl, fun args w => by kernel_rfl, inner_any⟩
theorem line_tells : Tells (.func (.func 39) #[] #[]) Tk.lineEnd := ⟨39, rfl, fun args w => by kernel_rfl, line_any⟩
theorem tw_in {p : UInt8 → Bool} : ∀ {l : Tk.By} {k : Nat}, k < (l.takeWhile p).length → ∃ c, l[k]? = some c ∧ p c = true
  | [], k, h => by simp at h
  | a :: l, k, h => by
    by_cases ha : p a = true
    · simp only [List.takeWhile, ha, List.length_cons] at h
      cases k with
      | zero => exact ⟨a, rfl, ha⟩
      | succ k => exact tw_in (l := l) (k := k) (by omega)
    · simp [List.takeWhile, ha] at h
theorem tw_out {p : UInt8 → Bool} : ∀ {l : Tk.By} {c : UInt8}, l[(l.takeWhile p).length]? = some c → p c = false
  | [], c, h => by simp at h
  | a :: l, c, h => by
    by_cases ha : p a = true
    · simp only [List.takeWhile, ha, List.length_cons] at h
      exact tw_out (l := l) h
    · simp only [List.takeWhile, ha, List.length_nil] at h
      simp at h
      subst h
      simpa using ha
theorem tw_le {p : UInt8 → Bool} (l : Tk.By) : (l.takeWhile p).length ≤ l.length := (List.takeWhile_prefix p).length_le
set_option maxHeartbeats 1000000 in
theorem run_any (s : ByteArray) (a : Nat) (f : Value) (p : UInt8 → Bool) (hf : Tells f p) (hs : s.size ≤ 4611686018427387904) (ha : a ≤ s.size) (w : World) :
    Calls Tryd.prog 38 #[.string s, .int .i64 (a : Nat), f] w fun e w' => e = .returned (.int .i64 ((((L s).drop a).takeWhile p).length : Nat)) ∧ w' = w := by
  obtain ⟨g, rfl, hcf, hf⟩ := hf
  generalize hm : (((L s).drop a).takeWhile p).length = m
  have hml : a + m ≤ s.size := by rw [← hm, L_size]; have := tw_le (p := p) ((L s).drop a); rw [List.length_drop] at this; rw [L_size] at ha; omega
  go_enter Tryd.func38, Tryd.ntmps38
  go_wp2_with fail
  go_loop [7] (fun i => ∃ k : Nat, k ≤ m ∧ i = .int .i64 k) (fun i => m - (Lib.intOf i).toNat)
  case atStart => exact ⟨0, Nat.zero_le _, rfl⟩
  case round =>
    obtain ⟨k, hk, rfl⟩ := hrel
    go_wp2_with fail
    · have hlt : (a : Int) + (k : Int) < (s.size : Int) := by assumption
      have hn : a + k < s.size := by omega
      have hget : ((L s).drop a)[k]? = some (s[a + k]'hn) := by
        rw [List.getElem?_drop]
        exact List.getElem?_eq_some_iff.2 ⟨by rw [← L_size]; exact hn, rfl⟩
      refine (hf _ _).mono ?_
      rintro e w' ⟨rfl, rfl⟩
      by_cases hkm : k < m
      · have hp : p (s[a + k]'hn) = true := by
          obtain ⟨c, h1, h2⟩ := tw_in (p := p) (l := (L s).drop a) (k := k) (by rw [hm]; exact hkm)
          rw [hget] at h1
          cases h1
          exact h2
        rw [hp]
        go_wp2
        go_round
        · exact ⟨k + 1, by omega, by go_num⟩
        · simp [Lib.intOf]; omega
      · obtain rfl : k = m := by omega
        have hp : p (s[a + k]'hn) = false := tw_out (l := (L s).drop a) (by rw [hm]; exact hget)
        rw [hp]
        go_wp2
        go_ret
        exact ⟨rfl, rfl⟩
    · have hge : (s.size : Int) ≤ (a : Int) + (k : Int) := by assumption
      obtain rfl : k = m := by omega
      go_ret
      exact ⟨rfl, rfl⟩
end Go.Proofs.YtakbpbifgemcdaaDoor
