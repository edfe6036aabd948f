/- Walks: the document's begins, pass and Empty. Conditions: those written in each. -/
import Derived.Test.YtakbpbifgemcdaaDoorT6
namespace Go.Proofs.YtakbpbifgemcdaaDoor
open Go.RowKit
theorem rbegins_any (s : ByteArray) (a : Nat) (ha : a ≤ s.size) (hs : s.size ≤ 4611686018427387904) (w : World) :
    Calls Tryd.prog 70 #[.string s, .int .i64 (a : Nat), .string ⟨#[47, 47]⟩] w fun e w' => e = .returned (.bool (Tk.isNote ((L s).drop a))) ∧ w' = w := by
  have hT : (s.extract a (a + 2)).toList = ((L s).drop a).take 2 := by rw [Lib.extract_toList, Nat.add_sub_cancel_left]
  have hB : (⟨#[47, 47]⟩ : ByteArray).toList = [47, 47] := by rw [Lib.toList_data]
  have hn : Tk.isNote ((L s).drop a) = (decide (2 ≤ ((L s).drop a).length) && (((L s).drop a).take 2 == [47, 47])) := (Lib.hasPrefix_of_take ((L s).drop a) [47, 47]).symm
  have hl : ((L s).drop a).length = s.size - a := by rw [List.length_drop, ← L_size]
  rw [hn, hl]
  clear hn hl
  have e2 : ((a : Int) + 2).toNat = a + 2 := by omega
  by_cases h2 : a + 2 ≤ s.size
  · have q : decide ((a : Int) + 2 ≤ (s.size : Int)) = true := by simp; omega
    have q1 : (a : Int) + 2 ≤ (s.size : Int) := by omega
    rw [decide_eq_true (show 2 ≤ s.size - a by omega), Bool.true_and, ← hT]
    clear hT hB
    go_enter Tryd.func70, Tryd.ntmps70
    go_wp2_with fail
    go_ret
    exact ⟨rfl, rfl⟩
  · have q : decide ((a : Int) + 2 ≤ (s.size : Int)) = false := by simp; omega
    rw [decide_eq_false (show ¬ 2 ≤ s.size - a by omega), Bool.false_and]
    clear hT hB
    go_enter Tryd.func70, Tryd.ntmps70
    go_wp2_with fail
    go_ret
    exact ⟨rfl, rfl⟩
theorem skip_go_note {l : Tk.By} (hb : ∀ c, l.head? = some c → Tk.blank c = false) (h : Tk.isNote l = true) : Tk.skip l = (l.takeWhile Tk.lineEnd).length + Tk.skip (l.drop (l.takeWhile Tk.lineEnd).length) := by
  obtain ⟨q, rfl⟩ := Tk.isNote_iff.1 h
  simp only [Tk.skip]
  rw [List.length_cons, Tk.skipF, if_neg (by simp [hb 47 rfl]), if_pos h]
  congr 1
  refine Tk.skipF_fuel _ _ _ ?_ (Nat.le_refl _)
  simp only [List.length_drop, List.takeWhile, Tk.lineEnd_slash, List.length_cons]
  omega
theorem skip_stop {c : UInt8} {l : Tk.By} (hb : Tk.blank c = false) (h : Tk.isNote (c :: l) = false) : Tk.skip (c :: l) = 0 := by
  simp only [Tk.skip]
  rw [List.length_cons, Tk.skipF, if_neg (by simp [hb]), if_neg (by simp [h])]
set_option maxRecDepth 100000 in
set_option maxHeartbeats 2000000 in
theorem pass_any (s : ByteArray) (hs : s.size ≤ 4611686018427387904) (w : World) : Calls Tryd.prog 41 #[.string s, .int .i64 0] w fun e w' => e = .returned (.int .i64 (Tk.skip (L s) : Nat)) ∧ w' = w := by
  generalize hR : Tk.skip (L s) = R
  have HR := Lib.hid hR; clear hR
  go_enter Tryd.func41, Tryd.ntmps41
  go_wp2_with fail
  go_loopw [1] (fun i wr => wr = w ∧ ∃ a : Nat, a ≤ s.size ∧ i = .int .i64 a ∧ R = a + Tk.skip ((L s).drop a)) (fun i _ => s.size - (Lib.intOf i).toNat)
  case atStart => exact ⟨rfl, 0, by omega, rfl, by rw [← HR.out, List.drop_zero, Nat.zero_add]⟩
  case round =>
    obtain ⟨rfl, a, ha, rfl, hrel⟩ := hrel
    have Hrel := Lib.hid hrel; clear hrel
    by_cases hlt : a < s.size
    · have hc := drop_cons hlt
      cases hbl : Tk.blank (s[a]'hlt) with
      | true =>
        have hstep : Tk.skip ((L s).drop a) = 1 + Tk.skip ((L s).drop (a + 1)) := by rw [hc, Tk.skip_blank hbl]
        have Hst := Lib.hid hstep; clear hstep hc
        have hb32 : (s[a]'hlt).toNat = 32 ∨ (s[a]'hlt).toNat = 9 ∨ (s[a]'hlt).toNat = 10 := by
          simp only [Tk.blank, Bool.or_eq_true, decide_eq_true_eq] at hbl; omega
        clear hbl
        go_wp2_with fail
        all_goals first
          | (refine ⟨⟨trivial, a + 1, by omega, by go_num, ?_⟩, ?_⟩
             · rw [Hrel.out, Hst.out]; omega
             · simp [Lib.intOf]; omega)
          | (exfalso; simp only [beq_eq_false_iff_ne] at *; omega)
      | false =>
        have e1 : (((s[a]'hlt).toNat : Int) == 32) = false := by rw [beq_eq_false_iff_ne]; simp [Tk.blank] at hbl; omega
        have e2 : (((s[a]'hlt).toNat : Int) == 9) = false := by rw [beq_eq_false_iff_ne]; simp [Tk.blank] at hbl; omega
        have e3 : (((s[a]'hlt).toNat : Int) == 10) = false := by rw [beq_eq_false_iff_ne]; simp [Tk.blank] at hbl; omega
        have hbeg := fun w' => rbegins_any s a ha hs w'
        cases hnt : Tk.isNote ((L s).drop a) with
        | true =>
          rw [hnt] at hbeg
          have Hbeg := Lib.hid hbeg; clear hbeg
          have hstep := skip_go_note (l := (L s).drop a) (by rw [hc]; intro c h; simp at h; rw [← h]; exact hbl) hnt
          have hn0 : (((L s).drop a).takeWhile Tk.lineEnd).length ≠ 0 := by
            obtain ⟨q, hq⟩ := Tk.isNote_iff.1 hnt
            rw [hq]; simp [List.takeWhile, Tk.lineEnd_slash]
          have hnl : a + (((L s).drop a).takeWhile Tk.lineEnd).length ≤ s.size := by
            have := tw_le (p := Tk.lineEnd) ((L s).drop a); rw [List.length_drop, ← L_size] at this; omega
          have hin := fun k (h : k < (((L s).drop a).takeWhile Tk.lineEnd).length) => tw_in (p := Tk.lineEnd) (l := (L s).drop a) (k := k) h
          have hout := fun c (h : ((L s).drop a)[(((L s).drop a).takeWhile Tk.lineEnd).length]? = some c) => tw_out (p := Tk.lineEnd) (l := (L s).drop a) h
          rw [List.drop_drop] at hstep
          generalize (((L s).drop a).takeWhile Tk.lineEnd).length = n at *
          have Hst := Lib.hid hstep; clear hstep
          have Hin := Lib.hid hin; have Hout := Lib.hid hout; clear hin hout hc
          go_wp2_with (go_at_call 70; refine (Hbeg.out _).mono ?_; rintro e w' ⟨rfl, rfl⟩)
          go_loopw [1] (fun i wx => wx = w' ∧ ∃ j : Nat, j ≤ n ∧ i = .int .i64 ((a + j : Nat))) (fun i _ => a + n - (Lib.intOf i).toNat)
          case atStart => exact ⟨rfl, 0, by omega, rfl⟩
          case round =>
            obtain ⟨rfl, j, hj, rfl⟩ := hrel
            by_cases hjs : a + j < s.size
            · have hat := at_drop hjs
              have q1 : decide (((a + j : Nat) : Int) < (s.size : Int)) = true := by simp; omega
              have q2 : ((a + j : Nat) : Int) < (s.size : Int) := by omega
              have q3 : (0 : Int) ≤ ((a + j : Nat) : Int) := by omega
              have hix := str_at (s := s) (k := a + j) (c := s[a + j]'hjs) (List.getElem?_eq_some_iff.2 ⟨by rw [← L_size]; exact hjs, rfl⟩)
              by_cases hjn : j < n
              · have hne : (((s[a + j]'hjs).toNat : Int) != 10) = true := by
                  obtain ⟨c, h1, h2⟩ := Hin.out j hjn
                  rw [hat] at h1; cases h1
                  simp only [Tk.lineEnd, decide_eq_true_eq] at h2
                  rw [bne_iff_ne]; omega
                generalize (s[a + j]'hjs).toNat = cc at *
                generalize hp : a + j = p at *
                clear hat
                go_wp2_with fail
                go_roundw
                case rel => exact ⟨trivial, j + 1, by omega, by rw [show a + (j + 1) = p + 1 by omega]; go_num⟩
                case measure => simp [Lib.intOf]; omega
              · obtain rfl : j = n := by omega
                have hne : (((s[a + j]'hjs).toNat : Int) != 10) = false := by
                  have h2 := Hout.out _ hat
                  simp only [Tk.lineEnd, decide_eq_false_iff_not, Decidable.not_not] at h2
                  rw [bne_eq_false_iff_eq]; omega
                generalize (s[a + j]'hjs).toNat = cc at *
                generalize hp : a + j = p at *
                clear hat
                go_wp2_with fail
                refine ⟨⟨trivial, p, by omega, rfl, ?_⟩, ?_⟩
                · rw [Hrel.out, Hst.out]; omega
                · simp [Lib.intOf]; omega
            · obtain rfl : j = n := by omega
              have q1 : decide (((a + j : Nat) : Int) < (s.size : Int)) = false := by simp; omega
              generalize hp : a + j = p at *
              go_wp2_with fail
              refine ⟨⟨trivial, p, by omega, rfl, ?_⟩, ?_⟩
              · rw [Hrel.out, Hst.out]; omega
              · simp [Lib.intOf]; omega
        | false =>
          rw [hnt] at hbeg
          have Hbeg := Lib.hid hbeg; clear hbeg
          go_wp2_with (go_at_call 70; refine (Hbeg.out _).mono ?_; rintro e w' ⟨rfl, rfl⟩)
          go_ret
          refine ⟨?_, rfl⟩
          rw [Hrel.out, hc, skip_stop hbl (by rw [← hc]; exact hnt)]
          rfl
    · obtain rfl : a = s.size := by omega
      go_wp2_with fail
      go_ret
      refine ⟨?_, rfl⟩
      have hd : (L s).drop s.size = [] := List.drop_eq_nil_of_le (by rw [L_size]; exact Nat.le_refl _)
      rw [Hrel.out, hd]
      rfl
theorem empty_any (s : ByteArray) (hs : s.size ≤ 4611686018427387904) (w : World) : Calls Tryd.prog 21 #[.string s] w fun e w' => e = .returned (.bool (decide (Tk.skip (L s) = s.size))) ∧ w' = w := by
  generalize hR : Tk.skip (L s) = R
  have HR := Lib.hid hR; clear hR
  go_enter Tryd.func21, Tryd.ntmps21
  go_wp2_with (go_at_call 41; refine (pass_any s hs _).mono ?_; rw [HR.out]; rintro e w' ⟨rfl, rfl⟩)
  go_ret
  exact ⟨ret_bool (by simp; omega), rfl⟩
end Go.Proofs.YtakbpbifgemcdaaDoor
