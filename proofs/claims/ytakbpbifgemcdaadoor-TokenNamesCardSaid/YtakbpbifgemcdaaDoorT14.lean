/- Walks: the document's Words, in, Name. Conditions: those written in each. -/
import Derived.Test.YtakbpbifgemcdaaDoorT10
namespace Go.Proofs.YtakbpbifgemcdaaDoor
open Go.RowKit
def WordsAt (w : World) (b : Nat) : Prop := ∀ j, j < 10 → w.cell? ⟨b, j, none⟩ = some (.string (bstr (Tk.words.getD j [])))
set_option maxRecDepth 100000 in
theorem rwords_any (w : World) : Calls Tryd.prog 55 #[] w fun e w' => e = .returned (.slice (some ⟨w.heap.size, 0, none⟩) 10 10) ∧ WordsAt w' w.heap.size ∧ Below w.heap.size w w' := by
  go_enter Tryd.func55, Tryd.ntmps55
  go_wp2_with fail
  go_ret
  refine ⟨rfl, fun j hj => ?_, (Below.refl _ _).alloc (Nat.le_refl _) _⟩
  rw [World.cell?_alloc_new]
  obtain rfl | rfl | rfl | rfl | rfl | rfl | rfl | rfl | rfl | rfl : j = 0 ∨ j = 1 ∨ j = 2 ∨ j = 3 ∨ j = 4 ∨ j = 5 ∨ j = 6 ∨ j = 7 ∨ j = 8 ∨ j = 9 := by omega
  all_goals rfl
theorem rin_any (b : Nat) (x : ByteArray) (w : World) (h : WordsAt w b) : Calls Tryd.prog 54 #[.slice (some ⟨b, 0, none⟩) 10 10, .string x] w fun e w' => e = .returned (.bool (decide (L x ∈ Tk.words))) ∧ w' = w := by
  have heq : ∀ k, ((bstr (Tk.words.getD k [])).toList == x.toList) = decide (Tk.words.getD k [] = L x) := fun k => by
    rw [Lib.toList_data, Lib.toList_data, Bool.eq_iff_iff, beq_iff_eq, decide_eq_true_iff]; exact Iff.rfl
  obtain ⟨G, hG⟩ : ∃ G : Nat → ByteArray, ∀ j, G j = bstr (Tk.words.getD j []) := ⟨_, fun _ => rfl⟩
  have hc : ∀ j, j < 10 → w.cell? ⟨b, j, none⟩ = some (.string (G j)) := fun j hj => by rw [hG]; exact h j hj
  simp only [← hG] at heq
  have Heq := Lib.hid heq; clear heq hG h
  generalize hV : decide (L x ∈ Tk.words) = V
  have HV := Lib.hid hV; clear hV
  go_enter Tryd.func54, Tryd.ntmps54
  go_wp2_with fail
  go_loop [5] (fun i => ∃ k : Nat, k ≤ 10 ∧ i = .int .i64 k ∧ ∀ j, j < k → Tk.words.getD j [] ≠ L x) (fun i => 10 - (Lib.intOf i).toNat)
  case atStart => exact ⟨0, by decide, rfl, fun j h => absurd h (Nat.not_lt_zero _)⟩
  case round =>
    obtain ⟨k, hk, rfl, hne⟩ := hrel
    have Hne := Lib.hid hne; clear hne
    by_cases hlt : k < 10
    · have hck := hc k hlt
      have q1 : decide ((k : Int) < 10) = true := by simp; omega
      have q2 : (k : Int) < 10 := by omega
      have he := Heq.out k
      by_cases hw : Tk.words.getD k [] = L x
      · rw [decide_eq_true hw] at he
        have hin : decide (L x ∈ Tk.words) = true := by
          rw [decide_eq_true_iff, ← hw]
          have : k < Tk.words.length := hlt
          rw [List.getD_eq_getElem?_getD, List.getElem?_eq_getElem this]
          exact List.getElem_mem this
        rw [HV.out] at hin
        clear hw
        go_wp2_with fail
        go_ret
        exact ⟨rfl, rfl⟩
      · rw [decide_eq_false hw] at he
        go_wp2_with fail
        go_round
        · refine ⟨k + 1, by omega, by go_num, fun j hj => ?_⟩
          by_cases e : j = k
          · rw [e]; exact hw
          · exact Hne.out j (by omega)
        · simp [Lib.intOf]; omega
    · obtain rfl : k = 10 := by omega
      have hin : decide (L x ∈ Tk.words) = false := by
        rw [decide_eq_false_iff_not]
        intro hm
        obtain ⟨j, hj, e⟩ := List.mem_iff_getElem.1 hm
        apply Hne.out j hj
        rw [List.getD_eq_getElem?_getD, List.getElem?_eq_getElem hj]; exact e
      rw [HV.out] at hin
      go_wp2_with fail
      go_ret
      exact ⟨rfl, rfl⟩
set_option maxRecDepth 100000 in
set_option maxHeartbeats 2000000 in
theorem rname_any (s : ByteArray) (hs : s.size ≤ 20000) (w : World) : Calls Tryd.prog 30 #[.string s] w fun e w' => e = .returned (.bool (Tk.isName (L s))) ∧ Below w.heap.size w w' := by
  by_cases h0 : s.size = 0
  · have hl : L s = [] := by have := L_size s; rw [h0] at this; exact List.eq_nil_of_length_eq_zero this.symm
    have hn : Tk.isName (L s) = false := by rw [hl]; rfl
    rw [hn]
    have q : ((s.size : Int) == 0) = true := by rw [beq_iff_eq]; omega
    go_enter Tryd.func30, Tryd.ntmps30
    go_wp2_with fail
    go_ret
    exact ⟨rfl, Below.refl _ _⟩
  have hpos : 0 < s.size := by omega
  have q : ((s.size : Int) == 0) = false := by rw [beq_eq_false_iff_ne]; omega
  have hc := drop_cons hpos
  rw [List.drop_zero] at hc
  have hix : ∀ w, (Instr.index 9 (.string s) (.int .i64 0)).run Tryd.prog w = .ok (.int .u8 ((s[0]'hpos).toNat : Nat)) w := str_at (k := 0) (by rw [hc]; rfl)
  have hlen := L_size s
  have hnm : Tk.isName (L s) = (Tk.ltr (s[0]'hpos) && decide (s.size ≤ 20) && (L s).all Tk.inn && !decide (L s ∈ Tk.words)) := by
    unfold Tk.isName
    rw [← hlen, hc]; rfl
  rw [hnm]
  clear hnm hc
  have Hlen := Lib.hid hlen; clear hlen
  by_cases h20 : s.size ≤ 20
  · have q1 : decide ((20 : Int) < (s.size : Int)) = false := by simp; omega
    rw [decide_eq_true h20]
    cases hl : Tk.ltr (s[0]'hpos) with
    | false =>
      go_enter Tryd.func30, Tryd.ntmps30
      go_wp2_with (go_at_call 53; refine (rletter_any _ _).mono ?_; rw [hl]; rintro e w' ⟨rfl, rfl⟩)
      go_ret
      exact ⟨rfl, Below.refl _ _⟩
    | true =>
      have hin := fun b w' (h : WordsAt w' b) => rin_any b s w' h
      cases hw : decide (L s ∈ Tk.words) with
      | true =>
        rw [hw] at hin
        have Hin := Lib.hid hin; clear hin hw
        go_enter Tryd.func30, Tryd.ntmps30
        go_wp2_with (first | (go_at_call 53; refine (rletter_any _ _).mono ?_; rw [hl]; rintro e w' ⟨rfl, rfl⟩) | (go_at_call 55; refine (rwords_any _).mono ?_; rintro e w1 ⟨rfl, hwa, b1⟩) | (go_at_call 54; refine (Hin.out _ _ hwa).mono ?_; rintro e w' ⟨rfl, rfl⟩))
        go_ret
        exact ⟨ret_bool (by simp), b1⟩
      | false =>
        rw [hw] at hin
        have Hin := Lib.hid hin; clear hin hw
        generalize hV : (true && true && (L s).all Tk.inn && !false) = V
        have hV' : V = (L s).all Tk.inn := by rw [← hV]; simp
        have HV := Lib.hid hV'; clear hV hV'
        go_enter Tryd.func30, Tryd.ntmps30
        go_wp2_with (first | (go_at_call 53; refine (rletter_any _ _).mono ?_; rw [hl]; rintro e w' ⟨rfl, rfl⟩) | (go_at_call 55; refine (rwords_any _).mono ?_; rintro e w1 ⟨rfl, hwa, b1⟩) | (go_at_call 54; refine (Hin.out _ _ hwa).mono ?_; rintro e w' ⟨rfl, rfl⟩))
        go_loopw [3] (fun i wr => wr = w' ∧ ∃ k : Nat, k ≤ s.size ∧ i = .int .i64 k ∧ ∀ j c, j < k → (L s)[j]? = some c → Tk.inn c = true) (fun i _ => s.size - (Lib.intOf i).toNat)
        case atStart => exact ⟨rfl, 0, by omega, rfl, fun j c h => absurd h (Nat.not_lt_zero _)⟩
        case round =>
          obtain ⟨rfl, k, hk, rfl, hne⟩ := hrel
          have Hne := Lib.hid hne; clear hne
          by_cases hlt : k < s.size
          · have q2 : decide ((k : Int) < (s.size : Int)) = true := by simp; omega
            have q3 : (k : Int) < (s.size : Int) := by omega
            have hat : (L s)[k]? = some (s[k]'hlt) := List.getElem?_eq_some_iff.2 ⟨by rw [← L_size]; exact hlt, rfl⟩
            have hixk := str_at hat
            have Hat := Lib.hid hat; clear hat
            generalize (s[k]'hlt) = c at *
            cases hi : Tk.inn c with
            | true =>
              cases h1 : Tk.ltr c <;> cases h2 : Tk.dig c <;>
              · go_wp2_with (first | (go_at_call 53; refine (rletter_any _ _).mono ?_; rw [h1]; rintro e w' ⟨rfl, rfl⟩) | (go_at_call 56; refine (rdigit_any _ _).mono ?_; rw [h2]; rintro e w' ⟨rfl, rfl⟩))
                all_goals first
                  | (refine ⟨⟨trivial, k + 1, by omega, by go_num, fun j c' hj hc' => ?_⟩, ?_⟩
                     · by_cases e : j = k
                       · subst e; rw [Hat.out] at hc'; cases hc'; exact hi
                       · exact Hne.out j c' (by omega) hc'
                     · simp [Lib.intOf]; omega)
                  | (rename_i h0; exfalso; rw [bne_iff_ne] at h0; simp [Tk.inn, h1, h2] at hi; omega)
            | false =>
              have h1 : Tk.ltr c = false := by simp [Tk.inn] at hi; exact hi.1.1
              have h2 : Tk.dig c = false := by simp [Tk.inn] at hi; exact hi.1.2
              have h3 : ((c.toNat : Int) != 95) = true := by simp [Tk.inn] at hi; rw [bne_iff_ne]; omega
              go_wp2_with (first | (go_at_call 53; refine (rletter_any _ _).mono ?_; rw [h1]; rintro e w' ⟨rfl, rfl⟩) | (go_at_call 56; refine (rdigit_any _ _).mono ?_; rw [h2]; rintro e w' ⟨rfl, rfl⟩))
              go_ret
              refine ⟨?_, b1⟩
              have : V = false := by
                rw [HV.out, List.all_eq_false]
                exact ⟨c, List.mem_of_getElem? Hat.out, by simp [hi]⟩
              rw [this]; rfl
          · obtain rfl : k = s.size := by omega
            go_wp2_with fail
            go_ret
            refine ⟨?_, b1⟩
            have : V = true := by
              rw [HV.out, List.all_eq_true]
              intro c hc
              obtain ⟨j, hj, e⟩ := List.mem_iff_getElem.1 hc
              exact Hne.out j c (by rw [L_size]; exact hj) (List.getElem?_eq_some_iff.2 ⟨hj, e⟩)
            rw [this]; rfl
  · have q1 : decide ((20 : Int) < (s.size : Int)) = true := by simp; omega
    rw [decide_eq_false h20]
    go_enter Tryd.func30, Tryd.ntmps30
    go_wp2_with fail
    go_ret
    exact ⟨ret_bool (by simp), Below.refl _ _⟩
end Go.Proofs.YtakbpbifgemcdaaDoor
