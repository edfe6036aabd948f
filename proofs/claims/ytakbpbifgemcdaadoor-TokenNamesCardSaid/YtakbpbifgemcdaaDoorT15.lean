/- Walk: the law TokenNames. Conditions: those written in each. -/
import Derived.Test.YtakbpbifgemcdaaDoorT13
import Derived.Test.YtakbpbifgemcdaaDoorT14
namespace Go.Proofs.YtakbpbifgemcdaaDoor
open Go.RowKit
set_option maxRecDepth 100000 in
set_option maxHeartbeats 4000000 in
theorem lnames_any (s : ByteArray) (w : World) (hT0 : Tb w) : Calls Tryd.prog 10 #[.string s] w fun e w' => e = .returned (.bool true) ∧ Below w.heap.size w w' := by
  by_cases h400 : 200 < s.size
  · have q : decide ((200 : Int) < (s.size : Int)) = true := by simp; omega
    go_enter Tryd.func10, Tryd.ntmps10
    go_wp2_with (go_at_call 19; refine (alive_any _ hT0).mono ?_; rintro e w1 ⟨rfl, b1⟩)
    go_ret
    exact ⟨rfl, b1⟩
  have q : decide ((200 : Int) < (s.size : Int)) = false := by simp; omega
  have hn1 := fun w' h => name_any s (by omega) w' h
  have hn2 := fun w' => rname_any s (by omega) w'
  have hiff := Tk.name_iff (L s)
  generalize Tk.isName (L s) = N at *
  have Hn1 := Lib.hid hn1; have Hn2 := Lib.hid hn2; clear hn1 hn2
  have hbk : bstr (L s) = s := Lib.mk_data s
  cases hlex : Tk.lex (L s) 0 with
  | error e =>
    obtain ⟨p, x⟩ := e
    have hN : N = false := by rw [Bool.eq_false_iff]; intro h; rw [hlex] at hiff; have := hiff.1 h; cases this
    subst hN
    have hx : ((x : Int) == 0) = false := by have := lex_pos hlex; rw [beq_eq_false_iff_ne]; omega
    have hle := fun w' h => lex_error s (by omega) p x hlex w' h
    have Hle := Lib.hid hle; clear hle hlex hiff hbk
    go_enter Tryd.func10, Tryd.ntmps10
    go_wp2_with (first | (go_at_call 19; refine (alive_any _ hT0).mono ?_; rintro e w1 ⟨rfl, b1⟩; have T1 := hT0.below b1) | (go_at_call 29; refine (Hn1.out _ T1).mono ?_; rintro e w' ⟨rfl, rfl⟩) | (go_at_call 30; refine (Hn2.out _).mono ?_; rintro e w2 ⟨rfl, b2⟩; have T2 := T1.below b2) | (go_at_call 20; refine (Hle.out _ T2).mono ?_; rintro e w3 ⟨rfl, b3⟩))
    go_ret
    have b4 := b1.trans (b2.mono b1.size)
    exact ⟨rfl, b4.trans (b3.mono b4.size)⟩
  | ok ts =>
    have hle := fun w' h => lex_ok s (by omega) ts hlex w' h
    have Hle := Lib.hid hle; clear hle
    rw [hlex] at hiff
    clear hlex
    by_cases h1 : ts.length = 1
    · obtain ⟨d, rfl⟩ : ∃ d, ts = [d] := by
        match ts, h1 with
        | [d], _ => exact ⟨d, rfl⟩
      have hN : N = decide (d = ⟨1, L s, 0, 0⟩) := by
        rw [Bool.eq_iff_iff, hiff, decide_eq_true_iff]; simp
      have hq := fun w' => tok_eql d ⟨1, L s, 0, 0⟩ w'
      rw [← hN] at hq
      unfold tokV at hq
      simp only [hbk] at hq
      have hq2 : ∀ w', (binOp .eql 39 (.agg #[.int .i64 d.kind, .string (bstr d.text), .int .u32 d.num, .int .i64 d.place]) (.agg #[.int .i64 1, .string s, .int .u32 0, .int .i64 0])).run Tryd.prog w' = .ok (.bool N) w' := hq
      clear hN hiff hbk h1 hq
      go_enter Tryd.func10, Tryd.ntmps10
      go_wp2_with (first | (go_at_call 19; refine (alive_any _ hT0).mono ?_; rintro e w1 ⟨rfl, b1⟩; have T1 := hT0.below b1) | (go_at_call 29; refine (Hn1.out _ T1).mono ?_; rintro e w' ⟨rfl, rfl⟩) | (go_at_call 30; refine (Hn2.out _).mono ?_; rintro e w2 ⟨rfl, b2⟩; have T2 := T1.below b2) | (go_at_call 20; refine (Hle.out _ T2).mono ?_; rintro e w3 ⟨v, rfl, tv, b3⟩; obtain ⟨b, off, c, rfl, hA⟩ := tv.parts (n := 1) rfl (by decide); obtain ⟨m0, m1, m2, m3⟩ := hA 0 (by decide); simp only [Nat.zero_mul, Nat.add_zero, List.getD_cons_zero] at m0 m1 m2 m3))
      go_ret
      have b4 := b1.trans (b2.mono b1.size)
      exact ⟨ret_bool (by simp), b4.trans (b3.mono b4.size)⟩
    · have hN : N = false := by
        rw [Bool.eq_false_iff]; intro h
        have := hiff.1 h
        simp only [Except.ok.injEq] at this
        rw [this] at h1; exact h1 rfl
      subst hN
      have q1 : ((ts.length : Int) == 1) = false := by rw [beq_eq_false_iff_ne]; omega
      clear hiff hbk
      go_enter Tryd.func10, Tryd.ntmps10
      go_wp2_with (first | (go_at_call 19; refine (alive_any _ hT0).mono ?_; rintro e w1 ⟨rfl, b1⟩; have T1 := hT0.below b1) | (go_at_call 29; refine (Hn1.out _ T1).mono ?_; rintro e w' ⟨rfl, rfl⟩) | (go_at_call 30; refine (Hn2.out _).mono ?_; rintro e w2 ⟨rfl, b2⟩; have T2 := T1.below b2) | (go_at_call 20; refine (Hle.out _ T2).mono ?_; rintro e w3 ⟨v, rfl, tv, b3⟩; obtain ⟨A, c, rfl, hA⟩ := tv))
      go_ret
      have b4 := b1.trans (b2.mono b1.size)
      exact ⟨rfl, b4.trans (b3.mono b4.size)⟩
end Go.Proofs.YtakbpbifgemcdaaDoor
