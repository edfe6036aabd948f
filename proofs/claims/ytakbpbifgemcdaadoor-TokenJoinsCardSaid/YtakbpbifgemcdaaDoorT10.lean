/- Walk: the law TokenStands. Conditions: those written in each. -/
import Derived.Test.YtakbpbifgemcdaaDoorT8
import Derived.Test.YtakbpbifgemcdaaDoorT9
namespace Go.Proofs.YtakbpbifgemcdaaDoor
open Go.RowKit
theorem ToksAt.at {w : World} {b off c n : Nat} {l : List Tk.Tok} (h : ToksAt w (.slice (some ⟨b, off, none⟩) n c) l) : ∀ i, i < l.length → TokAt w b (off + i * 4) (l.getD i zeroT) := by
  intro i hi
  obtain ⟨A, c', he, h⟩ := h
  obtain ⟨b', off', rfl, _, h2⟩ := h (by omega)
  simp only [Value.slice.injEq, Option.some.injEq, Addr.mk.injEq] at he
  obtain ⟨⟨rfl, rfl, _⟩, _, _⟩ := he
  exact h2 i hi
theorem lex_pos {l : Tk.By} {p q x : Nat} (h : Tk.lex l p = .error (q, x)) : x ≠ 0 := by
  suffices H : ∀ n, ∀ l : Tk.By, l.length ≤ n → ∀ p, Tk.lex l p = .error (q, x) → x ≠ 0 from H _ l (Nat.le_refl _) p h
  intro n
  induction n with
  | zero =>
    intro l hl p h
    have : l = [] := by simpa using hl
    subst this; rw [Tk.lex_nil] at h; cases h
  | succ n ih =>
    intro l hl p h
    obtain ⟨g, r, rfl, hg, h1 | ⟨_, e, he, h2⟩ | ⟨_, k, t, n', y, rfl, hn, h3⟩⟩ := Tk.lex_cases l p
    · rw [h1.2] at h; cases h
    · rw [h2] at h; cases h; exact next_pos he
    · rw [h3] at h
      have hne := List.length_pos_iff.2 (Tk.next_is hn).1.ne
      simp only [List.length_append] at hl
      cases hy : Tk.lex y (p + g.length + t.length) with
      | error e => rw [hy] at h; cases h; exact ih y (by omega) _ hy
      | ok ts => rw [hy] at h; cases h
set_option maxRecDepth 100000 in
set_option maxHeartbeats 4000000 in
theorem lstands_any (s : ByteArray) (w : World) (hT0 : Tb w) : Calls Tryd.prog 4 #[.string s] w fun e w' => e = .returned (.bool true) ∧ Below w.heap.size w w' := by
  by_cases h400 : 400 < s.size
  · have q : decide ((400 : Int) < (s.size : Int)) = true := by simp; omega
    go_enter Tryd.func4, Tryd.ntmps4
    go_wp2_with (go_at_call 19; refine (alive_any _ hT0).mono ?_; rintro e w1 ⟨rfl, b1⟩)
    go_ret
    exact ⟨rfl, b1⟩
  have q : decide ((400 : Int) < (s.size : Int)) = false := by simp; omega
  cases hlex : Tk.lex (L s) 0 with
  | error e =>
    obtain ⟨p, x⟩ := e
    have hx : ((x : Int) != 0) = true := by have := lex_pos hlex; rw [bne_iff_ne]; omega
    have hle := fun w' h => lex_error s (by omega) p x hlex w' h
    have Hle := Lib.hid hle; clear hle
    go_enter Tryd.func4, Tryd.ntmps4
    go_wp2_with (first | (go_at_call 19; refine (alive_any _ hT0).mono ?_; rintro e w1 ⟨rfl, b1⟩) | (go_at_call 20; refine (Hle.out _ (hT0.below b1)).mono ?_; rintro e w2 ⟨rfl, b2⟩))
    go_ret
    exact ⟨rfl, b1.trans (b2.mono b1.size)⟩
  | ok ts =>
    have hle := fun w' h => lex_ok s (by omega) ts hlex w' h
    have Hle := Lib.hid hle; clear hle
    have hst := Tk.stands hlex
    obtain ⟨hsz, _, hea⟩ := Tk.sizes hlex
    rw [← L_size] at hsz
    have Hst := Lib.hid hst; clear hst hlex
    go_enter Tryd.func4, Tryd.ntmps4
    go_wp2_with (first | (go_at_call 19; refine (alive_any _ hT0).mono ?_; rintro e w1 ⟨rfl, b1⟩) | (go_at_call 20; refine (Hle.out _ (hT0.below b1)).mono ?_; rintro e w2 ⟨v, rfl, tv, b2⟩; obtain ⟨A, c, rfl, hA⟩ := id tv))
    have b3 := b1.trans (b2.mono b1.size)
    go_loopw [6, 7] (fun z i wr => ∃ k t : Nat, k ≤ ts.length ∧ i = .int .i64 k ∧ z = .int .i64 t ∧ t ≤ s.size ∧ Tk.Stand (L s) t (ts.drop k) ∧ Below w.heap.size w wr ∧ ToksAt wr (.slice A ts.length c) ts) (fun _ i _ => ts.length - (Lib.intOf i).toNat)
    case atStart => exact ⟨0, 0, by omega, rfl, rfl, by omega, Hst.out, b3, tv⟩
    case round =>
      obtain ⟨k, t, hk, rfl, rfl, htl, hS, hb, tk⟩ := hrel
      by_cases hlt : k < ts.length
      · have hd : decide ((k : Int) < (ts.length : Int)) = true := by simp; omega
        obtain ⟨b, off, rfl, _, _⟩ := hA (by omega)
        have hdr : ts.drop k = ts.getD k zeroT :: ts.drop (k + 1) := by
          rw [List.drop_eq_getElem_cons hlt, List.getD_eq_getElem?_getD, List.getElem?_eq_getElem hlt]; rfl
        rw [hdr] at hS
        obtain ⟨m0, m1, m2, m3⟩ := tk.at k hlt
        generalize ts.getD k zeroT = d at *
        obtain ⟨kd, tx, nm, pl⟩ := d
        obtain ⟨s1, s2, s3, s4, s5, s6, s7, s8, s9⟩ := hS
        simp only at m0 m1 m2 m3 s1 s2 s3 s4 s5 s6 s7 s8 s9
        rw [← L_size] at s3
        have hT : s.extract pl (pl + tx.length) = bstr tx := by
          rw [Lib.extract_eq, Nat.add_sub_cancel_left]; exact congrArg bstr s4
        have hE := fun w' => empty_any (s.extract t pl) (by rw [ByteArray.size_extract]; omega) w'
        rw [show Tk.skip (L (s.extract t pl)) = (s.extract t pl).size from by rw [L_extract, s5, ByteArray.size_extract]; omega, decide_eq_true rfl] at hE
        have HE := Lib.hid hE; clear hE
        have hm0 : tx.length ≠ 0 := by simpa using s2
        have hsT : (bstr tx).size = tx.length := rfl
        have HS9 := Lib.hid s9; clear s9
        generalize htx : tx.length = m at *
        generalize bstr tx = T at *
        clear s2 s4 s5 htx hdr
        have f1 : decide ((pl : Int) < (t : Int)) = false := by simp; omega
        have f2 : ((m : Int) == 0) = false := by rw [beq_eq_false_iff_ne]; omega
        have f3 : decide ((s.size : Int) < (pl : Int) + (m : Int)) = false := by simp; omega
        have f4 : IntKind.i64.wrap ((pl : Int) + (m : Int)) = (pl : Int) + (m : Int) := IntWalk.i64_in _ (by omega)
        have f5 : ((pl : Int) + (m : Int)).toNat = pl + m := by omega
        have f6 : (pl : Int) + (m : Int) ≤ (s.size : Int) := by omega
        have f7 : (0 : Int) ≤ (pl : Int) + (m : Int) := by omega
        have f8 : (pl : Int) ≤ (pl : Int) + (m : Int) := by omega
        have f9 : (t : Int) ≤ (pl : Int) := by omega
        have f10 : (pl : Int) ≤ (s.size : Int) := by omega
        go_wp2_with fail
        go_quiet ((go_at_call 21; exact Calls.quiet_of_same (HE.out _)))
        have n1 : decide (pl < t) = false := by simp; omega
        clear f1 f2 f3 f4 f5 f6 f7 f8 f9 f10
        have hbA : Below wr.heap.size wr ((wr.alloc (.cells #[.int .i64 kd, .string T, .int .u32 nm, .int .i64 pl] 39)).drewN nq) := pw_drewN ((Below.refl _ _).alloc (Nat.le_refl _) _) nq
        have hbB := hb.trans (hbA.mono hb.size)
        have tkB := tk.below hbA
        clear hbA
        by_cases hk2 : kd = 2
        · subst hk2
          go_wp2_with fail
          refine ⟨⟨k + 1, pl + m, by omega, by go_num, rfl, by omega, HS9.out, hbB, tkB⟩, ?_⟩
          simp [Lib.intOf]; omega
        · have h0 := s8 hk2
          subst h0
          have g1 : decide ((kd : Int) < 1) = false := by simp; omega
          have g2 : decide ((4 : Int) < (kd : Int)) = false := by simp; omega
          go_wp2_with fail
          refine ⟨⟨k + 1, pl + m, by omega, by go_num, rfl, by omega, HS9.out, hbB, tkB⟩, ?_⟩
          simp [Lib.intOf]; omega
      · obtain rfl : k = ts.length := by omega
        have hd : decide ((ts.length : Int) < (ts.length : Int)) = false := by simp
        rw [List.drop_length] at hS
        obtain ⟨s1, s2⟩ := hS
        have hE := fun w' => empty_any (s.extract t s.size) (by rw [ByteArray.size_extract]; omega) w'
        rw [← L_size] at s1 s2
        rw [show Tk.skip (L (s.extract t s.size)) = (s.extract t s.size).size from by rw [L_extract, List.take_of_length_le (by rw [List.length_drop, ← L_size]; exact Nat.le_refl _), s2, ByteArray.size_extract]; omega, decide_eq_true rfl] at hE
        have HE := Lib.hid hE; clear hE
        go_wp2_with (go_at_call 21; refine (HE.out _).mono ?_; rintro e w' ⟨rfl, rfl⟩)
        go_ret
        exact ⟨rfl, hb⟩
end Go.Proofs.YtakbpbifgemcdaaDoor
