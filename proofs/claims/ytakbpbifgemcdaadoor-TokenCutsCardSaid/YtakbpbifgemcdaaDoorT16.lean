/- Walk: the law TokenCuts. Conditions: those written in each. -/
import Derived.Test.YtakbpbifgemcdaaDoorT10
namespace Go.Proofs.YtakbpbifgemcdaaDoor
open Go.RowKit
theorem getD_in {ts : List Tk.Tok} {k : Nat} (h : k < ts.length) : ts.getD k zeroT ∈ ts := by
  rw [List.getD_eq_getElem?_getD, List.getElem?_eq_getElem h]
  exact List.getElem_mem h
set_option maxRecDepth 100000 in
set_option maxHeartbeats 4000000 in
theorem lcuts_any (s : ByteArray) (n : Nat) (hn : n ≤ 65535) (w : World) (hT0 : Tb w) : Calls Tryd.prog 7 #[.string s, .int .u16 (n : Nat)] w fun e w' => e = .returned (.bool true) ∧ Below w.heap.size w w' := by
  by_cases h400 : 300 < s.size ∨ s.size = 0
  · by_cases h3 : 300 < s.size
    · have q : decide ((300 : Int) < (s.size : Int)) = true := by simp; omega
      go_enter Tryd.func7, Tryd.ntmps7
      go_wp2_with (go_at_call 19; refine (alive_any _ hT0).mono ?_; rintro e w1 ⟨rfl, b1⟩)
      go_ret
      exact ⟨rfl, b1⟩
    · have q : decide ((300 : Int) < (s.size : Int)) = false := by simp; omega
      have q1 : ((s.size : Int) == 0) = true := by rw [beq_iff_eq]; omega
      go_enter Tryd.func7, Tryd.ntmps7
      go_wp2_with (go_at_call 19; refine (alive_any _ hT0).mono ?_; rintro e w1 ⟨rfl, b1⟩)
      go_ret
      exact ⟨rfl, b1⟩
  have q : decide ((300 : Int) < (s.size : Int)) = false := by simp; omega
  have q1 : ((s.size : Int) == 0) = false := by rw [beq_eq_false_iff_ne]; omega
  cases hlex : Tk.lex (L s) 0 with
  | error e =>
    obtain ⟨p, x⟩ := e
    have hx : ((x : Int) != 0) = true := by have := lex_pos hlex; rw [bne_iff_ne]; omega
    have hle := fun w' h => lex_error s (by omega) p x hlex w' h
    have Hle := Lib.hid hle; clear hle hlex
    go_enter Tryd.func7, Tryd.ntmps7
    go_wp2_with (first | (go_at_call 19; refine (alive_any _ hT0).mono ?_; rintro e w1 ⟨rfl, b1⟩) | (go_at_call 20; refine (Hle.out _ (hT0.below b1)).mono ?_; rintro e w2 ⟨rfl, b2⟩))
    go_ret
    exact ⟨rfl, b1.trans (b2.mono b1.size)⟩
  | ok ts =>
    have hle := fun w' h => lex_ok s (by omega) ts hlex w' h
    have Hle := Lib.hid hle; clear hle
    have hcl : n % s.size < s.size := Nat.mod_lt _ (by omega)
    have hmod : ((n : Int)).tmod (s.size : Int) = ((n % s.size : Nat) : Int) := by rw [Int.tmod_eq_emod_of_nonneg (by omega)]; omega
    generalize n % s.size = cut at *
    obtain ⟨hsz, _, _⟩ := Tk.sizes hlex
    rw [← L_size] at hsz
    have hT : L (s.extract 0 cut) = (L s).take cut := by rw [L_extract, List.drop_zero, Nat.sub_zero]
    have g1 : (cut : Int) ≤ (s.size : Int) := by omega
    cases hm : Tk.lex ((L s).take cut) 0 with
    | error e =>
      obtain ⟨p, x⟩ := e
      have hx : ((x : Int) != 0) = true := by have := lex_pos hm; rw [bne_iff_ne]; omega
      rw [← hT] at hm
      have hme := fun w' h => lex_error (s.extract 0 cut) (by rw [ByteArray.size_extract]; omega) p x hm w' h
      have Hme := Lib.hid hme; clear hme hm hT hlex
      go_enter Tryd.func7, Tryd.ntmps7
      go_wp2_with (first | (go_at_call 19; refine (alive_any _ hT0).mono ?_; rintro e w1 ⟨rfl, b1⟩; have T1 := hT0.below b1) | (go_at_call_of 20 (Value.string s); refine (Hle.out _ T1).mono ?_; rintro e w2 ⟨v, rfl, tv, b2⟩; obtain ⟨A, c, rfl, hA⟩ := id tv; have T2 := T1.below b2) | (go_at_call 20; refine (Hme.out _ T2).mono ?_; rintro e w3 ⟨rfl, b3⟩))
      go_ret
      have b4 := b1.trans (b2.mono b1.size)
      exact ⟨rfl, b4.trans (b3.mono b4.size)⟩
    | ok ms =>
      have hcut := Tk.cuts hlex hm
      rw [← hT] at hm
      have hme := fun w' h => lex_ok (s.extract 0 cut) (by rw [ByteArray.size_extract]; omega) ms hm w' h
      have Hme := Lib.hid hme; clear hme hm hT
      obtain ⟨hml, hcut⟩ := hcut
      have Hcut := Lib.hid hcut; clear hcut
      go_enter Tryd.func7, Tryd.ntmps7
      go_wp2_with (first | (go_at_call 19; refine (alive_any _ hT0).mono ?_; rintro e w1 ⟨rfl, b1⟩; have T1 := hT0.below b1) | (go_at_call_of 20 (Value.string s); refine (Hle.out _ T1).mono ?_; rintro e w2 ⟨v, rfl, tv, b2⟩; obtain ⟨A, c, rfl, hA⟩ := id tv; have T2 := T1.below b2) | (go_at_call 20; refine (Hme.out _ T2).mono ?_; rintro e w3 ⟨v, rfl, tm, b3⟩; obtain ⟨A', c', rfl, hA'⟩ := id tm))
      have b4 := b1.trans (b2.mono b1.size)
      have b5 := b4.trans (b3.mono b4.size)
      have tl := tv.below b3
      have hle17 : decide ((ms.length : Int) ≤ (ts.length : Int) + 1) = true := by simp; omega
      go_loopw [12] (fun i wr => ∃ k : Nat, k ≤ ts.length ∧ i = .int .i64 k ∧ Below w.heap.size w wr ∧ ToksAt wr (.slice A ts.length c) ts ∧ ToksAt wr (.slice A' ms.length c') ms) (fun i _ => ts.length - (Lib.intOf i).toNat)
      case atStart => exact ⟨0, by omega, rfl, b5, tl, tm⟩
      case round =>
        obtain ⟨k, hk, rfl, hb, tk, tk2⟩ := hrel
        by_cases hlt : k < ts.length
        · have hd : decide ((k : Int) < (ts.length : Int)) = true := by simp; omega
          have hdn : decide (k < ts.length) = true := by simp; omega
          obtain ⟨b, off, rfl, _, _⟩ := hA (by omega)
          obtain ⟨m0, m1, m2, m3⟩ := tk.at k hlt
          have hc := Hcut.out k hlt
          rw [show ts[k] = ts.getD k zeroT from by rw [List.getD_eq_getElem?_getD, List.getElem?_eq_getElem hlt]; rfl, Nat.zero_add] at hc
          have hsm := (Tk.sizes hlex).2.2 _ (getD_in hlt)
          generalize ts.getD k zeroT = d at *
          have hq := tok_neq d d
          rw [decide_eq_true rfl] at hq
          have hpos := hsm.2.2
          rw [← L_size] at hpos
          clear hsm
          obtain ⟨kd, tx, nm, pl⟩ := d
          have hsT : (bstr tx).size = tx.length := rfl
          unfold tokV at hq
          simp only at m0 m1 m2 m3 hc hq hpos
          have k0 : (0 : Int) ≤ (k : Int) := by omega
          have k1 : (k : Int) < (ts.length : Int) := by omega
          by_cases hend : pl + tx.length < cut
          · have hc' := hc hend
            obtain ⟨hkm, hgm⟩ := List.getElem?_eq_some_iff.1 hc'
            obtain ⟨b', off', rfl, _, _⟩ := hA' (by omega)
            obtain ⟨n0, n1, n2, n3⟩ := tk2.at k hkm
            rw [show ms.getD k zeroT = ⟨kd, tx, nm, pl⟩ from by rw [List.getD_eq_getElem?_getD, hc']; rfl] at n0 n1 n2 n3
            simp only at n0 n1 n2 n3
            clear hc hc' hgm
            generalize tx.length = m at *
            generalize bstr tx = T at *
            have f4 : IntKind.i64.wrap ((pl : Int) + (m : Int)) = (pl : Int) + (m : Int) := IntWalk.i64_in _ (by omega)
            have f5 : decide ((pl : Int) + (m : Int) < (cut : Int)) = true := by simp; omega
            have f6 : decide ((ms.length : Int) ≤ (k : Int)) = false := by simp; omega
            have f7 : decide (ms.length ≤ k) = false := by simp; omega
            have k2 : (k : Int) < (ms.length : Int) := by omega
            go_wp2_with fail
            go_quiet (fail)
            go_wp2_with fail
            go_quiet (fail)
            go_wp2_with fail
            refine ⟨⟨k + 1, by omega, by go_num, pw_drewN hb _, tk.below (pw_drewN (Below.refl _ _) _), tk2.below (pw_drewN (Below.refl _ _) _)⟩, ?_⟩
            simp [Lib.intOf]; omega
          · clear hc hq
            generalize tx.length = m at *
            generalize bstr tx = T at *
            have f4 : IntKind.i64.wrap ((pl : Int) + (m : Int)) = (pl : Int) + (m : Int) := IntWalk.i64_in _ (by omega)
            have f5 : decide ((pl : Int) + (m : Int) < (cut : Int)) = false := by simp; omega
            go_wp2_with fail
            go_quiet (fail)
            go_wp2_with fail
            go_ret
            exact ⟨rfl, pw_drewN hb _⟩
        · obtain rfl : k = ts.length := by omega
          have hd : decide ((ts.length : Int) < (ts.length : Int)) = false := by simp
          have hdn : decide (ts.length < ts.length) = false := by simp
          go_wp2_with fail
          go_quiet (fail)
          go_wp2_with fail
          go_ret
          exact ⟨rfl, pw_drewN hb _⟩
end Go.Proofs.YtakbpbifgemcdaaDoor
