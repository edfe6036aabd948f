/- Walk: the law TokenBack. Conditions: those written in each. -/
import Derived.Test.YtakbpbifgemcdaaDoorT17
namespace Go.Proofs.YtakbpbifgemcdaaDoor
open Go.RowKit
theorem L_append (a b : ByteArray) : L (a ++ b) = L a ++ L b := by
  show (a ++ b).data.toList = _
  rw [ByteArray.data_append]; simp
theorem cat_snoc (bs : Tk.By) (l : List Tk.Tok) (d : Tk.Tok) : Tk.cat bs (l ++ [d]) = Tk.cat bs l ++ (d.text ++ bs) := by simp [Tk.cat]
theorem cat_length (bs : Tk.By) : ∀ l : List Tk.Tok, (Tk.cat bs l).length = (l.map fun t => t.text.length).sum + l.length * bs.length
  | [] => by simp [Tk.cat]
  | d :: l => by
    have := cat_length bs l
    simp only [Tk.cat, List.flatMap_cons, List.length_append, List.map_cons, List.sum_cons, List.length_cons] at *
    rw [this, Nat.add_mul]; omega
theorem take_snoc_t (l : List Tk.Tok) (k : Nat) (h : k < l.length) : l.take (k + 1) = l.take k ++ [l.getD k zeroT] := by
  rw [List.take_succ_eq_append_getElem h, List.getD_eq_getElem?_getD, List.getElem?_eq_getElem h]; rfl
theorem sum_take_le (l : List Tk.Tok) (k : Nat) : ((l.take k).map fun t => t.text.length).sum ≤ (l.map fun t => t.text.length).sum := by
  conv => rhs; rw [← List.take_append_drop k l]
  rw [List.map_append, List.sum_append]; omega
def sep (long : Bool) : Tk.By := if long then [32, 47, 47, 39, 10, 9] else [32]
theorem sep_gap (long : Bool) (r : Tk.By) : Tk.Gap (sep long) r := by
  cases long with
  | false => exact .blank (by decide) (.nil _)
  | true => exact .blank (by decide) (.note (q := [39]) (by decide) (.blank (by decide) (.blank (by decide) (.nil _))))
set_option maxRecDepth 100000 in
set_option maxHeartbeats 4000000 in
theorem lback_any (s : ByteArray) (long : Bool) (w : World) (hT0 : Tb w) : Calls Tryd.prog 6 #[.string s, .bool long] w fun e w' => e = .returned (.bool true) ∧ Below w.heap.size w w' := by
  by_cases h400 : 300 < s.size
  · have q : decide ((300 : Int) < (s.size : Int)) = true := by simp; omega
    go_enter Tryd.func6, Tryd.ntmps6
    go_wp2_with (go_at_call 19; refine (alive_any _ hT0).mono ?_; rintro e w1 ⟨rfl, b1⟩)
    go_ret
    exact ⟨rfl, b1⟩
  have q : decide ((300 : Int) < (s.size : Int)) = false := by simp; omega
  cases hlex : Tk.lex (L s) 0 with
  | error e =>
    obtain ⟨p, x⟩ := e
    have hx : ((x : Int) != 0) = true := by have := lex_pos hlex; rw [bne_iff_ne]; omega
    have hle := fun w' h => lex_error s (by omega) p x hlex w' h
    have Hle := Lib.hid hle; clear hle hlex
    go_enter Tryd.func6, Tryd.ntmps6
    go_wp2_with (first | (go_at_call 19; refine (alive_any _ hT0).mono ?_; rintro e w1 ⟨rfl, b1⟩) | (go_at_call 20; refine (Hle.out _ (hT0.below b1)).mono ?_; rintro e w2 ⟨rfl, b2⟩))
    go_ret
    exact ⟨rfl, b1.trans (b2.mono b1.size)⟩
  | ok ts =>
    have hle := fun w' h => lex_ok s (by omega) ts hlex w' h
    have Hle := Lib.hid hle; clear hle
    obtain ⟨hsz, hsum, _⟩ := Tk.sizes hlex
    rw [← L_size] at hsz hsum
    have q2 : decide ((300 : Int) < (ts.length : Int)) = false := by simp; omega
    have hbk := Tk.back (bs := sep long) (sep_gap long) (by cases long <;> rfl) hlex
    clear hlex
    obtain ⟨S, hS⟩ : ∃ S : ByteArray, S = bstr (sep long) := ⟨_, rfl⟩
    have hS1 : S.size ≤ 6 := by rw [hS]; cases long <;> decide
    have hSL : L S = sep long := by rw [hS]; rfl
    obtain ⟨us, hlu, hmap⟩ := hbk (0 + (sep long).length)
    have hlex2 : Tk.lex (sep long ++ Tk.cat (sep long) ts) 0 = .ok us := by rw [Tk.lex_gap (sep_gap long _)]; exact hlu
    have hsl : (sep long).length ≤ 6 := by cases long <;> decide
    have Hlex2 := Lib.hid hlex2; clear hlex2 hlu hbk
    go_enter Tryd.func6, Tryd.ntmps6
    cases long with
    | true =>
      replace hS : S = ⟨#[32, 47, 47, 39, 10, 9]⟩ := hS
      go_wp2_with (first | (go_at_call 19; refine (alive_any _ hT0).mono ?_; rintro e w1 ⟨rfl, b1⟩; have T1 := hT0.below b1) | (go_at_call 20; refine (Hle.out _ T1).mono ?_; rintro e w2 ⟨v, rfl, tv, b2⟩; obtain ⟨A, c, rfl⟩ := tv.len; have T2 := T1.below b2))
      rw [← hS]
      clear hS
      have b3 := b1.trans (b2.mono b1.size)
      go_loopw [9, 10] (fun t i wr => wr = w2 ∧ ∃ (k : Nat) (X : ByteArray), k ≤ ts.length ∧ i = .int .i64 k ∧ t = .string X ∧ L X = sep true ++ Tk.cat (sep true) (ts.take k)) (fun _ i _ => ts.length - (Lib.intOf i).toNat)
      case atStart => exact ⟨rfl, 0, S, by omega, rfl, rfl, by rw [hSL, List.take_zero]; simp [Tk.cat]⟩
      case round =>
        obtain ⟨rfl, k, X, hk, rfl, rfl, hX⟩ := hrel
        have HX := Lib.hid hX; clear hX
        by_cases hlt : k < ts.length
        · have hd : decide ((k : Int) < (ts.length : Int)) = true := by simp; omega
          obtain ⟨b, off, rfl⟩ := tv.some (by omega)
          obtain ⟨m0, m1, m2, m3⟩ := tv.at k hlt
          have hsn := take_snoc_t ts k hlt
          have hXs : X.size ≤ 3000 := by
            have h1 := cat_length (sep true) (ts.take k)
            have h2 := sum_take_le ts k
            have h3 : (ts.take k).length = k := by rw [List.length_take]; omega
            have h4 := congrArg List.length HX.out
            rw [List.length_append, h1, h3, ← L_size] at h4
            have h5 : k * (sep true).length ≤ 300 * 6 := Nat.mul_le_mul (by omega) hsl
            omega
          have hTs : (bstr (ts.getD k zeroT).text).size ≤ 300 := by
            have h6 : (ts.getD k zeroT).text.length ≤ (ts.map fun t => t.text.length).sum := by
              have := sum_take_le ts (k + 1)
              rw [hsn, List.map_append, List.sum_append] at this
              simp only [List.map_cons, List.map_nil, List.sum_cons, List.sum_nil] at this; omega
            show (ts.getD k zeroT).text.length ≤ 300
            omega
          have hTL : L (bstr (ts.getD k zeroT).text) = (ts.getD k zeroT).text := rfl
          generalize ts.getD k zeroT = d at *
          generalize bstr d.text = T at *
          have Hsn := Lib.hid hsn; have HTL := Lib.hid hTL; clear hsn hTL m0 m2 m3
          have k0 : (0 : Int) ≤ (k : Int) := by omega
          have k1 : (k : Int) < (ts.length : Int) := by omega
          go_wp2_with fail
          go_roundw
          case rel =>
            refine ⟨trivial, k + 1, X ++ T ++ S, by omega, by go_num, rfl, ?_⟩
            rw [L_append, L_append, HX.out, Hsn.out, cat_snoc, HTL.out, hSL]; simp
          case measure => simp [Lib.intOf]; omega
        · obtain rfl : k = ts.length := by omega
          have hd : decide ((ts.length : Int) < (ts.length : Int)) = false := by simp
          have hXl : L X = sep true ++ Tk.cat (sep true) ts := by rw [HX.out, List.take_length]
          have hXs : X.size ≤ 20000 := by
            have h1 := cat_length (sep true) ts
            have h4 := congrArg List.length hXl
            rw [List.length_append, h1, ← L_size] at h4
            have h5 : ts.length * (sep true).length ≤ 300 * 6 := Nat.mul_le_mul (by omega) hsl
            omega
          have hlx : Tk.lex (L X) 0 = .ok us := by rw [hXl]; exact Hlex2.out
          have hle2 := fun w' h => lex_ok X hXs us hlx w' h
          have Hle2 := Lib.hid hle2; clear hle2 hlx hXl
          have Hmap := Lib.hid hmap
          go_wp2_with (first | (go_at_call 20; refine (Hle2.out _ T2).mono ?_; rintro e w3 ⟨u, rfl, tu, b4⟩) | (go_at_call 26; refine (rlike_any _ _ ts us _ (tv.below b4) tu (by omega) Hmap.out).mono ?_; rintro e w4 ⟨rfl, b5⟩))
          go_ret
          have b6 := b3.trans (b4.mono b3.size)
          exact ⟨rfl, b6.trans (b5.mono b6.size)⟩
    | false =>
      replace hS : S = ⟨#[32]⟩ := hS
      go_wp2_with (first | (go_at_call 19; refine (alive_any _ hT0).mono ?_; rintro e w1 ⟨rfl, b1⟩; have T1 := hT0.below b1) | (go_at_call 20; refine (Hle.out _ T1).mono ?_; rintro e w2 ⟨v, rfl, tv, b2⟩; obtain ⟨A, c, rfl⟩ := tv.len; have T2 := T1.below b2))
      rw [← hS]
      clear hS
      have b3 := b1.trans (b2.mono b1.size)
      go_loopw [9, 10] (fun t i wr => wr = w2 ∧ ∃ (k : Nat) (X : ByteArray), k ≤ ts.length ∧ i = .int .i64 k ∧ t = .string X ∧ L X = sep false ++ Tk.cat (sep false) (ts.take k)) (fun _ i _ => ts.length - (Lib.intOf i).toNat)
      case atStart => exact ⟨rfl, 0, S, by omega, rfl, rfl, by rw [hSL, List.take_zero]; simp [Tk.cat]⟩
      case round =>
        obtain ⟨rfl, k, X, hk, rfl, rfl, hX⟩ := hrel
        have HX := Lib.hid hX; clear hX
        by_cases hlt : k < ts.length
        · have hd : decide ((k : Int) < (ts.length : Int)) = true := by simp; omega
          obtain ⟨b, off, rfl⟩ := tv.some (by omega)
          obtain ⟨m0, m1, m2, m3⟩ := tv.at k hlt
          have hsn := take_snoc_t ts k hlt
          have hXs : X.size ≤ 3000 := by
            have h1 := cat_length (sep false) (ts.take k)
            have h2 := sum_take_le ts k
            have h3 : (ts.take k).length = k := by rw [List.length_take]; omega
            have h4 := congrArg List.length HX.out
            rw [List.length_append, h1, h3, ← L_size] at h4
            have h5 : k * (sep false).length ≤ 300 * 6 := Nat.mul_le_mul (by omega) hsl
            omega
          have hTs : (bstr (ts.getD k zeroT).text).size ≤ 300 := by
            have h6 : (ts.getD k zeroT).text.length ≤ (ts.map fun t => t.text.length).sum := by
              have := sum_take_le ts (k + 1)
              rw [hsn, List.map_append, List.sum_append] at this
              simp only [List.map_cons, List.map_nil, List.sum_cons, List.sum_nil] at this; omega
            show (ts.getD k zeroT).text.length ≤ 300
            omega
          have hTL : L (bstr (ts.getD k zeroT).text) = (ts.getD k zeroT).text := rfl
          generalize ts.getD k zeroT = d at *
          generalize bstr d.text = T at *
          have Hsn := Lib.hid hsn; have HTL := Lib.hid hTL; clear hsn hTL m0 m2 m3
          have k0 : (0 : Int) ≤ (k : Int) := by omega
          have k1 : (k : Int) < (ts.length : Int) := by omega
          go_wp2_with fail
          go_roundw
          case rel =>
            refine ⟨trivial, k + 1, X ++ T ++ S, by omega, by go_num, rfl, ?_⟩
            rw [L_append, L_append, HX.out, Hsn.out, cat_snoc, HTL.out, hSL]; simp
          case measure => simp [Lib.intOf]; omega
        · obtain rfl : k = ts.length := by omega
          have hd : decide ((ts.length : Int) < (ts.length : Int)) = false := by simp
          have hXl : L X = sep false ++ Tk.cat (sep false) ts := by rw [HX.out, List.take_length]
          have hXs : X.size ≤ 20000 := by
            have h1 := cat_length (sep false) ts
            have h4 := congrArg List.length hXl
            rw [List.length_append, h1, ← L_size] at h4
            have h5 : ts.length * (sep false).length ≤ 300 * 6 := Nat.mul_le_mul (by omega) hsl
            omega
          have hlx : Tk.lex (L X) 0 = .ok us := by rw [hXl]; exact Hlex2.out
          have hle2 := fun w' h => lex_ok X hXs us hlx w' h
          have Hle2 := Lib.hid hle2; clear hle2 hlx hXl
          have Hmap := Lib.hid hmap
          go_wp2_with (first | (go_at_call 20; refine (Hle2.out _ T2).mono ?_; rintro e w3 ⟨u, rfl, tu, b4⟩) | (go_at_call 26; refine (rlike_any _ _ ts us _ (tv.below b4) tu (by omega) Hmap.out).mono ?_; rintro e w4 ⟨rfl, b5⟩))
          go_ret
          have b6 := b3.trans (b4.mono b3.size)
          exact ⟨rfl, b6.trans (b5.mono b6.size)⟩
end Go.Proofs.YtakbpbifgemcdaaDoor
