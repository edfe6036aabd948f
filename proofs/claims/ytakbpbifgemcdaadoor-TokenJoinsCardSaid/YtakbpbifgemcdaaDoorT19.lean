/- Walk: the law TokenJoins. Conditions: those written in each. -/
import Derived.Test.YtakbpbifgemcdaaDoorT17
namespace Go.Proofs.YtakbpbifgemcdaaDoor
open Go.RowKit
theorem L_append' (a b : ByteArray) : L (a ++ b) = L a ++ L b := by
  show (a ++ b).data.toList = _
  rw [ByteArray.data_append]; simp
theorem toks_cells {w : World} {a : Addr} {n c : Nat} {l : List Tk.Tok} (h : ToksAt w (.slice (some a) n c) l) : ∀ j u, (tcs l)[j]? = some u → w.cell? (a.add j) = some u := by
  intro j u hu
  have hj : j < l.length * 4 := by rw [← tcs_length]; exact (List.getElem?_eq_some_iff.1 hu).1
  obtain ⟨b, off, e⟩ := h.some (by omega)
  simp only [Option.some.injEq] at e
  subst e
  have hi : j / 4 < l.length := by omega
  obtain ⟨k0, k1, k2, k3⟩ := tcs_at l (j / 4) hi
  obtain ⟨m0, m1, m2, m3⟩ := h.at (j / 4) hi
  have ad : (⟨b, off, none⟩ : Addr).add j = ⟨b, off + j, none⟩ := by unfold Addr.add; split <;> simp_all
  rw [ad]
  have hr : j % 4 = 0 ∨ j % 4 = 1 ∨ j % 4 = 2 ∨ j % 4 = 3 := by omega
  rcases hr with hr | hr | hr | hr
  · rw [show j / 4 * 4 = j by omega] at k0 m0
    rw [hu] at k0; rw [m0, k0]
  · rw [show j / 4 * 4 + 1 = j by omega] at k1
    rw [show off + j / 4 * 4 + 1 = off + j by omega] at m1
    rw [hu] at k1; rw [m1, k1]
  · rw [show j / 4 * 4 + 2 = j by omega] at k2
    rw [show off + j / 4 * 4 + 2 = off + j by omega] at m2
    rw [hu] at k2; rw [m2, k2]
  · rw [show j / 4 * 4 + 3 = j by omega] at k3
    rw [show off + j / 4 * 4 + 3 = off + j by omega] at m3
    rw [hu] at k3; rw [m3, k3]
theorem toks_one (l : List Tk.Tok) : ∀ u ∈ tcs l, u.oneCell' = true := by
  intro u hu
  obtain ⟨d, _, h⟩ := List.mem_flatMap.1 hu
  exact tok_one d u h
theorem getD_in' {ts : List Tk.Tok} {k : Nat} (h : k < ts.length) : ts.getD k zeroT ∈ ts := by
  rw [List.getD_eq_getElem?_getD, List.getElem?_eq_getElem h]
  exact List.getElem_mem h
theorem take_snoc_u (l : List Tk.Tok) (k : Nat) (h : k < l.length) : l.take (k + 1) = l.take k ++ [l.getD k zeroT] := by
  rw [List.take_succ_eq_append_getElem h, List.getD_eq_getElem?_getD, List.getElem?_eq_getElem h]; rfl
theorem cell_new4 (w : World) (a b c d : Value) (t : TypeId) : ∀ j u, [a, b, c, d][j]? = some u → (w.alloc (.cells #[a, b, c, d] t)).cell? ((⟨w.heap.size, 0, none⟩ : Addr).add j) = some u := by
  intro j u hu
  rw [show (⟨w.heap.size, 0, none⟩ : Addr).add j = ⟨w.heap.size, j, none⟩ from by unfold Addr.add; split <;> simp_all, World.cell?_alloc_new]
  simpa using hu
theorem lex_place {l : Tk.By} {p q x : Nat} (h : Tk.lex l p = .error (q, x)) : q ≤ p + l.length := by
  suffices H : ∀ n, ∀ l : Tk.By, l.length ≤ n → ∀ p, Tk.lex l p = .error (q, x) → q ≤ p + l.length from H _ l (Nat.le_refl _) p h
  intro n
  induction n with
  | zero =>
    intro l hl p h
    have : l = [] := by simpa using hl
    subst this; rw [Tk.lex_nil] at h; cases h
  | succ n ih =>
    intro l hl p h
    obtain ⟨g, r, rfl, hg, h1 | ⟨_, e, he, h2⟩ | ⟨_, k, t, n', y, rfl, hn, h3⟩⟩ := Tk.lex_cases l p
    · rw [h1.2] at h; cases h
    · rw [h2] at h; cases h; simp
    · rw [h3] at h
      have hne := List.length_pos_iff.2 (Tk.next_is hn).1.ne
      simp only [List.length_append] at hl ⊢
      cases hy : Tk.lex y (p + g.length + t.length) with
      | error e => rw [hy] at h; cases h; have := ih y (by omega) _ hy; omega
      | ok ts => rw [hy] at h; cases h
set_option maxRecDepth 100000 in
set_option maxHeartbeats 4000000 in
theorem ljoins_any (s r : ByteArray) (w : World) (hT0 : Tb w) : Calls Tryd.prog 8 #[.string s, .string r] w fun e w' => e = .returned (.bool true) ∧ Below w.heap.size w w' := by
  by_cases h200 : 200 < s.size ∨ 200 < r.size
  · by_cases h3 : 200 < s.size
    · have q : decide ((200 : Int) < (s.size : Int)) = true := by simp; omega
      go_enter Tryd.func8, Tryd.ntmps8
      go_wp2_with (go_at_call 19; refine (alive_any _ hT0).mono ?_; rintro e w1 ⟨rfl, b1⟩)
      go_ret
      exact ⟨rfl, b1⟩
    · have q : decide ((200 : Int) < (s.size : Int)) = false := by simp; omega
      have q1 : decide ((200 : Int) < (r.size : Int)) = true := by simp; omega
      go_enter Tryd.func8, Tryd.ntmps8
      go_wp2_with (go_at_call 19; refine (alive_any _ hT0).mono ?_; rintro e w1 ⟨rfl, b1⟩)
      go_ret
      exact ⟨rfl, b1⟩
  have q : decide ((200 : Int) < (s.size : Int)) = false := by simp; omega
  have q1 : decide ((200 : Int) < (r.size : Int)) = false := by simp; omega
  have hX : L (s ++ ⟨#[10]⟩ ++ r) = L s ++ 10 :: L r := by
    rw [L_append', L_append', List.append_assoc]; rfl
  have hXs : (s ++ ⟨#[10]⟩ ++ r).size ≤ 20000 := by
    rw [L_size, hX, List.length_append, List.length_cons, ← L_size, ← L_size]; omega
  have hj := Tk.joins (a := L s) (L r) 0
  rw [← hX] at hj
  have hsh := Tk.lex_shift (l := L r) 0 (s.size + 1)
  rw [← L_size, show 0 + s.size + 1 = 0 + (s.size + 1) by omega, hsh] at hj
  clear hsh hX
  have hlb := fun w' h => lex_any r (by omega) w' h
  have Hlb := Lib.hid hlb; clear hlb
  cases hlex : Tk.lex (L s) 0 with
  | error e =>
    obtain ⟨p, x⟩ := e
    rw [hlex] at hj
    have hx : ((x : Int) != 0) = true := by have := lex_pos hlex; rw [bne_iff_ne]; omega
    have hle := fun w' h => lex_error s (by omega) p x hlex w' h
    have hje := fun w' h => lex_error _ hXs p x hj w' h
    have Hle := Lib.hid hle; have Hje := Lib.hid hje; clear hle hlex hj hje
    cases hr : Tk.lex (L r) 0 with
    | error y =>
      rw [hr] at Hlb
      go_enter Tryd.func8, Tryd.ntmps8
      go_wp2_with (first | (go_at_call 19; refine (alive_any _ hT0).mono ?_; rintro e w1 ⟨rfl, b1⟩; have T1 := hT0.below b1) | (go_at_call_of 20 (Value.string s); refine (Hle.out _ T1).mono ?_; rintro e w2 ⟨rfl, b2⟩; have T2 := T1.below b2) | (go_at_call_of 20 (Value.string r); refine (Hlb.out _ T2).mono ?_; rintro e w3 ⟨rfl, b3⟩; have T3 := T2.below b3) | (go_at_call 20; refine (Hje.out _ T3).mono ?_; rintro e w4 ⟨rfl, b4⟩))
      go_ret
      have c1 := b1.trans (b2.mono b1.size)
      have c2 := c1.trans (b3.mono c1.size)
      have c3 := c2.trans (b4.mono c2.size)
      exact ⟨ret_bool (by simp), c3⟩
    | ok us =>
      have hlr := fun w' h => lex_ok r (by omega) us hr w' h
      replace Hlb := Lib.hid hlr; clear hlr hr
      go_enter Tryd.func8, Tryd.ntmps8
      go_wp2_with (first | (go_at_call 19; refine (alive_any _ hT0).mono ?_; rintro e w1 ⟨rfl, b1⟩; have T1 := hT0.below b1) | (go_at_call_of 20 (Value.string s); refine (Hle.out _ T1).mono ?_; rintro e w2 ⟨rfl, b2⟩; have T2 := T1.below b2) | (go_at_call_of 20 (Value.string r); refine (Hlb.out _ T2).mono ?_; rintro e w3 ⟨v, rfl, tv, b3⟩; have T3 := T2.below b3) | (go_at_call 20; refine (Hje.out _ T3).mono ?_; rintro e w4 ⟨rfl, b4⟩))
      go_ret
      have c1 := b1.trans (b2.mono b1.size)
      have c2 := c1.trans (b3.mono c1.size)
      have c3 := c2.trans (b4.mono c2.size)
      exact ⟨ret_bool (by simp), c3⟩
  | ok ts =>
    rw [hlex] at hj
    have hle := fun w' h => lex_ok s (by omega) ts hlex w' h
    have Hle := Lib.hid hle; clear hle
    cases hr : Tk.lex (L r) 0 with
    | error y =>
      obtain ⟨p, y⟩ := y
      have hy : ((y : Int) != 0) = true := by have := lex_pos hr; rw [bne_iff_ne]; omega
      have hpl := lex_place hr
      rw [← L_size] at hpl
      rw [hr] at hj
      have hlr := fun w' h => lex_error r (by omega) p y hr w' h
      replace Hlb := Lib.hid hlr; clear hlr hr
      have hje := fun w' h => lex_error _ hXs (p + (s.size + 1)) y hj w' h
      have Hje := Lib.hid hje; clear hje hj hlex
      go_enter Tryd.func8, Tryd.ntmps8
      go_wp2_with (first | (go_at_call 19; refine (alive_any _ hT0).mono ?_; rintro e w1 ⟨rfl, b1⟩; have T1 := hT0.below b1) | (go_at_call_of 20 (Value.string s); refine (Hle.out _ T1).mono ?_; rintro e w2 ⟨v, rfl, tv, b2⟩; have T2 := T1.below b2) | (go_at_call_of 20 (Value.string r); refine (Hlb.out _ T2).mono ?_; rintro e w3 ⟨rfl, b3⟩; have T3 := T2.below b3) | (go_at_call 20; refine (Hje.out _ T3).mono ?_; rintro e w4 ⟨rfl, b4⟩))
      go_ret
      have c1 := b1.trans (b2.mono b1.size)
      have c2 := c1.trans (b3.mono c1.size)
      have c3 := c2.trans (b4.mono c2.size)
      exact ⟨ret_bool (by simp; omega), c3⟩
    | ok us =>
      rw [hr] at hj
      obtain ⟨hsz1, _, hb1⟩ := Tk.sizes hlex
      obtain ⟨hsz2, _, hb2⟩ := Tk.sizes hr
      rw [← L_size] at hsz1 hsz2
      have hlr := fun w' h => lex_ok r (by omega) us hr w' h
      replace Hlb := Lib.hid hlr; clear hlr hr
      have hje := fun w' h => lex_ok _ hXs (ts ++ us.map fun t => { t with place := t.place + (s.size + 1) }) (by rw [hj]; rfl) w' h
      have Hje := Lib.hid hje; clear hje hj hlex
      obtain ⟨i0, hi, hz0, hz1, hz2⟩ := info_parts Tryd.info39
      go_enter Tryd.func8, Tryd.ntmps8
      go_upto_region 12 with (first | (go_at_call 19; refine (alive_any _ hT0).mono ?_; rintro e w1 ⟨rfl, b1⟩; have T1 := hT0.below b1) | (go_at_call_of 20 (Value.string s); refine (Hle.out _ T1).mono ?_; rintro e w2 ⟨v, rfl, tv, b2⟩; have T2 := T1.below b2) | (go_at_call_of 20 (Value.string r); refine (Hlb.out _ T2).mono ?_; rintro e w3 ⟨u, rfl, tu, b3⟩; have T3 := T2.below b3) | (go_at_call 20; refine (Hje.out _ T3).mono ?_; rintro e w4 ⟨n, rfl, tn, b4⟩))
      have c1 := b1.trans (b2.mono b1.size)
      have c2 := c1.trans (b3.mono c1.size)
      have c3 := c2.trans (b4.mono c2.size)
      have tv4 := (tv.below b3).below b4
      have tu4 := tu.below b4
      clear tv tu b1 b2 b3 b4 T1 T2 T3 c1 c2 Hle Hlb Hje
      obtain ⟨A, c, rfl⟩ := tv4.len
      obtain ⟨A', c', rfl⟩ := tu4.len
      have hs3 := c3.size
      have hown0 : (w4.alloc (.cells #[] 39)).ownsRow w4.heap.size 39 4 (.slice (some ⟨w4.heap.size, 0, none⟩) 0 0) 0 [] := World.ownsRow_lit _ #[] 0 (Nat.le_refl _) (by decide) rfl
      have bA : Below w4.heap.size w4 (w4.alloc (.cells #[] 39)) := (Below.refl _ _).alloc (Nat.le_refl _) _
      cases A with
      | some a =>
        have hcs := toks_cells (tv4.below bA)
        go_wp2_with (at_builtin; refine wpList_append_own _ rfl _ _ 35 rfl w4.heap.size 39 i0 (.agg #[.int .i64 0, .string ⟨#[]⟩, .int .u32 0, .int .i64 0]) 4 40 Tryd.underlying35 hi hz0 hz1 hz2 rfl (by decide) _ _ _ rfl hown0 a ts.length c (tcs ts) rfl (tcs_length ts) ?c1 ?c2 ?c3 ?c4 ?c5 ?_)
        case c1 => exact hcs
        case c2 => exact toks_one ts
        case c3 => unfold maxLen; omega
        case c4 => omega
        case c5 => simp
        intro V5 w5 hown5 hg5 _
        have hb5 : Below w4.heap.size w4 w5 := bA.grown hg5 (by simp) (fun q hq => (hown0.lt q hq).1)
        clear hg5 hown0
        go_wp2_with fail
        go_loopw [14, 15] (fun V i wr => ∃ k : Nat, k ≤ us.length ∧ i = .int .i64 k ∧ wr.ownsRow w4.heap.size 39 4 V (ts.length + k) (tcs (ts ++ (us.take k).map (fun t => ({ t with place := t.place + (s.size + 1) } : Tk.Tok)))) ∧ Below w4.heap.size w4 wr) (fun _ i _ => us.length - (Lib.intOf i).toNat)
        case atStart => exact ⟨0, by omega, rfl, by simpa using hown5, hb5⟩
        case round =>
          obtain ⟨k, hk, rfl, hown, hb⟩ := hrel
          have tk := tu4.below hb
          have tk2 := tn.below hb
          by_cases hlt : k < us.length
          · have hd : decide ((k : Int) < (us.length : Int)) = true := by simp; omega
            obtain ⟨b, off, rfl⟩ := tk.some (by omega)
            obtain ⟨m0, m1, m2, m3⟩ := tk.at k hlt
            have hpl := (hb2 _ (getD_in' hlt)).2.2
            rw [← L_size] at hpl
            have hsn := take_snoc_u us k hlt
            generalize us.getD k zeroT = d at *
            have k0 : (0 : Int) ≤ (k : Int) := by omega
            have k1 : (k : Int) < (us.length : Int) := by omega
            have hsb := hb.size
            have hblt : b < wr.heap.size := World.block_lt_of_cell? wr _ m0
            have hne1 : b ≠ wr.heap.size := by omega
            have Hsn := Lib.hid hsn; clear hsn
            have bB : Below wr.heap.size wr (wr.alloc (.cells #[.int .i64 d.kind, .string (bstr d.text), .int .u32 d.num, .int .i64 ((d.place : Int) + (s.size : Int) + 1)] 39)) := (Below.refl _ _).alloc (Nat.le_refl _) _
            have hown6 := own_keep hown bB
            have hb6 := hb.trans (bB.mono hsb)
            have f1 : IntKind.i64.wrap ((d.place : Int) + (s.size : Int)) = (d.place : Int) + (s.size : Int) := IntWalk.i64_in _ (by omega)
            have f2 : IntKind.i64.wrap ((d.place : Int) + (s.size : Int) + 1) = (d.place : Int) + (s.size : Int) + 1 := IntWalk.i64_in _ (by omega)
            go_wp2_with (at_builtin; refine wpList_append_own _ rfl _ _ 35 rfl w4.heap.size 39 i0 (.agg #[.int .i64 0, .string ⟨#[]⟩, .int .u32 0, .int .i64 0]) 4 40 Tryd.underlying35 hi hz0 hz1 hz2 rfl (by decide) _ _ _ rfl (hown6.alloc _) ⟨wr.heap.size + 1, 0, none⟩ 1 1 [.int .i64 d.kind, .string (bstr d.text), .int .u32 d.num, .int .i64 ((d.place : Int) + (s.size : Int) + 1)] rfl rfl ?d1 ?d2 ?d3 ?d4 ?d5 ?_)
            case d1 =>
              intro j u hu
              have hq := cell_new4 (wr.alloc (.cells #[.int .i64 d.kind, .string (bstr d.text), .int .u32 d.num, .int .i64 ((d.place : Int) + (s.size : Int) + 1)] 39)) (.int .i64 d.kind) (.string (bstr d.text)) (.int .u32 d.num) (.int .i64 ((d.place : Int) + (s.size : Int) + 1)) 39 j u hu
              rw [show (wr.alloc (.cells #[.int .i64 d.kind, .string (bstr d.text), .int .u32 d.num, .int .i64 ((d.place : Int) + (s.size : Int) + 1)] 39)).heap.size = wr.heap.size + 1 from by simp] at hq
              exact hq
            case d2 =>
              intro u hu
              simp only [List.mem_cons, List.not_mem_nil, or_false] at hu
              rcases hu with rfl | rfl | rfl | rfl <;> rfl
            case d3 => (try simp only [List.length_nil]); unfold maxLen; omega
            case d4 => (try simp only [List.length_nil]); omega
            case d5 => simp; omega
            intro V6 w6 hown7 hg1 _
            have bC : Below (wr.alloc (.cells #[.int .i64 d.kind, .string (bstr d.text), .int .u32 d.num, .int .i64 ((d.place : Int) + (s.size : Int) + 1)] 39)).heap.size (wr.alloc (.cells #[.int .i64 d.kind, .string (bstr d.text), .int .u32 d.num, .int .i64 ((d.place : Int) + (s.size : Int) + 1)] 39)) ((wr.alloc (.cells #[.int .i64 d.kind, .string (bstr d.text), .int .u32 d.num, .int .i64 ((d.place : Int) + (s.size : Int) + 1)] 39)).alloc (.cells #[.int .i64 d.kind, .string (bstr d.text), .int .u32 d.num, .int .i64 ((d.place : Int) + (s.size : Int) + 1)] 39)) := (Below.refl _ _).alloc (Nat.le_refl _) _
            have hb7 := hb6.trans (bC.mono hb6.size)
            have hb8 : Below w4.heap.size w4 w6 := hb7.grown hg1 hb7.size (fun q hq => (hown6.lt q hq).1)
            have e : tcs (ts ++ (us.take (k + 1)).map (fun t => ({ t with place := t.place + (s.size + 1) } : Tk.Tok))) = tcs (ts ++ (us.take k).map (fun t => ({ t with place := t.place + (s.size + 1) } : Tk.Tok))) ++ [.int .i64 d.kind, .string (bstr d.text), .int .u32 d.num, .int .i64 ((d.place : Int) + (s.size : Int) + 1)] := by
              rw [Hsn.out, List.map_append, ← List.append_assoc]
              show tcs (_ ++ [({ d with place := d.place + (s.size + 1) } : Tk.Tok)]) = _
              rw [tcs_snoc]; simp [tcell]; omega
            have hown8 : w6.ownsRow w4.heap.size 39 4 V6 (ts.length + (k + 1)) (tcs (ts ++ (us.take (k + 1)).map (fun t => ({ t with place := t.place + (s.size + 1) } : Tk.Tok)))) := by
              rw [e]; simpa [Nat.add_assoc] using hown7
            clear hown7 hown6 hown bB bC hg1 hb7 hb6 e tk tk2
            go_wp2_with fail
            go_roundw
            case rel => exact ⟨k + 1, by omega, by go_num, hown8, hb8⟩
            case measure => simp [Lib.intOf]; omega
          · obtain rfl : k = us.length := by omega
            have hd : decide ((us.length : Int) < (us.length : Int)) = false := by simp
            rw [List.take_length] at hown
            have hta := own_toks hown
            go_wp2_with (go_at_call 27; refine (rsame_any _ _ _ _ tk2 hta (by simp; omega)).mono ?_; rintro e w7 ⟨rfl, b7⟩)
            go_ret
            have c4 := c3.trans (hb.mono hs3)
            exact ⟨rfl, c4.trans (b7.mono c4.size)⟩
      | none =>
        have h0 : ts = [] := by
          rcases Nat.eq_zero_or_pos ts.length with h | h
          · exact List.eq_nil_of_length_eq_zero h
          · obtain ⟨b, off, h⟩ := tv4.some h; cases h
        have hl0 : ts.length = 0 := by rw [h0]; rfl
        rw [hl0]
        clear hl0
        subst h0
        have hown5 : (w4.alloc (.cells #[] 39)).ownsRow w4.heap.size 39 4 (.slice (some ⟨w4.heap.size, 0, none⟩) 0 0) ([] : List Tk.Tok).length (tcs []) := hown0
        have hb5 := bA
        go_wp2_with fail
        go_loopw [14, 15] (fun V i wr => ∃ k : Nat, k ≤ us.length ∧ i = .int .i64 k ∧ wr.ownsRow w4.heap.size 39 4 V (([] : List Tk.Tok).length + k) (tcs (([] : List Tk.Tok) ++ (us.take k).map (fun t => ({ t with place := t.place + (s.size + 1) } : Tk.Tok)))) ∧ Below w4.heap.size w4 wr) (fun _ i _ => us.length - (Lib.intOf i).toNat)
        case atStart => exact ⟨0, by omega, rfl, by simpa using hown5, hb5⟩
        case round =>
          obtain ⟨k, hk, rfl, hown, hb⟩ := hrel
          have tk := tu4.below hb
          have tk2 := tn.below hb
          by_cases hlt : k < us.length
          · have hd : decide ((k : Int) < (us.length : Int)) = true := by simp; omega
            obtain ⟨b, off, rfl⟩ := tk.some (by omega)
            obtain ⟨m0, m1, m2, m3⟩ := tk.at k hlt
            have hpl := (hb2 _ (getD_in' hlt)).2.2
            rw [← L_size] at hpl
            have hsn := take_snoc_u us k hlt
            generalize us.getD k zeroT = d at *
            have k0 : (0 : Int) ≤ (k : Int) := by omega
            have k1 : (k : Int) < (us.length : Int) := by omega
            have hsb := hb.size
            have hblt : b < wr.heap.size := World.block_lt_of_cell? wr _ m0
            have hne1 : b ≠ wr.heap.size := by omega
            have Hsn := Lib.hid hsn; clear hsn
            have bB : Below wr.heap.size wr (wr.alloc (.cells #[.int .i64 d.kind, .string (bstr d.text), .int .u32 d.num, .int .i64 ((d.place : Int) + (s.size : Int) + 1)] 39)) := (Below.refl _ _).alloc (Nat.le_refl _) _
            have hown6 := own_keep hown bB
            have hb6 := hb.trans (bB.mono hsb)
            have f1 : IntKind.i64.wrap ((d.place : Int) + (s.size : Int)) = (d.place : Int) + (s.size : Int) := IntWalk.i64_in _ (by omega)
            have f2 : IntKind.i64.wrap ((d.place : Int) + (s.size : Int) + 1) = (d.place : Int) + (s.size : Int) + 1 := IntWalk.i64_in _ (by omega)
            go_wp2_with (at_builtin; refine wpList_append_own _ rfl _ _ 35 rfl w4.heap.size 39 i0 (.agg #[.int .i64 0, .string ⟨#[]⟩, .int .u32 0, .int .i64 0]) 4 40 Tryd.underlying35 hi hz0 hz1 hz2 rfl (by decide) _ _ _ rfl (hown6.alloc _) ⟨wr.heap.size + 1, 0, none⟩ 1 1 [.int .i64 d.kind, .string (bstr d.text), .int .u32 d.num, .int .i64 ((d.place : Int) + (s.size : Int) + 1)] rfl rfl ?d1 ?d2 ?d3 ?d4 ?d5 ?_)
            case d1 =>
              intro j u hu
              have hq := cell_new4 (wr.alloc (.cells #[.int .i64 d.kind, .string (bstr d.text), .int .u32 d.num, .int .i64 ((d.place : Int) + (s.size : Int) + 1)] 39)) (.int .i64 d.kind) (.string (bstr d.text)) (.int .u32 d.num) (.int .i64 ((d.place : Int) + (s.size : Int) + 1)) 39 j u hu
              rw [show (wr.alloc (.cells #[.int .i64 d.kind, .string (bstr d.text), .int .u32 d.num, .int .i64 ((d.place : Int) + (s.size : Int) + 1)] 39)).heap.size = wr.heap.size + 1 from by simp] at hq
              exact hq
            case d2 =>
              intro u hu
              simp only [List.mem_cons, List.not_mem_nil, or_false] at hu
              rcases hu with rfl | rfl | rfl | rfl <;> rfl
            case d3 => (try simp only [List.length_nil]); unfold maxLen; omega
            case d4 => (try simp only [List.length_nil]); omega
            case d5 => simp; omega
            intro V6 w6 hown7 hg1 _
            have bC : Below (wr.alloc (.cells #[.int .i64 d.kind, .string (bstr d.text), .int .u32 d.num, .int .i64 ((d.place : Int) + (s.size : Int) + 1)] 39)).heap.size (wr.alloc (.cells #[.int .i64 d.kind, .string (bstr d.text), .int .u32 d.num, .int .i64 ((d.place : Int) + (s.size : Int) + 1)] 39)) ((wr.alloc (.cells #[.int .i64 d.kind, .string (bstr d.text), .int .u32 d.num, .int .i64 ((d.place : Int) + (s.size : Int) + 1)] 39)).alloc (.cells #[.int .i64 d.kind, .string (bstr d.text), .int .u32 d.num, .int .i64 ((d.place : Int) + (s.size : Int) + 1)] 39)) := (Below.refl _ _).alloc (Nat.le_refl _) _
            have hb7 := hb6.trans (bC.mono hb6.size)
            have hb8 : Below w4.heap.size w4 w6 := hb7.grown hg1 hb7.size (fun q hq => (hown6.lt q hq).1)
            have e : tcs (([] : List Tk.Tok) ++ (us.take (k + 1)).map (fun t => ({ t with place := t.place + (s.size + 1) } : Tk.Tok))) = tcs (([] : List Tk.Tok) ++ (us.take k).map (fun t => ({ t with place := t.place + (s.size + 1) } : Tk.Tok))) ++ [.int .i64 d.kind, .string (bstr d.text), .int .u32 d.num, .int .i64 ((d.place : Int) + (s.size : Int) + 1)] := by
              rw [Hsn.out, List.map_append, ← List.append_assoc]
              show tcs (_ ++ [({ d with place := d.place + (s.size + 1) } : Tk.Tok)]) = _
              rw [tcs_snoc]; simp [tcell]; omega
            have hown8 : w6.ownsRow w4.heap.size 39 4 V6 (([] : List Tk.Tok).length + (k + 1)) (tcs (([] : List Tk.Tok) ++ (us.take (k + 1)).map (fun t => ({ t with place := t.place + (s.size + 1) } : Tk.Tok)))) := by
              rw [e]; simpa [Nat.add_assoc] using hown7
            clear hown7 hown6 hown bB bC hg1 hb7 hb6 e tk tk2
            go_wp2_with fail
            go_roundw
            case rel => exact ⟨k + 1, by omega, by go_num, hown8, hb8⟩
            case measure => simp [Lib.intOf]; omega
          · obtain rfl : k = us.length := by omega
            have hd : decide ((us.length : Int) < (us.length : Int)) = false := by simp
            rw [List.take_length] at hown
            have hta := own_toks hown
            go_wp2_with (go_at_call 27; refine (rsame_any _ _ _ _ tk2 hta (by simp; omega)).mono ?_; rintro e w7 ⟨rfl, b7⟩)
            go_ret
            have c4 := c3.trans (hb.mono hs3)
            exact ⟨rfl, c4.trans (b7.mono c4.size)⟩
end Go.Proofs.YtakbpbifgemcdaaDoor
