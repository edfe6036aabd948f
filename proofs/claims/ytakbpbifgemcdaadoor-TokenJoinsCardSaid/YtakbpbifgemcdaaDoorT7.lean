/- Walk: token.Lex. Conditions: those written in each. -/
import Derived.Test.YtakbpbifgemcdaaDoorT6
import Derived.WalkMore
namespace Go.Proofs.YtakbpbifgemcdaaDoor
open Go.RowKit
/-- Tokens as the values of cells. -/
def tcell (t : Tk.Tok) : List Value := [.int .i64 t.kind, .string (bstr t.text), .int .u32 t.num, .int .i64 t.place]
def tcs (l : List Tk.Tok) : List Value := l.flatMap tcell
theorem tcs_snoc (l : List Tk.Tok) (d : Tk.Tok) : tcs (l ++ [d]) = tcs l ++ tcell d := by simp [tcs]
theorem tcs_length (l : List Tk.Tok) : (tcs l).length = l.length * 4 := by
  induction l with
  | nil => rfl
  | cons d l ih => rw [show tcs (d :: l) = tcell d ++ tcs l from rfl, List.length_append, ih]; simp [tcell]; omega
theorem Tryd.info39 : (Tryd.prog.info? 39).map (fun i => (i.zero, i.size, i.bytes)) = some (some (.agg #[.int .i64 0, .string ⟨#[]⟩, .int .u32 0, .int .i64 0]), 4, 40) := by kernel_rfl
theorem info_parts {t : TypeId} {z : Value} {sz by_ : Nat} (h : (Tryd.prog.info? t).map (fun i => (i.zero, i.size, i.bytes)) = some (some z, sz, by_)) :
    ∃ i0, Tryd.prog.info? t = some i0 ∧ i0.zero = some z ∧ i0.size = sz ∧ i0.bytes = by_ := by
  cases hi : Tryd.prog.info? t with
  | none => simp [hi] at h
  | some i0 => simp [hi] at h; exact ⟨i0, rfl, h.1, h.2.1, h.2.2⟩
theorem tok_one (d : Tk.Tok) : ∀ u ∈ tcell d, u.oneCell' = true := by
  intro u hu
  simp only [tcell, List.mem_cons, List.not_mem_nil, or_false] at hu
  rcases hu with rfl | rfl | rfl | rfl <;> rfl
theorem cell_tok_new (w : World) (d : Tk.Tok) (t : TypeId) : ∀ j u, (tcell d)[j]? = some u → (w.alloc (.cells (tcell d).toArray t)).cell? ((⟨w.heap.size, 0, none⟩ : Addr).add j) = some u := by
  intro j u hu
  rw [show (⟨w.heap.size, 0, none⟩ : Addr).add j = ⟨w.heap.size, j, none⟩ from by unfold Addr.add; split <;> simp_all, World.cell?_alloc_new]
  simpa using hu
theorem own_base_le {w : World} {B B' : Nat} {e : TypeId} {size n : Nat} {v : Value} {xs : List Value} (h : w.ownsRow B e size v n xs) (hB : B' ≤ B) : w.ownsRow B' e size v n xs := by
  refine ⟨h.1, ?_⟩
  rcases h.2 with h | ⟨g, cap, cur, h1, h2, h3⟩
  · exact .inl h
  · exact .inr ⟨g, cap, cur, h1, by omega, h3⟩
theorem own_keep {w w' : World} {base n size : Nat} {e : TypeId} {v : Value} {xs : List Value} (h : w.ownsRow base e size v n xs) (hb : Below w.heap.size w w') : w'.ownsRow base e size v n xs :=
  h.kept (w' := w') (row := none) ⟨hb.os, hb.tape, hb.output, hb.size, fun q hq _ => hb.block q hq⟩ (by cases hv : Value.ownBlock _ <;> simp)
/- How a text is read, step by step. -/
theorem lex_go_blank {s : ByteArray} {a : Nat} (ha : a < s.size) (h : Tk.blank (s[a]'ha) = true) : Tk.lex ((L s).drop a) a = Tk.lex ((L s).drop (a + 1)) (a + 1) := by
  rw [drop_cons ha, Tk.lex_blank h]
theorem lex_go_note {s : ByteArray} {a : Nat} (ha : a < s.size) (hb : Tk.blank (s[a]'ha) = false) (h : Tk.isNote ((L s).drop a) = true) : Tk.lex ((L s).drop a) a = Tk.lex ((L s).drop (a + (((L s).drop a).takeWhile Tk.lineEnd).length)) (a + (((L s).drop a).takeWhile Tk.lineEnd).length) := by
  rw [← List.drop_drop]
  rw [drop_cons ha] at h ⊢
  generalize (L s).drop (a + 1) = r at *
  generalize s[a]'ha = c at *
  simp only [Tk.lex]
  rw [List.length_cons, Tk.lexF, if_neg (by simp [hb]), if_pos h]
  refine Tk.lexF_fuel _ _ _ _ ?_ (Nat.le_refl _)
  obtain ⟨q, hq⟩ := Tk.isNote_iff.1 h
  simp only [List.cons.injEq] at hq
  obtain ⟨rfl, rfl⟩ := hq
  simp only [List.length_drop, List.takeWhile, Tk.lineEnd_slash, List.length_cons]
  omega
theorem clear_here {s : ByteArray} {a : Nat} (ha : a < s.size) (hb : Tk.blank (s[a]'ha) = false) (h : Tk.isNote ((L s).drop a) = false) : Tk.Clear ((L s).drop a) := by
  rw [drop_cons ha] at h ⊢
  exact ⟨_, _, rfl, hb, h⟩
theorem lex_go_tok {s : ByteArray} {a : Nat} {k n : Nat} {t : Tk.By} (hc : Tk.Clear ((L s).drop a)) (h : Tk.next ((L s).drop a) = .ok (k, t, n)) : Tk.lex ((L s).drop a) a = (Tk.lex ((L s).drop (a + t.length)) (a + t.length)).map (⟨k, t, n, a⟩ :: ·) ∧ t.length ≤ ((L s).drop a).length ∧ t.length ≠ 0 := by
  obtain ⟨hi, y, hy, _⟩ := Tk.next_is h
  have e : (L s).drop (a + t.length) = y := by rw [← List.drop_drop, hy]; simp
  refine ⟨?_, by rw [hy]; simp, by simpa using hi.ne⟩
  rw [e, hy]
  rw [hy] at hc h
  exact Tk.lex_tok hc h
theorem next_pos {l : Tk.By} {x : Nat} (h : Tk.next l = .error x) : x ≠ 0 := by
  unfold Tk.next at h
  split at h
  · split at h <;> simp at h; omega
  · split at h
    · split at h <;> simp at h; omega
    · split at h
      · split at h <;> simp at h; omega
      · split at h <;> simp at h; omega
def LexPost (w : World) (r : Except (Nat × Nat) (List Tk.Tok)) (e : Ending) (w' : World) : Prop :=
  (match r with | .ok ts => ∃ v, e = .returned (.tuple #[v, .int .i64 0, .int .i64 0]) ∧ w'.ownsRow w.heap.size 39 4 v ts.length (tcs ts) | .error (p, x) => e = .returned (.tuple #[.slice none 0 0, .int .i64 (p : Nat), .int .i64 (x : Nat)])) ∧ Below w.heap.size w w'
set_option maxRecDepth 100000 in
set_option maxHeartbeats 2000000 in
theorem lex_any (s : ByteArray) (hs : s.size ≤ 20000) (w : World) (hT0 : Tb w) : Calls Tryd.prog 20 #[.string s] w (LexPost w (Tk.lex (L s) 0)) := by
  obtain ⟨i0, hi, hz0, hz1, hz2⟩ := info_parts Tryd.info39
  generalize hR : Tk.lex (L s) 0 = R
  have HR := Lib.hid hR; clear hR
  have q0 : decide ((20000 : Int) < (s.size : Int)) = false := by simp; omega
  go_enter Tryd.func20, Tryd.ntmps20
  go_wp2_with fail
  go_step3
  go_wp2_with fail
  go_step3
  go_wp2_with fail
  go_loopw [5, 6] (fun v i wr => ∃ (a : Nat) (done : List Tk.Tok), a ≤ s.size ∧ i = .int .i64 a ∧ done.length ≤ a ∧ wr.ownsRow w.heap.size 39 4 v done.length (tcs done) ∧ R = (Tk.lex ((L s).drop a) a).map (done ++ ·) ∧ Below w.heap.size w wr) (fun _ i wr => s.size - (Lib.intOf i).toNat)
  case atStart =>
    refine ⟨0, [], by omega, rfl, by simp, World.ownsRow_nil _ _ _ _, ?_, Below.refl _ _⟩
    rw [← HR.out, List.drop_zero]
    cases Tk.lex (L s) 0 <;> rfl
  case round =>
    obtain ⟨a, done, ha, rfl, hdl, hown, hlex, hb⟩ := hrel
    have Hlex := Lib.hid hlex; clear hlex
    have Hown := Lib.hid hown; clear hown
    by_cases hlt : a < s.size
    · have htr := hT0.below hb
      cases hbl : Tk.blank (s[a]'hlt) with
      | true =>
        have hstep := lex_go_blank hlt hbl
        have Hst := Lib.hid hstep; clear hstep
        have hb32 : (s[a]'hlt).toNat = 32 ∨ (s[a]'hlt).toNat = 9 ∨ (s[a]'hlt).toNat = 10 := by
          simp only [Tk.blank, Bool.or_eq_true, decide_eq_true_eq] at hbl; omega
        clear hbl
        go_wp2_with fail
        all_goals first
          | (refine ⟨⟨a + 1, done, by omega, by go_num, by omega, Hown.out, ?_, hb⟩, ?_⟩
             · rw [Hlex.out, Hst.out]
             · simp [Lib.intOf]; omega)
          | (exfalso; simp only [beq_eq_false_iff_ne] at *; omega)
      | false =>
        have e1 : (((s[a]'hlt).toNat : Int) == 32) = false := by rw [beq_eq_false_iff_ne]; simp [Tk.blank] at hbl; omega
        have e2 : (((s[a]'hlt).toNat : Int) == 9) = false := by rw [beq_eq_false_iff_ne]; simp [Tk.blank] at hbl; omega
        have e3 : (((s[a]'hlt).toNat : Int) == 10) = false := by rw [beq_eq_false_iff_ne]; simp [Tk.blank] at hbl; omega
        have hpre := fun w' => strings_HasPrefix (s.extract a s.size) ⟨#[47, 47]⟩ w'
        have hT : L (s.extract a s.size) = (L s).drop a := by
          rw [L_extract, List.take_of_length_le (by rw [List.length_drop, ← L_size]; exact Nat.le_refl _)]
        have r1 : (a : Int) ≤ (s.size : Int) := by omega
        rw [show Lib.hasPrefix (s.extract a s.size).data.toList (⟨#[47, 47]⟩ : ByteArray).data.toList = Tk.isNote ((L s).drop a) from by rw [show (s.extract a s.size).data.toList = _ from hT]; rfl] at hpre
        clear hT
        cases hnt : Tk.isNote ((L s).drop a) with
        | true =>
          rw [hnt] at hpre
          have Hpre := Lib.hid hpre; clear hpre
          have hrun := fun w' => run_any s a _ _ line_tells (by omega) ha w'
          have hstep := lex_go_note hlt hbl hnt
          have hn0 : (((L s).drop a).takeWhile Tk.lineEnd).length ≠ 0 := by
            obtain ⟨q, hq⟩ := Tk.isNote_iff.1 hnt
            rw [hq]; simp [List.takeWhile, Tk.lineEnd_slash]
          have hnl : a + (((L s).drop a).takeWhile Tk.lineEnd).length ≤ s.size := by
            have := tw_le (p := Tk.lineEnd) ((L s).drop a); rw [List.length_drop, ← L_size] at this; omega
          generalize (((L s).drop a).takeWhile Tk.lineEnd).length = n at *
          have Hrun := Lib.hid hrun; clear hrun
          have Hst := Lib.hid hstep; clear hstep
          go_wp2_with (first | (go_at_call 37; refine (Hpre.out _).mono ?_; rintro e w' ⟨rfl, rfl⟩) | (go_at_call 38; refine (Hrun.out _).mono ?_; rintro e w' ⟨rfl, rfl⟩))
          refine ⟨⟨a + n, done, by omega, by go_num, by omega, Hown.out, ?_, hb⟩, ?_⟩
          · rw [Hlex.out, Hst.out]
          · simp [Lib.intOf]; omega
        | false =>
          rw [hnt] at hpre
          have Hpre := Lib.hid hpre; clear hpre
          have hcl := clear_here hlt hbl hnt
          have hnext := next_any s a hlt (by omega) wr htr
          cases hnx : Tk.next ((L s).drop a) with
          | error x =>
            rw [hnx] at hnext
            have hle := Tk.lex_err (p := a) hcl hnx
            have Hle := Lib.hid hle; clear hle
            have Hnext := Lib.hid hnext; clear hnext hbl hnt
            have hx0 := next_pos hnx
            have hx1 : ((x : Int) != 0) = true := by rw [bne_iff_ne]; omega
            go_wp2_with (first | (go_at_call 37; refine (Hpre.out _).mono ?_; rintro e w' ⟨rfl, rfl⟩) | (go_at_call 40; refine Hnext.out.mono ?_; rintro e w1 ⟨⟨tk, rfl⟩, hb1⟩; simp only [tokV]))
            try rw [Exit.noGoto_ret]
            refine bodyPost_ret (v := .tuple #[.slice none 0 0, .int .i64 a, .int .i64 x]) (by simp [results, Tryd.results20, go_sem]) rfl ⟨?_, (hb.trans (hb1.mono hb.size)).alloc (Nat.le_trans hb.size hb1.size) _⟩
            have e : R = .error (a, x) := by rw [Hlex.out, Hle.out]; rfl
            rw [e]
          | ok z =>
            obtain ⟨k, t, n⟩ := z
            rw [hnx] at hnext
            obtain ⟨hle, htl, ht0⟩ := lex_go_tok hcl hnx
            rw [List.length_drop, ← L_size] at htl
            have Hle := Lib.hid hle; clear hle
            have Hnext := Lib.hid hnext; clear hnext hbl hnt
            go_wp2_with (go_at_call 37; refine (Hpre.out _).mono ?_; rintro e w' ⟨rfl, rfl⟩)
            refine Hnext.out.mono ?_
            rintro e w1 ⟨rfl, hb1⟩
            simp only [tokV]
            have hb2 := hb.trans (hb1.mono hb.size)
            have hb3 : Below w1.heap.size w1 (w1.alloc (.cells #[.int .i64 k, .string (bstr t), .int .u32 n, .int .i64 a] 39)) := (Below.refl _ _).alloc (Nat.le_refl _) _
            have hown := own_keep (own_keep Hown.out hb1) hb3
            have hb4 := hb2.trans (hb3.mono hb2.size)
            have htc : (w1.alloc (.cells #[.int .i64 k, .string (bstr t), .int .u32 n, .int .i64 a] 39)).cell? ⟨w1.heap.size, 1, none⟩ = some (.string (bstr t)) := by rw [World.cell?_alloc_new]; rfl
            have hs1 := hb2.size
            have hsz : (bstr t).size = t.length := rfl
            go_wp2_with (at_builtin; refine wpList_append_own _ rfl _ _ 35 rfl w.heap.size 39 i0 (.agg #[.int .i64 0, .string ⟨#[]⟩, .int .u32 0, .int .i64 0]) 4 40 Tryd.underlying35 hi hz0 hz1 hz2 rfl (by decide) _ _ _ rfl (hown.alloc _) ⟨w1.heap.size + 1, 0, none⟩ 1 1 (tcell ⟨k, t, n, a⟩) rfl rfl ?c1 ?c2 ?c3 ?c4 ?c5 ?_)
            case c1 =>
              intro j u hu
              have hq := cell_tok_new (w1.alloc (.cells #[.int .i64 k, .string (bstr t), .int .u32 n, .int .i64 a] 39)) ⟨k, t, n, a⟩ 39 j u hu
              rw [show (w1.alloc (.cells #[.int .i64 k, .string (bstr t), .int .u32 n, .int .i64 a] 39)).heap.size = w1.heap.size + 1 from by simp] at hq
              exact hq
            case c2 => exact tok_one _
            case c3 => unfold maxLen; omega
            case c4 => omega
            case c5 => simp; omega
            intro v' w4 hown1 hg1 _
            have hb5 := hb4.alloc (o := .cells #[.int .i64 k, .string (bstr t), .int .u32 n, .int .i64 a] 39) (by simp; omega)
            have hb7 : Below w.heap.size w w4 := hb5.grown hg1 (by simp; omega) (fun q hq => (hown.lt q hq).1)
            have hown0 := own_keep Hown.out hb1
            have hne : ¬ (some w1.heap.size = u5.ownBlock) := fun e => by have := (hown0.lt _ e.symm).2; omega
            have hb6 : Below (w1.alloc (.cells #[.int .i64 k, .string (bstr t), .int .u32 n, .int .i64 a] 39)).heap.size (w1.alloc (.cells #[.int .i64 k, .string (bstr t), .int .u32 n, .int .i64 a] 39)) ((w1.alloc (.cells #[.int .i64 k, .string (bstr t), .int .u32 n, .int .i64 a] 39)).alloc (.cells #[.int .i64 k, .string (bstr t), .int .u32 n, .int .i64 a] 39)) := (Below.refl _ _).alloc (Nat.le_refl _) _
            have htc2 : w4.cell? ⟨w1.heap.size, 1, none⟩ = some (.string (bstr t)) := (World.cell?_of_block (hg1.block w1.heap.size (by simp; omega) hne)).trans ((hb6.cell (p := ⟨w1.heap.size, 1, none⟩) (by simp)).trans htc)
            clear hg1 hb5 hb6 htc hown hown0 hb3 hb4
            go_wp2_with fail
            refine ⟨⟨a + t.length, done ++ [⟨k, t, n, a⟩], by omega, ?_, by simp; omega, ?_, ?_, hb7⟩, ?_⟩
            · rfl
            · rw [tcs_snoc, List.length_append]; exact hown1
            · rw [Hlex.out, Hle.out]
              cases Tk.lex ((L s).drop (a + t.length)) (a + t.length) with
              | error e => rfl
              | ok l => simp [Except.map]
            · simp [Lib.intOf]; omega
    · obtain rfl : a = s.size := by omega
      go_wp2_with fail
      try rw [Exit.noGoto_ret]
      refine bodyPost_ret (v := .tuple #[u5, .int .i64 0, .int .i64 0]) (by simp [results, Tryd.results20, go_sem]) rfl ⟨?_, hb⟩
      have hd : (L s).drop s.size = [] := List.drop_eq_nil_of_le (by rw [L_size]; exact Nat.le_refl _)
      have e : R = .ok done := by rw [Hlex.out, hd, Tk.lex_nil]; simp [Except.map]
      rw [e]
      exact ⟨_, rfl, Hown.out⟩
end Go.Proofs.YtakbpbifgemcdaaDoor
