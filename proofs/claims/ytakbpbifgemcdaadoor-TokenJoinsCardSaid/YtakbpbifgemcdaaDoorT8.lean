/- Tokens read; the law's fixed fact. Conditions: those written in each. -/
import Derived.Test.YtakbpbifgemcdaaDoorT7
namespace Go.Proofs.YtakbpbifgemcdaaDoor
open Go.RowKit
theorem bstr_inj {x y : Tk.By} : (bstr x).toList = (bstr y).toList ↔ x = y := by
  rw [Lib.toList_data, Lib.toList_data]; exact Iff.rfl
theorem tok_eql (x y : Tk.Tok) (w : World) : (binOp .eql 39 (tokV x) (tokV y)).run Tryd.prog w = .ok (.bool (decide (x = y))) w := by
  have e : decide (x = y) = (((x.kind : Int) == y.kind) && (((bstr x.text).toList == (bstr y.text).toList) && (((x.num : Int) == y.num) && ((x.place : Int) == y.place)))) := by
    rw [Bool.eq_iff_iff]
    cases x; cases y
    simp only [Tk.Tok.mk.injEq, decide_eq_true_eq, Bool.and_eq_true, beq_iff_eq, bstr_inj, Int.natCast_inj]
  rw [e]
  unfold tokV
  go_simp
  repeat' split
  all_goals simp_all
theorem tok_neq (x y : Tk.Tok) (w : World) : (binOp .neq 39 (tokV x) (tokV y)).run Tryd.prog w = .ok (.bool (!decide (x = y))) w := by
  have h := tok_eql x y w
  unfold tokV at *
  rw [run_eql_struct] at h
  rw [run_neq_struct]
  cases hq : (Op.equalIn 10000 39 (Value.agg #[.int .i64 x.kind, .string (bstr x.text), .int .u32 x.num, .int .i64 x.place]) (.agg #[.int .i64 y.kind, .string (bstr y.text), .int .u32 y.num, .int .i64 y.place])).run Tryd.prog w with
  | ok b w' =>
    rw [hq] at h
    simp only [Result.andThen, Result.ok.injEq, Value.bool.injEq] at h ⊢
    obtain ⟨rfl, rfl⟩ := h
    exact ⟨rfl, rfl⟩
  | halt x w' => rw [hq] at h; cases h
/-- A token in a block. -/
def TokAt (w : World) (b o : Nat) (t : Tk.Tok) : Prop := w.cell? ⟨b, o, none⟩ = some (.int .i64 t.kind) ∧ w.cell? ⟨b, o + 1, none⟩ = some (.string (bstr t.text)) ∧ w.cell? ⟨b, o + 2, none⟩ = some (.int .u32 t.num) ∧ w.cell? ⟨b, o + 3, none⟩ = some (.int .i64 t.place)
def zeroT : Tk.Tok := ⟨0, [], 0, 0⟩
/-- A slice of tokens. -/
def ToksAt (w : World) (v : Value) (l : List Tk.Tok) : Prop := ∃ A c, v = .slice A l.length c ∧ (0 < l.length → ∃ b off, A = some ⟨b, off, none⟩ ∧ b < w.heap.size ∧ ∀ i, i < l.length → TokAt w b (off + i * 4) (l.getD i zeroT))
theorem TokAt.keep {w w' : World} {b o : Nat} {t : Tk.Tok} (h : TokAt w b o t) (hb : Below w.heap.size w w') : TokAt w' b o t :=
  have k := fun {a : Addr} {v : Value} (h : w.cell? a = some v) => (hb.cell (World.block_lt_of_cell? w _ h)).trans h
  ⟨k h.1, k h.2.1, k h.2.2.1, k h.2.2.2⟩
theorem ToksAt.below {w w' : World} {v : Value} {l : List Tk.Tok} (h : ToksAt w v l) (hb : Below w.heap.size w w') : ToksAt w' v l := by
  obtain ⟨A, c, rfl, h⟩ := h
  refine ⟨A, c, rfl, fun hp => ?_⟩
  obtain ⟨b, off, rfl, h1, h2⟩ := h hp
  exact ⟨b, off, rfl, Nat.lt_of_lt_of_le h1 hb.size, fun i hi => (h2 i hi).keep hb⟩
theorem tcs_at : ∀ (l : List Tk.Tok) (i : Nat), i < l.length → (tcs l)[i * 4]? = some (.int .i64 (l.getD i zeroT).kind) ∧ (tcs l)[i * 4 + 1]? = some (.string (bstr (l.getD i zeroT).text)) ∧ (tcs l)[i * 4 + 2]? = some (.int .u32 (l.getD i zeroT).num) ∧ (tcs l)[i * 4 + 3]? = some (.int .i64 (l.getD i zeroT).place)
  | [], i, h => by simp at h
  | d :: l, 0, _ => ⟨rfl, rfl, rfl, rfl⟩
  | d :: l, i + 1, h => by
    obtain ⟨h0, h1, h2, h3⟩ := tcs_at l i (by simpa using h)
    have e : tcs (d :: l) = tcell d ++ tcs l := rfl
    have eq : ∀ j, (tcs (d :: l))[(i + 1) * 4 + j]? = (tcs l)[i * 4 + j]? := fun j => by
      rw [e, List.getElem?_append_right (by simp [tcell]; omega)]; congr 1; simp [tcell]; omega
    have g : (d :: l).getD (i + 1) zeroT = l.getD i zeroT := rfl
    rw [g]
    exact ⟨(eq 0).trans h0, (eq 1).trans h1, (eq 2).trans h2, (eq 3).trans h3⟩
/-- What Lex has made reads as a slice of tokens. -/
theorem own_toks {w : World} {base n : Nat} {v : Value} {l : List Tk.Tok} (h : w.ownsRow base 39 4 v n (tcs l)) : ToksAt w v l := by
  have hl : l.length = n := by have := h.1; rw [tcs_length] at this; omega
  have hc := h
  rcases h.2 with ⟨rfl, h0⟩ | ⟨g, cap, cur, rfl, hb, hh, h1, h2, _⟩
  · exact ⟨none, 0, by rw [hl, h0], fun hp => by omega⟩
  · refine ⟨some ⟨g, 0, none⟩, cap, by rw [hl], fun _ => ⟨g, 0, rfl, (Array.getElem?_eq_some_iff.1 hh).1, fun i hi => ?_⟩⟩
    obtain ⟨k0, k1, k2, k3⟩ := tcs_at l i hi
    have ad : ∀ j, (⟨g, 0, none⟩ : Addr).add j = ⟨g, j, none⟩ := fun j => by unfold Addr.add; split <;> simp_all
    have c := fun j u hu => (ad j) ▸ hc.cells (g := g) rfl j u hu
    rw [Nat.zero_add]
    exact ⟨c _ _ k0, c _ _ k1, c _ _ k2, c _ _ k3⟩
theorem ToksAt.parts {w : World} {v : Value} {l : List Tk.Tok} {n : Nat} (h : ToksAt w v l) (hl : l.length = n) (hn : 0 < n) : ∃ b off c, v = .slice (some ⟨b, off, none⟩) n c ∧ ∀ i, i < n → TokAt w b (off + i * 4) (l.getD i zeroT) := by
  subst hl
  obtain ⟨A, c, rfl, h⟩ := h
  obtain ⟨b, off, rfl, _, h2⟩ := h hn
  exact ⟨b, off, c, rfl, h2⟩
/-- Lex at a text that is right. -/
theorem lex_ok (s : ByteArray) (hs : s.size ≤ 20000) (ts : List Tk.Tok) (h : Tk.lex (L s) 0 = .ok ts) (w : World) (hT0 : Tb w) :
    Calls Tryd.prog 20 #[.string s] w fun e w' => ∃ v, e = .returned (.tuple #[v, .int .i64 0, .int .i64 0]) ∧ ToksAt w' v ts ∧ Below w.heap.size w w' := by
  refine (lex_any s hs w hT0).mono ?_
  rw [h]
  rintro e w' ⟨⟨v, rfl, ho⟩, hb⟩
  exact ⟨v, rfl, own_toks ho, hb⟩
theorem lex_error (s : ByteArray) (hs : s.size ≤ 20000) (p x : Nat) (h : Tk.lex (L s) 0 = .error (p, x)) (w : World) (hT0 : Tb w) :
    Calls Tryd.prog 20 #[.string s] w fun e w' => e = .returned (.tuple #[.slice none 0 0, .int .i64 (p : Nat), .int .i64 (x : Nat)]) ∧ Below w.heap.size w w' := by
  refine (lex_any s hs w hT0).mono ?_
  rw [h]
  exact fun e w' h => h
set_option maxRecDepth 100000 in
set_option maxHeartbeats 2000000 in
theorem alive_any (w : World) (hT0 : Tb w) : Calls Tryd.prog 19 #[] w fun e w' => e = .returned (.bool true) ∧ Below w.heap.size w w' := by
  have h1 : Tk.lex (L ⟨#[120, 61, 49, 50, 59]⟩) 0 = .ok [⟨1, [120], 0, 0⟩, ⟨4, [61], 0, 1⟩, ⟨2, [49, 50], 12, 2⟩, ⟨4, [59], 0, 4⟩] := by kernel_rfl
  have h2 : Tk.lex (L ⟨#[49, 50, 97, 98]⟩) 0 = .ok [⟨2, [49, 50], 12, 0⟩, ⟨1, [97, 98], 0, 2⟩] := by kernel_rfl
  have h3 : Tk.lex (L ⟨#[39, 97, 39]⟩) 0 = .ok [⟨2, [39, 97, 39], 97, 0⟩] := by kernel_rfl
  have h4 : Tk.lex (L ⟨#[97, 32, 62, 32, 98]⟩) 0 = .error (2, 3) := by kernel_rfl
  have H1 := Lib.hid h1; have H2 := Lib.hid h2; have H3 := Lib.hid h3; have H4 := Lib.hid h4
  clear h1 h2 h3 h4
  go_enter Tryd.func19, Tryd.ntmps19
  go_wp2_with fail
  refine (lex_ok _ (by decide) _ H1.out w hT0).mono ?_
  rintro e w1 ⟨v1, rfl, t1, b1⟩
  have T1 := hT0.below b1
  go_wp2_with fail
  refine (lex_ok _ (by decide) _ H2.out w1 T1).mono ?_
  rintro e w2 ⟨v2, rfl, t2, b2⟩
  have T2 := T1.below b2
  go_wp2_with fail
  refine (lex_ok _ (by decide) _ H3.out w2 T2).mono ?_
  rintro e w3 ⟨v3, rfl, t3, b3⟩
  have T3 := T2.below b3
  go_wp2_with fail
  refine (lex_error _ (by decide) _ _ H4.out w3 T3).mono ?_
  rintro e w4 ⟨rfl, b4⟩
  have b12 := b1.trans (b2.mono b1.size)
  have b13 := b12.trans (b3.mono b12.size)
  have b14 := b13.trans (b4.mono b13.size)
  have t1' := ((t1.below b2).below b3).below b4
  have t2' := (t2.below b3).below b4
  have t3' := t3.below b4
  obtain ⟨x1, o1, c1, rfl, k1⟩ := t1'.parts (n := 4) rfl (by decide)
  obtain ⟨x2, o2, c2, rfl, k2⟩ := t2'.parts (n := 2) rfl (by decide)
  obtain ⟨x3, o3, c3, rfl, k3⟩ := t3'.parts (n := 1) rfl (by decide)
  obtain ⟨m0, m1, m2, m3⟩ := k1 2 (by decide)
  obtain ⟨n0, n1, n2, n3⟩ := k2 1 (by decide)
  obtain ⟨p0, p1, p2, p3⟩ := k3 0 (by decide)
  clear k1 k2 k3 t1 t2 t3 t1' t2' t3' T1 T2 T3 H1 H2 H3 H4
  have g1 : (bstr [49, 50]).toList = [49, 50] := by rw [Lib.toList_data]; rfl
  have g2 : (bstr [97, 98]).toList = [97, 98] := by rw [Lib.toList_data]; rfl
  go_wp2_with fail
  go_ret
  exact ⟨rfl, b14⟩
end Go.Proofs.YtakbpbifgemcdaaDoor
