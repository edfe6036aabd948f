/- Walks: token.next at a sign. Conditions: those written in each. -/
import Derived.Test.YtakbpbifgemcdaaDoorT5
import Derived.Deep.DeepCutAuto
import Derived.WalkSmall
namespace Go.Proofs.YtakbpbifgemcdaaDoor
open Go.RowKit
theorem sg_at (G : Nat → ByteArray) (j : Nat) (hj : j < 24) : ∀ w, (Instr.index 99 (.agg #[.string (G 0), .string (G 1), .string (G 2), .string (G 3), .string (G 4), .string (G 5), .string (G 6), .string (G 7), .string (G 8), .string (G 9), .string (G 10), .string (G 11), .string (G 12), .string (G 13), .string (G 14), .string (G 15), .string (G 16), .string (G 17), .string (G 18), .string (G 19), .string (G 20), .string (G 21), .string (G 22), .string (G 23)]) (.int .i64 j)).run Tryd.prog w = .ok (.string (G j)) w := by
  intro w
  obtain rfl | rfl | rfl | rfl | rfl | rfl | rfl | rfl | rfl | rfl | rfl | rfl | rfl | rfl | rfl | rfl | rfl | rfl | rfl | rfl | rfl | rfl | rfl | rfl : j = 0 ∨ j = 1 ∨ j = 2 ∨ j = 3 ∨ j = 4 ∨ j = 5 ∨ j = 6 ∨ j = 7 ∨ j = 8 ∨ j = 9 ∨ j = 10 ∨ j = 11 ∨ j = 12 ∨ j = 13 ∨ j = 14 ∨ j = 15 ∨ j = 16 ∨ j = 17 ∨ j = 18 ∨ j = 19 ∨ j = 20 ∨ j = 21 ∨ j = 22 ∨ j = 23 := by omega
  all_goals kernel_rfl
/-- The signs, loaded. -/
theorem signs_loaded : ∃ (sv : Array Value) (G : Nat → ByteArray), (∀ j, G j = bstr (Tk.signs.getD j [])) ∧ (∀ j, j < 24 → ∀ w, (Instr.index 99 (.agg sv) (.int .i64 (j : Nat))).run Tryd.prog w = .ok (.string (G j)) w) ∧
    ∀ w, Tb w → (Instr.loadAt 99 (.pointer (some ⟨1, 0, none⟩))).run Tryd.prog w = .ok (.agg sv) w := by
  obtain ⟨G, hG⟩ : ∃ G : Nat → ByteArray, ∀ j, G j = bstr (Tk.signs.getD j []) := ⟨_, fun _ => rfl⟩
  refine ⟨_, G, hG, sg_at G, fun w h => ?_⟩
  have hS : ∀ j, j < 24 → w.cell? ((⟨1, 0, none⟩ : Addr).add (0 + j)) = some ((fun j => .string (G j)) (0 + j)) := fun j hj => by
    have e : (⟨1, 0, none⟩ : Addr).add (0 + j) = ⟨1, j, none⟩ := by unfold Addr.add; split <;> simp_all
    rw [e, h.2 j hj, ← hG]; simp
  have := run_loadCellsFrom (P := Tryd.prog) w ⟨1, 0, none⟩ (fun j => .string (G j)) 24 0 #[] hS
  have hagg : (isAgg 99).run Tryd.prog w = .ok true w := by kernel_rfl
  have hsz : (sizeOf 99).run Tryd.prog w = .ok 24 w := by kernel_rfl
  simp only [Instr.loadAt, Instr.sureAddr, Sem.run_bind, Sem.run_pure, Result.andThen, loadVar, hagg, hsz, loadCells, if_true, this]
  have e : ∀ x y : Array Value, x = y → (Result.ok (Value.agg x) w : Result Value) = .ok (.agg y) w := fun x y h => by rw [h]
  exact e _ _ (by kernel_rfl)
theorem find_first {p : Tk.By → Bool} : ∀ {l : List Tk.By} {k : Nat}, k < l.length → p (l.getD k []) = true → (∀ j, j < k → p (l.getD j []) = false) → l.find? p = some (l.getD k [])
  | [], k, h, _, _ => by simp at h
  | x :: l, 0, _, h, _ => by simp only [List.getD_cons_zero] at h ⊢; simp [List.find?, h]
  | x :: l, k + 1, hk, h, hne => by
    have h0 := hne 0 (by omega)
    simp only [List.getD_cons_zero] at h0
    simp only [List.getD_cons_succ] at h ⊢
    simp only [List.find?, h0]
    exact find_first (by simpa using hk) h fun j hj => by have := hne (j + 1) (by omega); simpa using this
theorem find_none {p : Tk.By → Bool} {l : List Tk.By} (h : ∀ j, j < l.length → p (l.getD j []) = false) : l.find? p = none := by
  rw [List.find?_eq_none]
  intro x hx
  obtain ⟨j, hj, rfl⟩ := List.mem_iff_getElem.1 hx
  have := h j hj
  rw [List.getD_eq_getElem?_getD, List.getElem?_eq_getElem hj] at this
  simpa using this
theorem wpList_is {P : Program} {ops : Array Oper} {Q : Exit → Act → World → Prop} {a : Act} {w : World} {rest : List Oper} {o : Oper} (hg : o.guard = none) (v : Value) (h : (execOp a.eval o).run P w = .ok (.value v) w)
    (hK : wpList P ops Q rest (a.put o.dst v) w) : wpList P ops Q (o :: rest) a w :=
  wpList_plain hg fun K' hK' => by
    unfold Oper.wp
    rw [h]
    exact hK' _ _ hK
set_option maxRecDepth 100000 in
set_option maxHeartbeats 2000000 in
theorem next_sign (s : ByteArray) (a : Nat) (ha : a < s.size) (hd : Tk.dig (s[a]'ha) = false) (hl : Tk.ltr (s[a]'ha) = false) (hc : (s[a]'ha).toNat ≠ 39) (w : World) (hT0 : Tb w) :
    Calls Tryd.prog 40 #[.string s, .int .i64 (a : Nat)] w (NextPost w a (Tk.next ((L s).drop a))) := by
  have hnx : Tk.next ((L s).drop a) = (match Tk.sign ((L s).drop a) with | none => .error 3 | some g => .ok (4, g, 0)) := by
    have hh : ((L s).drop a).head? = some (s[a]'ha) := by rw [drop_cons ha, List.head?_cons]
    have hne : ¬ some (s[a]'ha) = some 39 := by
      intro h
      simp only [Option.some.injEq] at h
      rw [h] at hc
      exact hc rfl
    unfold Tk.next
    rw [hh, if_neg (by simp [hd]), if_neg (by simp [hl]), if_neg hne]
    rfl
  have Hnx := Lib.hid hnx; clear hnx
  have q0 : (((s[a]'ha).toNat : Int) == 39) = false := by rw [beq_eq_false_iff_ne]; omega
  obtain ⟨sv, G, hG, hat, hld⟩ := signs_loaded
  have hl1 := hld _ (hT0.below ((((Below.refl _ _).alloc (Nat.le_refl _) (.cells #[.int .i64 0, .string ⟨#[]⟩, .int .u32 0, .int .i64 0] 39)).alloc (by simp) (.cells #[.int .i64 0, .string ⟨#[]⟩, .int .u32 0, .int .i64 a] 39))))
  clear hld hT0
  have HG := Lib.hid hG; clear hG
  go_enter Tryd.func40, Tryd.ntmps40
  go_upto_region 22 with (first | (go_at_call 68; refine (digit_any _ _).mono ?_; rw [hd]; rintro e w' ⟨rfl, rfl⟩) | (go_at_call 50; refine (letter_any _ _).mono ?_; rw [hl]; rintro e w' ⟨rfl, rfl⟩))
  refine wp_region_lit (wpList_is rfl (.agg sv) ?_ ?_)
  · simp only [execOp, Sem.run_bind]
    show ((Instr.loadAt 99 (.pointer (some ⟨1, 0, none⟩))).run Tryd.prog _).andThen _ = _
    rw [hl1]
    rfl
  clear hl1
  go_frame
  have hx : ∀ k, k < 24 → Lib.hasPrefix ((L s).drop a) (L (G k)) = (Tk.signs.getD k []).isPrefixOf ((L s).drop a) := fun k hk => by
    rw [HG.out]; rfl
  have Hx := Lib.hid hx; clear hx
  have hT : L (s.extract a s.size) = (L s).drop a := by
    rw [L_extract, List.take_of_length_le (by rw [List.length_drop, ← L_size]; exact Nat.le_refl _)]
  go_wp2_with fail
  go_loopw [5, 11, 125] (fun _ _ i wr => wr = ((w.alloc (.cells #[.int .i64 0, .string ⟨#[]⟩, .int .u32 0, .int .i64 0] 39)).alloc (.cells #[.int .i64 0, .string ⟨#[]⟩, .int .u32 0, .int .i64 a] 39)) ∧ ∃ k : Nat, k ≤ 24 ∧ i = .int .i64 k ∧ ∀ j, j < k → (Tk.signs.getD j []).isPrefixOf ((L s).drop a) = false) (fun _ _ i _ => 24 - (Lib.intOf i).toNat)
  case atStart => exact ⟨rfl, 0, by decide, rfl, fun j h => absurd h (Nat.not_lt_zero _)⟩
  case round =>
    obtain ⟨rfl, k, hk, rfl, hne⟩ := hrel
    have Hne := Lib.hid hne; clear hne
    have r1 : (a : Int) ≤ (s.size : Int) := by omega
    by_cases hlt : k < 24
    · have hk24 : decide ((k : Int) < 24) = true := by simp; omega
      have hix := hat k hlt
      cases hp : (Tk.signs.getD k []).isPrefixOf ((L s).drop a) with
      | true =>
        have hcall := fun w' => strings_HasPrefix (s.extract a s.size) (G k) w'
        rw [show Lib.hasPrefix (s.extract a s.size).data.toList (G k).data.toList = true from by rw [show (s.extract a s.size).data.toList = _ from hT]; exact (Hx.out k hlt).trans hp] at hcall
        have Hcall := Lib.hid hcall; clear hcall
        go_wp2_with (go_at_call 37; refine (Hcall.out _).mono ?_; rintro e w' ⟨rfl, rfl⟩)
        refine bodyPost_ret (v := .tuple #[.agg #[.int .i64 4, .string (G k), .int .u32 0, .int .i64 a], .int .i64 0]) (by simp [results, Tryd.results40, go_sem]) rfl ⟨?_, (((Below.refl _ _).alloc (Nat.le_refl _) _).alloc (by simp) _)⟩
        have hsg : Tk.sign ((L s).drop a) = some (Tk.signs.getD k []) := find_first (p := fun g => g.isPrefixOf ((L s).drop a)) hlt hp Hne.out
        rw [Hnx.out, hsg]
        simp only [tokV, HG.out]
        rfl
      | false =>
        have hcall := fun w' => strings_HasPrefix (s.extract a s.size) (G k) w'
        rw [show Lib.hasPrefix (s.extract a s.size).data.toList (G k).data.toList = false from by rw [show (s.extract a s.size).data.toList = _ from hT]; exact (Hx.out k hlt).trans hp] at hcall
        have Hcall := Lib.hid hcall; clear hcall
        go_wp2_with (go_at_call 37; refine (Hcall.out _).mono ?_; rintro e w' ⟨rfl, rfl⟩)
        go_roundw
        case rel =>
          refine ⟨trivial, k + 1, by omega, by go_num, fun j hj => ?_⟩
          by_cases e : j = k
          · rw [e]; exact hp
          · exact Hne.out j (by omega)
        case measure => simp [Lib.intOf]; omega
    · have hk24 : decide ((k : Int) < 24) = false := by simp; omega
      go_wp2_with fail
      obtain rfl : k = 24 := by omega
      refine bodyPost_ret (v := .tuple #[.agg #[.int .i64 0, .string ⟨#[]⟩, .int .u32 0, .int .i64 a], .int .i64 3]) (by simp [results, Tryd.results40, go_sem]) rfl ⟨?_, (((Below.refl _ _).alloc (Nat.le_refl _) _).alloc (by simp) _)⟩
      have hsg : Tk.sign ((L s).drop a) = none := find_none (p := fun g => g.isPrefixOf ((L s).drop a)) Hne.out
      rw [Hnx.out, hsg]
      exact ⟨⟨0, [], 0, a⟩, rfl⟩
/-- token.next. -/
theorem next_any (s : ByteArray) (a : Nat) (ha : a < s.size) (hs : s.size ≤ 4611686018427387904) (w : World) (hT0 : Tb w) :
    Calls Tryd.prog 40 #[.string s, .int .i64 (a : Nat)] w (NextPost w a (Tk.next ((L s).drop a))) := by
  cases hd : Tk.dig (s[a]'ha) with
  | true => exact next_num s a ha hs hd w
  | false =>
    cases hl : Tk.ltr (s[a]'ha) with
    | true => exact next_name s a ha hs hd hl w hT0
    | false =>
      by_cases hc : (s[a]'ha).toNat = 39
      · exact next_quote s a ha hs hc w
      · exact next_sign s a ha hd hl hc w hT0
end Go.Proofs.YtakbpbifgemcdaaDoor
