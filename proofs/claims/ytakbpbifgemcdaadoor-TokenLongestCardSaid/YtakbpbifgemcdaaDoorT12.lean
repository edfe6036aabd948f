/- Walk: the law TokenLongest. Conditions: those written in each. -/
import Derived.Test.YtakbpbifgemcdaaDoorT11
import Derived.Test.YtakbpbifgemcdaaDoorR
namespace Go.Proofs.YtakbpbifgemcdaaDoor
open Go.RowKit
theorem stand_mem {s : Tk.By} : ∀ {ts : List Tk.Tok} {p : Nat}, Tk.Stand s p ts → ∀ d ∈ ts, d.text ≠ [] ∧ d.place + d.text.length ≤ s.length
  | [], _, _, d, h => by simp at h
  | t :: ts, p, h, d, hd => by
    obtain ⟨s1, s2, s3, s4, s5, s6, s7, s8, s9⟩ := h
    rcases List.mem_cons.1 hd with rfl | hd
    · exact ⟨s2, s3⟩
    · exact stand_mem s9 d hd
theorem ckeep {w w' : World} {a : Addr} {v : Value} (h : w.cell? a = some v) (hb : Below w.heap.size w w') : w'.cell? a = some v := (hb.cell (World.block_lt_of_cell? w _ h)).trans h
theorem getD_mem {ts : List Tk.Tok} {k : Nat} (h : k < ts.length) : ts.getD k zeroT ∈ ts := by
  rw [List.getD_eq_getElem?_getD, List.getElem?_eq_getElem h]
  exact List.getElem_mem h
set_option maxRecDepth 100000 in
set_option maxHeartbeats 4000000 in
theorem llongest_any (s : ByteArray) (w : World) (hT0 : Tb w) : Calls Tryd.prog 9 #[.string s] w fun e w' => e = .returned (.bool true) ∧ Below w.heap.size w w' := by
  by_cases h400 : 400 < s.size
  · have q : decide ((400 : Int) < (s.size : Int)) = true := by simp; omega
    go_enter Tryd.func9, Tryd.ntmps9
    go_wp2_with (go_at_call 19; refine (alive_any _ hT0).mono ?_; rintro e w1 ⟨rfl, b1⟩)
    go_ret
    exact ⟨rfl, b1⟩
  have q : decide ((400 : Int) < (s.size : Int)) = false := by simp; omega
  cases hlex : Tk.lex (L s) 0 with
  | error e =>
    obtain ⟨p, x⟩ := e
    have hx : ((x : Int) != 0) = true := by have := lex_pos hlex; rw [bne_iff_ne]; omega
    have hle := fun w' h => lex_error s (by omega) p x hlex w' h
    have Hle := Lib.hid hle; clear hle
    go_enter Tryd.func9, Tryd.ntmps9
    go_wp2_with (first | (go_at_call 19; refine (alive_any _ hT0).mono ?_; rintro e w1 ⟨rfl, b1⟩) | (go_at_call 20; refine (Hle.out _ (hT0.below b1)).mono ?_; rintro e w2 ⟨rfl, b2⟩))
    go_ret
    exact ⟨rfl, b1.trans (b2.mono b1.size)⟩
  | ok ts =>
    have hle := fun w' h => lex_ok s (by omega) ts hlex w' h
    have Hle := Lib.hid hle; clear hle
    have hst := stand_mem (Tk.stands hlex)
    have hlo := Tk.longest hlex
    obtain ⟨hsz, _, _⟩ := Tk.sizes hlex
    rw [← L_size] at hsz
    have Hst := Lib.hid hst; clear hst hlex
    have Hlo := Lib.hid hlo; clear hlo
    go_enter Tryd.func9, Tryd.ntmps9
    go_wp2_with (first | (go_at_call 19; refine (alive_any _ hT0).mono ?_; rintro e w1 ⟨rfl, b1⟩) | (go_at_call 20; refine (Hle.out _ (hT0.below b1)).mono ?_; rintro e w2 ⟨v, rfl, tv, b2⟩; obtain ⟨A, c, rfl, hA⟩ := id tv))
    have b3 := b1.trans (b2.mono b1.size)
    go_loopw [6] (fun i wr => ∃ k : Nat, k ≤ ts.length ∧ i = .int .i64 k ∧ Below w.heap.size w wr ∧ ToksAt wr (.slice A ts.length c) ts) (fun i _ => ts.length - (Lib.intOf i).toNat)
    case atStart => exact ⟨0, by omega, rfl, b3, tv⟩
    case round =>
      obtain ⟨k, hk, rfl, hb, tk⟩ := hrel
      by_cases hlt : k < ts.length
      · have hd : decide ((k : Int) < (ts.length : Int)) = true := by simp; omega
        obtain ⟨b, off, rfl, _, _⟩ := hA (by omega)
        have hmem := getD_mem hlt
        obtain ⟨m0, m1, m2, m3⟩ := tk.at k hlt
        have t1 := Hst.out _ hmem
        have t2 := Hlo.out _ hmem
        generalize ts.getD k zeroT = d at *
        obtain ⟨kd, tx, nm, pl⟩ := d
        simp only at m0 m1 m2 m3 t1 t2
        obtain ⟨s2, s3⟩ := t1
        rw [← L_size] at s3
        obtain ⟨x, r, rfl⟩ : ∃ x r, tx = x :: r := by cases tx with | nil => simp at s2 | cons x r => exact ⟨x, r, rfl⟩
        have hsT : (bstr (x :: r)).size = (x :: r).length := rfl
        have hgo := fun c w' => goes_any kd nm pl x r c w'
        generalize (x :: r).length = m at *
        generalize bstr (x :: r) = T at *
        have f4 : IntKind.i64.wrap ((pl : Int) + (m : Int)) = (pl : Int) + (m : Int) := IntWalk.i64_in _ (by omega)
        have k0 : (0 : Int) ≤ (k : Int) := by omega
        have k1 : (k : Int) < (ts.length : Int) := by omega
        clear hmem s2
        have Hgo := Lib.hid hgo; clear hgo
        have Ht2 := Lib.hid t2; clear t2
        go_wp2_with fail
        go_quiet (fail)
        by_cases hend : pl + m < s.size
        · have hhead : ((L s).drop (pl + m)).head? = some (s[pl + m]'hend) := by rw [drop_cons hend, List.head?_cons]
          have hg := Ht2.out _ hhead
          have hcall := fun w' => Hgo.out (s[pl + m]'hend) w'
          rw [hg] at hcall
          have Hc := Lib.hid hcall; clear hcall hhead hg
          have f5 : decide ((pl : Int) + (m : Int) < (s.size : Int)) = true := by simp; omega
          have f6 : (0 : Int) ≤ (pl : Int) + (m : Int) := by omega
          have f7 : (pl : Int) + (m : Int) < (s.size : Int) := by omega
          go_wp2_with fail
          refine wp_region_invG (fun wx => (wx.cell? ⟨b, off + k * 4, none⟩ = some (.int .i64 kd) ∧ wx.cell? ⟨b, off + k * 4 + 1, none⟩ = some (.string T) ∧ wx.cell? ⟨b, off + k * 4 + 2, none⟩ = some (.int .u32 nm) ∧ wx.cell? ⟨b, off + k * 4 + 3, none⟩ = some (.int .i64 pl)) ∧ Below w.heap.size w wx ∧ ToksAt wx (.slice (some ⟨b, off, none⟩) ts.length c) ts) (fun j v w' => match j with | 0 => v = (.int .i64 ((pl : Int) + (m : Int))) | 1 => v = (.string s) | 2 => v = (.int .i64 (s.size : Nat)) | 3 => v = (.bool true) | 4 => v = (.bool true) | 5 => v = (.slice (some ⟨b, off, none⟩) ts.length c) | 6 => v = (.int .i64 (k : Nat)) | 7 => v = (.pointer (some ⟨b, off + k * 4, none⟩)) | 8 => v = (.agg #[.int .i64 kd, .string T, .int .u32 nm, .int .i64 pl]) | 9 => v = (.string s) | 10 => v = (.int .i64 ((pl : Int) + (m : Int))) | 11 => v = (.int .u8 ((s[pl + m]'hend).toNat : Nat)) | 12 => v = (.bool false) | _ => True) 13 (by kernel_rfl) (by kernel_rfl) ⟨⟨m0, m1, m2, m3⟩, (pw_drewN hb _).drew, tk.below (pw_drewN (Below.refl _ _) _).drew⟩ (fun _ _ h hb => ⟨⟨ckeep h.1.1 hb, ckeep h.1.2.1 hb, ckeep h.1.2.2.1 hb, ckeep h.1.2.2.2 hb⟩, h.2.1.trans (hb.mono h.2.1.size), h.2.2.below hb⟩) ?_ ?_ ?_
          · rintro (_|_|_|_|_|_|_|_|_|_|_|_|_|j) v w1 w2 hb h
            all_goals exact h
          · refine ⟨fun us wx hx hd => ?_, fun us wx hx hd => ?_, fun us wx hx hd => ?_, fun us wx hx hd => ?_, fun us wx hx hd => ?_, fun us wx hx hd => ?_, fun us wx hx hd => ?_, fun us wx hx hd => ?_, fun us wx hx hd => ?_, fun us wx hx hd => ?_, fun us wx hx hd => ?_, fun us wx hx hd => ?_, fun us wx hx hd => ?_, trivial⟩
            all_goals simp only [putAll, dstOf, List.getElem?_toArray, List.getElem?_cons_succ, List.getElem?_cons_zero, Option.bind_some]
            all_goals go_frame
            all_goals refine .inl ⟨?_, ?_⟩
            · rfl
            · go_simp
              first | exact Below.refl _ _ | exact ⟨rfl, Below.refl _ _⟩
            · rfl
            · go_simp
              first | exact Below.refl _ _ | exact ⟨rfl, Below.refl _ _⟩
            · rfl
            · rw [show us 1 = (.string s) from hd 1 rfl]
              go_simp
              first | exact Below.refl _ _ | exact ⟨rfl, Below.refl _ _⟩
            · rfl
            · rw [show us 0 = (.int .i64 ((pl : Int) + (m : Int))) from hd 0 rfl]; rw [show us 2 = (.int .i64 (s.size : Nat)) from hd 2 rfl]
              go_simp
              first | exact Below.refl _ _ | exact ⟨rfl, Below.refl _ _⟩
            · rfl
            · rw [show us 3 = (.bool true) from hd 3 rfl]
              go_simp
              first | exact Below.refl _ _ | exact ⟨rfl, Below.refl _ _⟩
            · rw [show us 4 = .bool true from hd 4 rfl]; rfl
            · go_simp
              first | exact Below.refl _ _ | exact ⟨rfl, Below.refl _ _⟩
            · rw [show us 4 = .bool true from hd 4 rfl]; rfl
            · go_simp
              first | exact Below.refl _ _ | exact ⟨rfl, Below.refl _ _⟩
            · rw [show us 4 = .bool true from hd 4 rfl]; rfl
            · rw [show us 5 = (.slice (some ⟨b, off, none⟩) ts.length c) from hd 5 rfl]; rw [show us 6 = (.int .i64 (k : Nat)) from hd 6 rfl]
              go_simp
              first | exact Below.refl _ _ | exact ⟨rfl, Below.refl _ _⟩
            · rw [show us 4 = .bool true from hd 4 rfl]; rfl
            · rw [show us 7 = (.pointer (some ⟨b, off + k * 4, none⟩)) from hd 7 rfl]
              obtain ⟨⟨c0, c1, c2, c3⟩, _, _⟩ := id hx
              have H := Lib.hid hx; clear hx
              go_simp
              first | exact Below.refl _ _ | exact ⟨rfl, Below.refl _ _⟩ | exact ⟨by and_intros <;> rfl, Below.refl _ _⟩
            · rw [show us 4 = .bool true from hd 4 rfl]; rfl
            · go_simp
              first | exact Below.refl _ _ | exact ⟨rfl, Below.refl _ _⟩
            · rw [show us 4 = .bool true from hd 4 rfl]; rfl
            · go_simp
              first | exact Below.refl _ _ | exact ⟨rfl, Below.refl _ _⟩
            · rw [show us 4 = .bool true from hd 4 rfl]; rfl
            · rw [show us 9 = (.string s) from hd 9 rfl]; rw [show us 10 = (.int .i64 ((pl : Int) + (m : Int))) from hd 10 rfl]
              go_simp
              first | exact Below.refl _ _ | exact ⟨rfl, Below.refl _ _⟩
            · rw [show us 4 = .bool true from hd 4 rfl]; rfl
            · rw [show us 8 = (.agg #[.int .i64 kd, .string T, .int .u32 nm, .int .i64 pl]) from hd 8 rfl]; rw [show us 11 = (.int .u8 ((s[pl + m]'hend).toNat : Nat)) from hd 11 rfl]
              go_simp
              refine (Hc.out _).mono ?_
              rintro e w1 ⟨rfl, hb⟩
              exact ⟨_, rfl, rfl, hb⟩
          rintro us w3 ⟨_, hb3, tk3⟩ hF
          have h4 : us 4 = .bool true := hF 4 (by decide)
          have h12 : us 12 = .bool false := hF 12 (by decide)
          simp only [putAll, dstOf, List.getElem?_toArray, List.getElem?_cons_succ, List.getElem?_cons_zero, Option.bind_some, List.drop_succ_cons, List.drop_zero]
          rw [h4, h12]
          go_frame
          go_wp2_with fail
          go_roundw
          case rel => exact ⟨k + 1, by omega, by go_num, hb3, tk3⟩
          case measure => simp [Lib.intOf]; omega
        · have f5 : decide ((pl : Int) + (m : Int) < (s.size : Int)) = false := by simp; omega
          go_wp2_with fail
          go_quiet (fail)
          go_wp2_with fail
          refine ⟨⟨k + 1, by omega, by go_num, pw_drewN hb _, tk.below (pw_drewN (Below.refl _ _) _)⟩, ?_⟩
          simp [Lib.intOf]; omega
      · obtain rfl : k = ts.length := by omega
        have hd : decide ((ts.length : Int) < (ts.length : Int)) = false := by simp
        go_wp2_with fail
        go_ret
        exact ⟨rfl, hb⟩
end Go.Proofs.YtakbpbifgemcdaaDoor
