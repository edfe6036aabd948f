/- Walk: digest.take. -/
import Derived.Test.YtpodfmnnabepaaaDoorW1
namespace Go.Proofs.YtpodfmnnabepaaaDoor
open Go.RowKit
def xor4 (s g : Nat → UInt32) (n j : Nat) : UInt32 := if j < n then xorW (s j) (g j) else s j
def st0 (v : UInt32) (j : Nat) : UInt32 := if j = 0 then v else 0
def absorb (s : Nat → UInt32) (g : Nat → UInt32) : Nat → (Nat → UInt32)
  | 0 => s
  | k+1 => mix (xor4 (absorb s g k) (fun j => g (4*k+j)) 4)
abbrev st4 (f : Nat → UInt32) : Value := .agg #[.int .u32 (f 0).toNat, .int .u32 (f 1).toNat, .int .u32 (f 2).toNat, .int .u32 (f 3).toNat]
def lenOf (l : Value) : Nat := match l with | .slice _ n _ => n | _ => 0
/-- What is left of eight words behind k blocks. -/
def tailOf (b k : Nat) (l : Value) : Prop := ∃ A n C, l = .slice A n C ∧ n + 4 * k = 8 ∧ (k < 2 → A = some ⟨b, 4 * k, none⟩ ∧ n ≤ C ∧ C ≤ 9223372036854775807)
set_option maxRecDepth 100000 in
set_option maxHeartbeats 4000000 in
theorem take_any (v : UInt32) (b c : Nat) (g : Nat → UInt32) (w : World) (ht : Tn w) (hg : ∀ j, j < 8 → w.cell? ⟨b, j, none⟩ = some (.int .u32 (g j).toNat)) (hc : 8 ≤ c) (hc1 : c ≤ 9223372036854775807) :
    Calls Tryd.prog 75 #[.int .u32 v.toNat, .slice (some ⟨b, 0, none⟩) 8 c] w fun e w' => e = .returned (st4 (absorb (st0 v) g 2)) ∧ Below w.heap.size w w' := by
  have hbl : b < w.heap.size := World.block_lt_of_cell? w _ (hg 0 (by omega))
  go_enter Tryd.func75, Tryd.ntmps75
  go_wp2
  go_loopw [1] (fun l wr => ∃ k : Nat, k ≤ 2 ∧ tailOf b k l ∧ Arr wr (w.heap.size + 1) 8 (absorb (st0 v) g k) ∧ Arr wr w.heap.size 4 (fun _ => 0) ∧ Below w.heap.size w wr ∧ w.heap.size + 2 ≤ wr.heap.size) (fun l _ => lenOf l)
  case atStart =>
    refine ⟨0, by omega, ⟨_, 8, c, rfl, rfl, fun _ => ⟨rfl, hc, hc1⟩⟩, ?_, ?_, ?_, ?_⟩
    · exact (Arr.new' _ _ 8 (st0 v) 85 _ (by simp) rfl)
    · exact (Arr.new w 4 (fun _ => 0) 24 _ rfl).alloc (by simp) _
    · exact ((Below.refl _ _).alloc (Nat.le_refl _) _).alloc (by simp) _
    · simp
  case round =>
    obtain ⟨k, hk, ⟨A, n, C, rfl, hn, hA⟩, ha, hz, hb, hs⟩ := hrel
    by_cases hk2 : k < 2
    · obtain ⟨rfl, hC, hC1⟩ := hA hk2
      have hcell : ∀ j, j < 4 → wr.cell? ⟨b, 4 * k + j, none⟩ = some (.int .u32 (g (4 * k + j)).toNat) := fun j hj => (hb.cell (p := ⟨b, 4 * k + j, none⟩) hbl).trans (hg _ (by omega))
      generalize hs0 : absorb (st0 v) g k = s at *
      have Hs0 := Lib.hid hs0; clear hs0
      generalize ho : 4 * k = o at *
      have Hn := Lib.hid hn; clear hn
      have hn4 : 4 ≤ n := by have := Hn.out; omega
      have hn8 : n ≤ 8 := by have := Hn.out; omega
      have hol : o ≤ 4 := by omega
      have Ho := Lib.hid ho; clear ho
      have hd : decide (4 ≤ (n : Int)) = true := by simp; omega
      have hlt : ((4 : Int) ≤ (C : Int)) := by omega
      go_wp2
      obtain ⟨wo, rfl⟩ : ∃ wo : World, wo = wr := ⟨_, rfl⟩
      clear hA
      have Hcell := Lib.hid hcell; clear hcell
      go_loopw [6, 7, 16] (fun _ _ i wr => ∃ j : Nat, j ≤ 4 ∧ i = .int .i64 j ∧ Arr wr (w.heap.size + 1) 8 (xor4 s (fun j => g (o+j)) j) ∧ Below (w.heap.size + 1) wo wr ∧ wo.heap.size ≤ wr.heap.size) (fun _ _ i _ => 4 - (intOf i).toNat)
      case atStart => exact ⟨0, by omega, rfl, ha.congr (fun j _ => by simp [xor4]), Below.refl _ _, Nat.le_refl _⟩
      case round =>
        obtain ⟨j, hj, rfl, ha', hb', hs'⟩ := hrel
        by_cases hj4 : j < 4
        · have c0 := ha'.cell j (by omega)
          have f0 := ha'.free j (by omega)
          have c1 := (hb'.cell (p := ⟨b, o + j, none⟩) (by simp; omega)).trans (Hcell.out j hj4)
          have e1 := xorW_eq (s j) (g (o + j))
          have e0 : xor4 s (fun j => g (o+j)) j j = s j := by simp [xor4]
          rw [e0] at c0; clear e0
          go_wp2
          go_roundw
          case rel =>
            refine ⟨j + 1, by omega, by go_num, ?_, ?_, ?_⟩
            · refine (ha'.set j (by omega) (xorW (s j) (g (o + j)))).congr (fun i _ => ?_)
              unfold upd xor4
              by_cases e : i = j
              · subst e; rw [if_pos rfl, if_pos (by omega)]
              · rw [if_neg e]
                by_cases e' : i < j
                · rw [if_pos e', if_pos (by omega)]
                · rw [if_neg e', if_neg (by omega)]
            · exact hb'.setCell (by simp) _
            · simpa using hs'
          case measure => simp [intOf]; omega
        · obtain rfl : j = 4 := by omega
          have hc := fun j h => ha'.cell j h
          have hf := fun j h => ha'.free j h
          generalize hs1 : xor4 s (fun j => g (o+j)) 4 = s1 at *
          have Hs1 := Lib.hid hs1; clear hs1
          have hb3 : Below w.heap.size w wr := hb.trans (hb'.mono (by omega))
          have htq : Tn wr := ht.below hb3
          have hz1 : Arr wr w.heap.size 4 (fun _ => 0) := hz.below hb' (by omega)
          by_cases hCn : C = 4
          · subst hCn
            have en' : n = 4 := by omega
            go_wp2_with fail
            go_region_with (go_at_call 84; refine (mix_any s1 _ (by exact htq)).mono ?_; rintro e w1 ⟨rfl, hb1⟩; have ha1 := Arr.below (Arr.drew ha') hb1 (by simp only [World.drew]; omega); have hc1 := fun j h => ha1.cell j h; have hf1 := fun j h => ha1.free j h)
            all_goals
              dsimp only [List.getElem?_toArray, List.getElem?_cons_succ, List.getElem?_cons_zero, List.getElem_toArray, List.getElem_cons_succ, List.getElem_cons_zero]
              go_frame
              go_wp2
              have hb2 : Below w.heap.size w w1 := hb3.drew.trans (hb1.mono (by simp only [World.drew]; omega))
              have hs2 : wr.heap.size ≤ w1.heap.size := hb1.size
              have hz2 := Arr.below (Arr.drew hz1) hb1 (by simp only [World.drew]; omega)
              go_roundw
              case rel =>
                have en := Hn.out
                have eo := Ho.out
                refine ⟨k + 1, by omega, ⟨_, _, _, rfl, by omega, fun h => ?_⟩, ?_, ?_, ?_, ?_⟩
                · omega
                · have e : absorb (st0 v) g (k + 1) = mix s1 := by
                    show mix (xor4 (absorb (st0 v) g k) (fun j => g (4*k+j)) 4) = _
                    rw [Hs0.out, eo, Hs1.out]
                  rw [e]; exact ha1.fill8 (mix s1)
                · exact (((((((hz2.set_other _ _ (by simp)).set_other _ _ (by simp)).set_other _ _ (by simp)).set_other _ _ (by simp)).set_other _ _ (by simp)).set_other _ _ (by simp)).set_other _ _ (by simp)).set_other _ _ (by simp)
                · exact hb2.fill8 (by simp) _ _ _ _ _ _ _ _
                · simp; omega
              case measure => simp [lenOf]; omega
          · have hlt' : ¬ ((C : Int) = 4) := by omega
            go_wp2_with fail
            go_region_with (go_at_call 84; refine (mix_any s1 _ (by exact htq)).mono ?_; rintro e w1 ⟨rfl, hb1⟩; have ha1 := Arr.below (Arr.drew ha') hb1 (by simp only [World.drew]; omega); have hc1 := fun j h => ha1.cell j h; have hf1 := fun j h => ha1.free j h)
            all_goals
              dsimp only [List.getElem?_toArray, List.getElem?_cons_succ, List.getElem?_cons_zero, List.getElem_toArray, List.getElem_cons_succ, List.getElem_cons_zero]
              go_frame
              go_wp2
              have hb2 : Below w.heap.size w w1 := hb3.drew.trans (hb1.mono (by simp only [World.drew]; omega))
              have hs2 : wr.heap.size ≤ w1.heap.size := hb1.size
              have hz2 := Arr.below (Arr.drew hz1) hb1 (by simp only [World.drew]; omega)
              go_roundw
              case rel =>
                have en := Hn.out
                have eo := Ho.out
                refine ⟨k + 1, by omega, ⟨_, _, _, rfl, by omega, fun h => ?_⟩, ?_, ?_, ?_, ?_⟩
                · exact ⟨by rw [show 4 * (k + 1) = o + 4 from by omega], by omega, by omega⟩
                · have e : absorb (st0 v) g (k + 1) = mix s1 := by
                    show mix (xor4 (absorb (st0 v) g k) (fun j => g (4*k+j)) 4) = _
                    rw [Hs0.out, eo, Hs1.out]
                  rw [e]; exact ha1.fill8 (mix s1)
                · exact (((((((hz2.set_other _ _ (by simp)).set_other _ _ (by simp)).set_other _ _ (by simp)).set_other _ _ (by simp)).set_other _ _ (by simp)).set_other _ _ (by simp)).set_other _ _ (by simp)).set_other _ _ (by simp)
                · exact hb2.fill8 (by simp) _ _ _ _ _ _ _ _
                · simp; omega
              case measure => simp [lenOf]; omega
    · obtain rfl : k = 2 := by omega
      obtain rfl : n = 0 := by omega
      have hc := fun j h => ha.cell j h
      have hd := fun j h => hz.cell j h
      have hf := fun j h => hz.free j h
      clear hA
      have hat : ∀ (wx : World), (Instr.arrayAt 24 (Value.slice (some ⟨w.heap.size + 1,0,none⟩) 4 8)).run Tryd.prog wx = .ok (.pointer (some ⟨w.heap.size+1,0,none⟩)) wx := fun _ => by kernel_rfl
      generalize he : absorb (st0 v) g 2 = f at *
      have He := Lib.hid he; clear he
      go_wp2
      refine bodyPost_ret (v := st4 f) (by simp [results, Tryd.results75, go_sem, hd]) rfl ⟨by rw [He.out], ?_⟩
      exact hb.fill4 (by simp) _ _ _ _
end Go.Proofs.YtpodfmnnabepaaaDoor
