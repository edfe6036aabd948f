/- Walk: the reference's Mix. -/
import Derived.Test.YtpodfmnnabepaaaDoorW3
namespace Go.Proofs.YtpodfmnnabepaaaDoor
open Go.RowKit
open Ot (Dg)
theorem turns_any (w : World) : Calls Tryd.prog 85 #[] w fun e w' => e = .returned (.agg #[.int .i64 7, .int .i64 9, .int .i64 13, .int .i64 18]) ∧ Below w.heap.size w w' := by
  go_enter Tryd.func85, Tryd.ntmps85
  go_wp2
  exact bodyPost_ret (v := .agg #[.int .i64 7, .int .i64 9, .int .i64 13, .int .i64 18]) (by simp [results, Tryd.results85, go_sem]) rfl ⟨rfl, (Below.refl _ _).alloc (Nat.le_refl _) _⟩
/-- A block holds the table. -/
def Tab (w : World) (b : Nat) : Prop := ∀ j, j < 4 → w.cell? ⟨b, j, none⟩ = some (.int .i64 (tn j))
theorem Tab.below {w w' : World} {b B : Nat} (h : Tab w b) (hb : Below B w w') (hB : b < B) : Tab w' b := fun j hj => (hb.cell (p := ⟨b, j, none⟩) hB).trans (h j hj)
theorem Tab.set {w : World} {b : Nat} (h : Tab w b) (a : Addr) (v : Value) (hne : a.block ≠ b) : Tab (w.setCell a v) b := fun j hj => by
  rw [World.cell?_setCell_other _ _ _ _ (by intro e; exact hne (by rw [e]))]; exact h j hj
set_option maxRecDepth 100000 in
set_option maxHeartbeats 1000000 in
theorem rmix_any (f : Nat → UInt32) (w : World) :
    Calls Tryd.prog 76 #[st8 f] w fun e w' => e = .returned (st8 (mix f)) ∧ Below w.heap.size w w' := by
  go_enter Tryd.func76, Tryd.ntmps76
  go_wp2_with (go_at_call 85; refine (turns_any _).mono ?_; rintro e w1 ⟨rfl, hb1⟩)
  have ha0 : Arr w1 w.heap.size 8 f := ((Arr.new w 8 f 85 _ rfl).alloc (by simp) _).below hb1 (by simp <;> omega)
  have hz0 : Arr w1 (w.heap.size + 1) 8 (fun _ => 0) := (Arr.new' _ _ 8 (fun _ => 0) 85 _ (by simp) rfl).below hb1 (by simp)
  have hw0 : Below w.heap.size w w1 := (((Below.refl _ _).alloc (Nat.le_refl _) _).alloc (by simp) _).trans (hb1.mono (by simp <;> omega))
  have hs0 : w.heap.size + 2 ≤ w1.heap.size := by have := hb1.size; simp at this; omega
  clear hb1
  go_loopw [4] (fun i wr => ∃ k : Nat, k ≤ 8 ∧ i = .int .i64 k ∧ Arr wr w.heap.size 8 (mrounds f k) ∧ Arr wr (w.heap.size+1) 8 (fun _ => 0) ∧ Tab wr w1.heap.size ∧ Below w.heap.size w wr ∧ w1.heap.size + 1 ≤ wr.heap.size) (fun i wr => 8 - (intOf i).toNat)
  case atStart =>
    refine ⟨0, by omega, rfl, ha0.alloc (by omega) _, hz0.alloc (by omega) _, ?_, hw0.alloc (by omega) _, by simp⟩
    intro j hj
    rw [World.cell?_alloc_new]
    obtain rfl | rfl | rfl | rfl : j = 0 ∨ j = 1 ∨ j = 2 ∨ j = 3 := by omega
    all_goals rfl
  case round =>
    obtain ⟨k, hk, rfl, ha, hz, htb, hb, hs⟩ := hrel
    clear ha0 hz0 hw0
    generalize hg : mrounds f k = g at *
    have Hg := Lib.hid hg; clear hg
    by_cases hlt : k < 8
    · have hd : decide ((k : Int) < 8) = true := by simp; omega
      have hgo := gold_eq k
      have had := addW_eq (g 0) (gold k)
      have c0 := ha.cell 0 (by omega)
      have f0 := ha.free 0 (by omega)
      go_wp2
      simp only [hgo, had]
      clear hgo had
      go_loopw [5] (fun i wr' => ∃ j : Nat, j ≤ 4 ∧ i = .int .i64 j ∧ Arr wr' w.heap.size 8 (minner (upd g 0 (addW (g 0) (gold k))) j) ∧ Arr wr' (w.heap.size+1) 8 (fun _ => 0) ∧ Tab wr' w1.heap.size ∧ Below w.heap.size w wr' ∧ w1.heap.size + 1 ≤ wr'.heap.size) (fun i wr => 4 - (intOf i).toNat)
      case atStart =>
        refine ⟨0, by omega, rfl, ?_, ?_, ?_, ?_, ?_⟩
        · have := ha.set 0 (by omega) (addW (g 0) (gold k)); exact this
        · exact hz.set_other _ _ (by simp)
        · exact htb.set _ _ (by simp <;> omega)
        · exact hb.setCell (by simp) _
        · simpa using hs
      case round =>
        obtain ⟨j, hj, rfl, ha', hz', htb', hb', hs'⟩ := hrel
        clear ha c0 f0 hz htb
        generalize hg' : minner (upd g 0 (addW (g 0) (gold k))) j = g' at *
        have Hg' := Lib.hid hg'; clear hg'
        by_cases hlt4 : j < 4
        · have ct := htb' j hlt4
          have c0 := ha'.cell j (by omega)
          have c1 := ha'.cell (j+4) (by omega)
          have f0 := ha'.free j (by omega)
          have f1 := ha'.free (j+4) (by omega)
          have e1 := addW_eq (g' j) (g' (j+4))
          have e2 := xorW_eq (g' (j+4)) (addW (g' j) (g' (j+4)))
          have s5 : (j : Int) < 8 := by omega
          have hne : w1.heap.size ≠ w.heap.size := by omega
          go_wp2
          go_region
          go_wp2
          have s1 : IntKind.i64.wrap ((j : Int) + 4) = (j : Int) + 4 := IntWalk.i64_in _ (by omega)
          have s2 : (0 : Int) ≤ (j : Int) + 4 := by omega
          have s3 : ((j : Int) + 4).toNat = j + 4 := by omega
          have s4 : (j : Int) + 4 < 8 := by omega
          refine still_tail_drew 14 (by kernel_rfl) (by kernel_rfl) ?_
          simp only [List.take_succ_cons, List.take_zero, List.drop_succ_cons, List.drop_zero]
          iterate 13 still_step
          still_call ((rturn_any (xorW (g' (j+4)) (addW (g' j) (g' (j+4)))) (tn j) (tn_lt j) _).mono fun _ _ h => ⟨h.1, h.2.symm⟩)
          refine wpStill_nil ?_
          go_wp2
          go_roundw
          case rel =>
            refine ⟨j + 1, by omega, by go_num, ?_, ?_, ?_, ?_, ?_⟩
            · have h1 := ((ha'.set j (by omega) (addW (g' j) (g' (j+4)))).set (j+4) (by omega) (rot (xorW (g' (j+4)) (addW (g' j) (g' (j+4)))) (tn j))).drew.drew
              have e : minner (upd g 0 (addW (g 0) (gold k))) (j + 1) = upd (upd g' j (addW (g' j) (g' (j+4)))) (j+4) (rot (xorW (g' (j+4)) (addW (g' j) (g' (j+4)))) (tn j)) := by
                rw [← Hg'.out]; rfl
              rw [e]; exact h1
            · exact ((hz'.set_other _ _ (by simp)).set_other _ _ (by simp)).drew.drew
            · exact (htb'.set _ _ (by simp; omega)).set _ _ (by simp; omega)
            · exact ((hb'.setCell (by simp) _).setCell (by simp) _).drew.drew
            · simpa using hs'
          case measure => simp [intOf]; omega
        · obtain rfl : j = 4 := by omega
          go_wp2
          obtain ⟨wq, rfl⟩ : ∃ wq : World, wq = wr := ⟨_, rfl⟩
          go_loopw [7] (fun i wr' => ∃ j : Nat, j ≤ 8 ∧ i = .int .i64 j ∧ Arr wr' wq.heap.size 8 (fun i => if i < j then g' ((i+3)%8) else 0) ∧ Arr wr' w.heap.size 8 g' ∧ Arr wr' (w.heap.size+1) 8 (fun _ => 0) ∧ Tab wr' w1.heap.size ∧ Below w.heap.size w wr' ∧ wq.heap.size + 1 ≤ wr'.heap.size) (fun i wr => 8 - (intOf i).toNat)
          case atStart =>
            refine ⟨0, by omega, rfl, ?_, ?_, ?_, ?_, ?_, ?_⟩
            · exact (Arr.new wq 8 (fun _ => 0) 85 _ rfl).congr (fun j _ => by simp only [Nat.not_lt_zero, if_false])
            · exact ha'.alloc (by omega) _
            · exact hz'.alloc (by omega) _
            · exact htb'.below ((Below.refl _ _).alloc (Nat.le_refl _) _) (by omega)
            · exact hb'.alloc (by omega) _
            · simp
          case round =>
            obtain ⟨j, hj8, rfl, h1, h2, h3, ht4, h4, h5⟩ := hrel
            clear ha' hz' hb' htb'
            by_cases hlt8 : j < 8
            · have c0 := h2.cell ((j+3)%8) (by omega)
              have f0 := h1.free j (by omega)
              have c1 := h1.cell j (by omega)
              rw [if_neg (Nat.lt_irrefl _)] at c1
              have hne : wq.heap.size ≠ w.heap.size := by omega
              go_wp2
              go_roundw
              case rel =>
                refine ⟨j + 1, by omega, by go_num, ?_, ?_, ?_, ?_, ?_, ?_⟩
                · refine (h1.set j (by omega) (g' ((j+3)%8))).congr (fun i _ => ?_)
                  unfold upd
                  by_cases e : i = j
                  · subst e; rw [if_pos rfl, if_pos (by omega)]
                  · rw [if_neg e]
                    show (if i < j then g' ((i + 3) % 8) else 0) = _
                    by_cases e' : i < j
                    · rw [if_pos e', if_pos (by omega)]
                    · rw [if_neg e', if_neg (by omega)]
                · exact (h2.set_other _ _ (by simp; omega))
                · exact (h3.set_other _ _ (by simp; omega))
                · exact ht4.set _ _ (by simp; omega)
                · exact h4.setCell (by simp; omega) _
                · simpa using h5
              case measure => simp [intOf]; omega
            · obtain rfl : j = 8 := by omega
              have h1' : Arr wr wq.heap.size 8 (mturn g') := h1.congr (fun i hi => by rw [if_pos hi]; rfl)
              generalize hm : mturn g' = g2 at *
              have Hm := Lib.hid hm; clear hm
              have hc := fun j h => h1'.cell j h
              have hd := fun j h => h2.cell j h
              have hf := fun j h => h2.free j h
              have hne : wq.heap.size ≠ w.heap.size := by omega
              go_wp2
              go_roundw
              case rel =>
                refine ⟨k + 1, by omega, by go_num, ?_, ?_, ?_, ?_, ?_⟩
                · have e : mrounds f (k + 1) = g2 := by
                    show mturn (minner (upd (mrounds f k) 0 (addW (mrounds f k 0) (gold k))) 4) = _
                    rw [Hg.out, Hg'.out, Hm.out]
                  rw [e]; exact h2.fill8 g2
                · exact (((((((h3.set_other _ _ (by simp)).set_other _ _ (by simp)).set_other _ _ (by simp)).set_other _ _ (by simp)).set_other _ _ (by simp)).set_other _ _ (by simp)).set_other _ _ (by simp)).set_other _ _ (by simp)
                · exact (((((((ht4.set _ _ (by simp; omega)).set _ _ (by simp; omega)).set _ _ (by simp; omega)).set _ _ (by simp; omega)).set _ _ (by simp; omega)).set _ _ (by simp; omega)).set _ _ (by simp; omega)).set _ _ (by simp; omega)
                · exact h4.fill8 (Nat.le_refl _) _ _ _ _ _ _ _ _
                · simp; omega
              case measure => simp [intOf]; omega
    · obtain rfl : k = 8 := by omega
      have hc := fun j h => ha.cell j h
      have hd := fun j h => hz.cell j h
      have hf := fun j h => hz.free j h
      go_wp2
      refine bodyPost_ret (v := st8 g) (by simp [results, Tryd.results76, go_sem, hd]) rfl ⟨by rw [← Hg.out]; rfl, ?_⟩
      exact hb.fill8 (by omega) _ _ _ _ _ _ _ _
end Go.Proofs.YtpodfmnnabepaaaDoor
