/- Walks: bits.RotateLeft32, word.Turn, digest.Mix. -/
import Derived.Test.YtpodfmnnabepaaaDoorV
namespace Go.Proofs.YtpodfmnnabepaaaDoor
open Go.RowKit
theorem rotl_any (x : UInt32) (k : Nat) (hk1 : k < 32) (w : World) :
    Calls Tryd.prog 92 #[.int .u32 x.toNat, .int .i64 k] w fun e w' => e = .returned (.int .u32 (rot x k).toNat) ∧ w = w' := by
  have hb : bits BinOp.and IntKind.u64 k 31 = k := by
    have := bits_mask .u64 64 (Nat.le_refl _) (fun n h0 h1 => by rw [IntKind.wrap_u64]; omega) 5 (by decide) (k : Int) (by omega) (by omega)
    rw [show ((2 : Int) ^ 5 - 1) = 31 from rfl] at this
    rw [this]; omega
  have hx := x.toNat_lt
  have h1 : ((x.toNat : Int)) < 4294967296 := by omega
  have hr := Lib.hid (rot_eq x k hk1)
  go_enter Tryd.func92, Tryd.ntmps92
  go_wp2
  go_ret
  refine ⟨?_, rfl⟩
  rw [← hr.out]
  simp
theorem turn_any (x : UInt32) (k : Nat) (hk1 : k < 32) (w : World) :
    Calls Tryd.prog 91 #[.int .u32 x.toNat, .int .i64 k] w fun e w' => e = .returned (.int .u32 (rot x k).toNat) ∧ w = w' := by
  have hm : (k : Int) % 32 = k := by omega
  go_enter Tryd.func91, Tryd.ntmps91
  go_wp2_with (go_at_call 92; refine (rotl_any x k hk1 _).mono ?_; rintro e w' ⟨rfl, rfl⟩)
  go_ret
  exact ⟨rfl, rfl⟩
def tn (i : Nat) : Nat := match i with | 0 => 7 | 1 => 9 | 2 => 13 | _ => 18
theorem tn_lt (i : Nat) : tn i < 32 := by unfold tn; split <;> decide
theorem tn_at (j : Nat) (hj : j < 4) : ∀ w, (Instr.index 106 (.agg #[.int .i64 7, .int .i64 9, .int .i64 13, .int .i64 18]) (.int .i64 j)).run Tryd.prog w = .ok (.int .i64 (tn j)) w := by
  intro w
  obtain rfl | rfl | rfl | rfl : j = 0 ∨ j = 1 ∨ j = 2 ∨ j = 3 := by omega
  all_goals kernel_rfl
def gold (k : Nat) : UInt32 := UInt32.ofNat (2654435769 * (k + 1))
theorem gold_eq (k : Nat) : 2654435769 * ((k : Int) + 1) % 4294967296 = ((gold k).toNat : Int) := by
  unfold gold; rw [UInt32.toNat_ofNat']; omega
def mstep (g : Nat → UInt32) (j : Nat) : Nat → UInt32 := upd (upd g j (addW (g j) (g (j+4)))) (j+4) (rot (xorW (g (j+4)) (addW (g j) (g (j+4)))) (tn j))
def minner (g : Nat → UInt32) : Nat → (Nat → UInt32)
  | 0 => g
  | j+1 => mstep (minner g j) j
def mturn (h : Nat → UInt32) (j : Nat) : UInt32 := h ((j+3)%8)
def mround (g : Nat → UInt32) (k : Nat) : Nat → UInt32 := mturn (minner (upd g 0 (addW (g 0) (gold k))) 4)
def mrounds (g : Nat → UInt32) : Nat → (Nat → UInt32)
  | 0 => g
  | k+1 => mround (mrounds g k) k
def mix (g : Nat → UInt32) : Nat → UInt32 := mrounds g 8
abbrev st8 (f : Nat → UInt32) : Value := .agg #[.int .u32 (f 0).toNat, .int .u32 (f 1).toNat, .int .u32 (f 2).toNat, .int .u32 (f 3).toNat, .int .u32 (f 4).toNat, .int .u32 (f 5).toNat, .int .u32 (f 6).toNat, .int .u32 (f 7).toNat]
set_option maxRecDepth 100000 in
theorem mix_any (f : Nat → UInt32) (w : World) (ht : Tn w) :
    Calls Tryd.prog 84 #[st8 f] w fun e w' => e = .returned (st8 (mix f)) ∧ Below w.heap.size w w' := by
  have hpos := ht.pos
  go_enter Tryd.func84, Tryd.ntmps84
  go_wp2
  go_loopw [3, 8] (fun _ i wr => ∃ k : Nat, k ≤ 8 ∧ i = .int .u32 k ∧ Arr wr w.heap.size 8 (mrounds f k) ∧ Arr wr (w.heap.size+1) 8 (fun _ => 0) ∧ Below w.heap.size w wr ∧ w.heap.size + 2 ≤ wr.heap.size) (fun u i wr => 8 - (intOf i).toNat)
  case atStart =>
    refine ⟨0, by omega, rfl, ?_, ?_, (((Below.refl _ _).alloc (Nat.le_refl _) _).alloc (by simp) _), by simp⟩
    · exact (Arr.new w 8 f 85 _ rfl).alloc (by simp) _
    · exact Arr.new' _ _ 8 (fun _ => 0) 85 _ (by simp) rfl
  case round =>
    obtain ⟨k, hk, rfl, ha, hz, hb, hs⟩ := hrel
    generalize hg : mrounds f k = g at *
    have Hg := Lib.hid hg; clear hg
    have htr := ht.below hb
    obtain ⟨⟨t0, t1⟩, t2, t3⟩ := htr
    by_cases hlt : k < 8
    · have hd : decide ((k : Int) < 8) = true := by simp; omega
      have hgo := gold_eq k
      have had := addW_eq (g 0) (gold k)
      have c0 := ha.cell 0 (by omega)
      have f0 := ha.free 0 (by omega)
      go_wp2
      simp only [hgo, had]
      clear hgo had
      go_loopw [4, 5, 19] (fun _ _ i wr' => ∃ j : Nat, j ≤ 4 ∧ i = .int .i64 j ∧ Arr wr' w.heap.size 8 (minner (upd g 0 (addW (g 0) (gold k))) j) ∧ Arr wr' (w.heap.size+1) 8 (fun _ => 0) ∧ Below w.heap.size w wr' ∧ w.heap.size + 2 ≤ wr'.heap.size) (fun _ _ i wr => 4 - (intOf i).toNat)
      case atStart =>
        refine ⟨0, by omega, rfl, ?_, ?_, ?_, ?_⟩
        · have := ha.set 0 (by omega) (addW (g 0) (gold k)); exact this
        · exact hz.set_other _ _ (by simp)
        · exact hb.setCell (by simp) _
        · simpa using hs
      case round =>
        obtain ⟨j, hj, rfl, ha', hz', hb', hs'⟩ := hrel
        clear t0 t1 t2 t3 ha c0 f0 hz
        generalize hg' : minner (upd g 0 (addW (g 0) (gold k))) j = g' at *
        have Hg' := Lib.hid hg'; clear hg'
        by_cases hlt4 : j < 4
        · have hix := tn_at j hlt4
          have c0 := ha'.cell j (by omega)
          have c1 := ha'.cell (j+4) (by omega)
          have f0 := ha'.free j (by omega)
          have f1 := ha'.free (j+4) (by omega)
          have e1 := addW_eq (g' j) (g' (j+4))
          have e2 := xorW_eq (g' (j+4)) (addW (g' j) (g' (j+4)))
          go_wp2
          go_region
          go_wp2
          have s1 : IntKind.i64.wrap ((j : Int) + 4) = (j : Int) + 4 := IntWalk.i64_in _ (by omega)
          have s2 : (0 : Int) ≤ (j : Int) + 4 := by omega
          have s3 : ((j : Int) + 4).toNat = j + 4 := by omega
          have s4 : (j : Int) + 4 < 8 := by omega
          have s5 : (j : Int) < 8 := by omega
          refine still_tail_drew 12 (by kernel_rfl) (by kernel_rfl) ?_
          simp only [List.take_succ_cons, List.take_zero, List.drop_succ_cons, List.drop_zero]
          iterate 11 still_step
          still_call ((turn_any (xorW (g' (j+4)) (addW (g' j) (g' (j+4)))) (tn j) (tn_lt j) _).mono fun _ _ h => ⟨h.1, h.2.symm⟩)
          refine wpStill_nil ?_
          go_wp2
          go_roundw
          case rel =>
            refine ⟨j + 1, by omega, by go_num, ?_, ?_, ?_, ?_⟩
            · have h1 := ((ha'.set j (by omega) (addW (g' j) (g' (j+4)))).set (j+4) (by omega) (rot (xorW (g' (j+4)) (addW (g' j) (g' (j+4)))) (tn j))).drew.drew
              have e : minner (upd g 0 (addW (g 0) (gold k))) (j + 1) = upd (upd g' j (addW (g' j) (g' (j+4)))) (j+4) (rot (xorW (g' (j+4)) (addW (g' j) (g' (j+4)))) (tn j)) := by
                rw [← Hg'.out]; rfl
              rw [e]; exact h1
            · exact ((hz'.set_other _ _ (by simp)).set_other _ _ (by simp)).drew.drew
            · exact ((hb'.setCell (by simp) _).setCell (by simp) _).drew.drew
            · simpa using hs'
          case measure => simp [intOf]; omega
        · obtain rfl : j = 4 := by omega
          have hd4 : decide (((4:Nat) : Int) < 4) = false := by decide
          have c0 := ha'.cell 0 (by omega)
          have c1 := ha'.cell 1 (by omega)
          have c2 := ha'.cell 2 (by omega)
          have c3 := ha'.cell 3 (by omega)
          have c4 := ha'.cell 4 (by omega)
          have c5 := ha'.cell 5 (by omega)
          have c6 := ha'.cell 6 (by omega)
          have c7 := ha'.cell 7 (by omega)
          go_wp2
          clear c0 c1 c2 c3 c4 c5 c6 c7
          obtain ⟨wq, rfl⟩ : ∃ wq : World, wq = wr := ⟨_, rfl⟩
          go_loopw [7, 47] (fun _ i wr' => ∃ j : Nat, j ≤ 8 ∧ i = .int .i64 j ∧ Arr wr' w.heap.size 8 (fun i => if i < j then g' ((i+3)%8) else g' i) ∧ Arr wr' wq.heap.size 8 g' ∧ Arr wr' (w.heap.size+1) 8 (fun _ => 0) ∧ Below w.heap.size w wr' ∧ wq.heap.size + 1 ≤ wr'.heap.size) (fun _ i wr => 8 - (intOf i).toNat)
          case atStart =>
            refine ⟨0, by omega, rfl, ?_, ?_, ?_, ?_, ?_⟩
            · exact (ha'.alloc (by omega) _).congr (fun j _ => by simp only [Nat.not_lt_zero, if_false])
            · exact Arr.new wq 8 g' 85 _ rfl
            · exact hz'.alloc (by omega) _
            · exact hb'.alloc (by omega) _
            · simp
          case round =>
            obtain ⟨j, hj8, rfl, h1, h2, h3, h4, h5⟩ := hrel
            clear ha' hz' hb'
            by_cases hlt8 : j < 8
            · have c0 := h2.cell ((j+3)%8) (by omega)
              have f0 := h1.free j (by omega)
              have c1 := h1.cell j (by omega)
              rw [if_neg (Nat.lt_irrefl _)] at c1
              have hne : wq.heap.size ≠ w.heap.size := by omega
              go_wp2
              go_roundw
              case rel =>
                refine ⟨j + 1, by omega, by go_num, ?_, ?_, ?_, ?_, ?_⟩
                · refine (h1.set j (by omega) (g' ((j+3)%8))).congr (fun i _ => ?_)
                  unfold upd
                  by_cases e : i = j
                  · subst e; rw [if_pos rfl, if_pos (by omega)]
                  · rw [if_neg e]
                    show (if i < j then g' ((i + 3) % 8) else g' i) = _
                    by_cases e' : i < j
                    · rw [if_pos e', if_pos (by omega)]
                    · rw [if_neg e', if_neg (by omega)]
                · exact (h2.set_other _ _ (by simp; omega))
                · exact (h3.set_other _ _ (by simp))
                · exact h4.setCell (by simp) _
                · simpa using h5
              case measure => simp [intOf]; omega
            · obtain rfl : j = 8 := by omega
              go_wp2
              go_roundw
              case rel =>
                refine ⟨k + 1, by omega, by go_num, ?_, h3, h4, by omega⟩
                refine h1.congr (fun i hi => ?_)
                rw [if_pos hi]
                show g' ((i + 3) % 8) = mturn (minner (upd (mrounds f k) 0 (addW (mrounds f k 0) (gold k))) 4) i
                rw [Hg.out, Hg'.out]; rfl
              case measure => simp [intOf]; omega
    · obtain rfl : k = 8 := by omega
      have hc := fun j h => ha.cell j h
      have hd := fun j h => hz.cell j h
      have hf := fun j h => hz.free j h
      go_wp2
      refine bodyPost_ret (v := st8 g) (by simp [results, Tryd.results84, go_sem, hd]) rfl ⟨by rw [← Hg.out]; rfl, ?_⟩
      exact (((((((hb.setCell (by simp) _).setCell (by simp) _).setCell (by simp) _).setCell (by simp) _).setCell (by simp) _).setCell (by simp) _).setCell (by simp) _).setCell (by simp) _
end Go.Proofs.YtpodfmnnabepaaaDoor
