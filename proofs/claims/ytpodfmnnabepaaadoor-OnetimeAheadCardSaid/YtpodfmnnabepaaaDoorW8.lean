/- Walk: onetime.Sign. -/
import Derived.Test.YtpodfmnnabepaaaDoorW7
namespace Go.Proofs.YtpodfmnnabepaaaDoor
open Go.RowKit
open Ot (Dg)
/-- Digests as the values of cells. -/
def dcs (l : List Dg) : List Value := l.flatMap fun d => [.int .u32 d.a.toNat, .int .u32 d.b.toNat, .int .u32 d.c.toNat, .int .u32 d.d.toNat]
theorem dcs_snoc (l : List Dg) (d : Dg) : dcs (l ++ [d]) = dcs l ++ [.int .u32 d.a.toNat, .int .u32 d.b.toNat, .int .u32 d.c.toNat, .int .u32 d.d.toNat] := by simp [dcs]
theorem dcs_length (l : List Dg) : (dcs l).length = l.length * 4 := by
  induction l with
  | nil => rfl
  | cons d l ih => rw [show dcs (d :: l) = [.int .u32 d.a.toNat, .int .u32 d.b.toNat, .int .u32 d.c.toNat, .int .u32 d.d.toNat] ++ dcs l from rfl, List.length_append, ih]; simp; omega
theorem Tryd.info24 : (Tryd.prog.info? 24).map (fun i => (i.zero, i.size, i.bytes)) = some (some (dgv Ot.zeroD), 4, 16) := by kernel_rfl
/-- A row of numbers that the call has made, read. -/
theorem own_ints {w : World} {base n : Nat} {e : TypeId} {v : Value} {l : List Nat} (h : w.ownsRow base e 1 v n (ivs l)) (hn : 0 < n) :
    ∃ g cap, v = .slice (some ⟨g, 0, none⟩) n cap ∧ n ≤ cap ∧ cap ≤ 9223372036854775807 ∧ base ≤ g ∧ g < w.heap.size ∧ l.length = n ∧ ∀ j, j < n → w.cell? ⟨g, j, none⟩ = some (.int .i64 (l.getD j 0 : Nat)) := by
  have hc := h
  have hl : l.length = n := by have := h.1; simpa [ivs] using this
  rcases h.2 with ⟨rfl, h0⟩ | ⟨g, cap, cur, rfl, hb, hh, h1, h2, _⟩
  · omega
  · refine ⟨g, cap, rfl, h1, by simpa [maxLen] using h2, hb, (Array.getElem?_eq_some_iff.1 hh).1, hl, fun j hj => ?_⟩
    have := hc.cells (g := g) rfl j (.int .i64 (l.getD j 0 : Nat)) (by simp [ivs, List.getD_eq_getElem?_getD, List.getElem?_eq_getElem (show j < l.length by omega)])
    rwa [show (⟨g, 0, none⟩ : Addr).add j = ⟨g, j, none⟩ from by unfold Addr.add; split <;> simp_all] at this
theorem cell_dg_new (w : World) (d : Dg) (t : TypeId) : ∀ j u, [Value.int .u32 d.a.toNat, .int .u32 d.b.toNat, .int .u32 d.c.toNat, .int .u32 d.d.toNat][j]? = some u → (w.alloc (.cells #[.int .u32 d.a.toNat, .int .u32 d.b.toNat, .int .u32 d.c.toNat, .int .u32 d.d.toNat] t)).cell? ((⟨w.heap.size, 0, none⟩ : Addr).add j) = some u := by
  intro j u hu
  rw [show (⟨w.heap.size, 0, none⟩ : Addr).add j = ⟨w.heap.size, j, none⟩ from by unfold Addr.add; split <;> simp_all, World.cell?_alloc_new]
  simpa using hu
theorem dg_one (d : Dg) : ∀ u ∈ [Value.int .u32 d.a.toNat, .int .u32 d.b.toNat, .int .u32 d.c.toNat, .int .u32 d.d.toNat], u.oneCell' = true := by
  intro u hu
  simp only [List.mem_cons, List.not_mem_nil, or_false] at hu
  rcases hu with rfl | rfl | rfl | rfl <;> rfl
theorem take_snoc_d (l : List Dg) (k : Nat) (h : k < l.length) : l.take (k + 1) = l.take k ++ [l.getD k Ot.zeroD] := by
  rw [List.take_succ_eq_append_getElem h, List.getD_eq_getElem?_getD, List.getElem?_eq_getElem h]; rfl
def SignPost (w : World) (l : List Dg) (e : Ending) (w' : World) : Prop := ∃ v, e = .returned v ∧ Below w.heap.size w w' ∧ w'.ownsRow w.heap.size 24 4 v l.length (dcs l)
set_option maxRecDepth 100000 in
set_option maxHeartbeats 1000000 in
theorem sign_any (x m : Dg) (w : World) (ht : Tn w) : Calls Tryd.prog 24 #[dgv x, dgv m] w (SignPost w (Ot.sign pair x m)) := by
  obtain ⟨i0, hi, hz0, hz1, hz2⟩ := info_parts Tryd.info24
  go_enter Tryd.func24, Tryd.ntmps24
  go_wp2_with fail
  have hb0 : Below w.heap.size w ((w.alloc (.cells #[.int .u32 x.a.toNat, .int .u32 x.b.toNat, .int .u32 x.c.toNat, .int .u32 x.d.toNat] 24)).alloc (.cells #[.int .u32 m.a.toNat, .int .u32 m.b.toNat, .int .u32 m.c.toNat, .int .u32 m.d.toNat] 24)) := ((Below.refl _ _).alloc (Nat.le_refl _) _).alloc (by simp) _
  refine (steps_any m _).mono ?_
  rintro e w1 ⟨v, rfl, hb1, hown⟩
  have hx1 : Arr w1 w.heap.size 4 (fnOf x) := ((Arr.new w 4 (fnOf x) 24 _ rfl).alloc (by simp) _).below hb1 (by simp <;> omega)
  have hb2 := hb0.trans (hb1.mono (by simp <;> omega))
  obtain ⟨g, cap, rfl, hc1, hc2, hgb, hgl, _, hcell⟩ := own_ints hown (by rw [Ot.steps_length]; decide)
  rw [Ot.steps_length] at *
  have hs1 : w.heap.size + 2 ≤ w1.heap.size := by have := hb1.size; simp at this; omega
  simp at hgb
  clear hb0 hb1 hown
  go_wp2_with fail
  go_loopw [5, 11] (fun v i wr => ∃ k : Nat, k ≤ 35 ∧ i = .int .i64 k ∧ wr.ownsRow w1.heap.size 24 4 v k (dcs ((Ot.sign pair x m).take k)) ∧ Below w1.heap.size w1 wr) (fun _ i wr => 35 - (intOf i).toNat)
  case atStart => exact ⟨0, by omega, rfl, World.ownsRow_nil _ _ _ _, Below.refl _ _⟩
  case round =>
    obtain ⟨k, hk, rfl, hown, hb⟩ := hrel
    by_cases hlt : k < 35
    · have hd : decide ((k : Int) < 35) = true := by simp; omega
      have hck := (hb.cell (p := ⟨g, k, none⟩) hgl).trans (hcell k hlt)
      have hsg := Ot.sign_at pair x m k hlt
      have hst := Ot.steps_at_le m k
      have hts := take_snoc_d (Ot.sign pair x m) k (by rw [Ot.sign_length]; exact hlt)
      rw [hsg] at hts
      generalize (Ot.steps m).getD k 0 = n at *
      have Hts := Lib.hid hts; clear hts hsg
      have hx2 := hx1.below hb (by omega)
      have htr := ht.below (hb2.trans (hb.mono hb2.size))
      have Hcell := Lib.hid hcell; clear hcell
      obtain ⟨c0, c1, c2, c3⟩ := hx2.dg
      have hown0 := Lib.hid hown; clear hown
      go_wp2_with fail
      refine (beg_any x k (by omega) _ htr).mono ?_
      rintro e w2 ⟨rfl, hb3⟩
      generalize hy : Ot.beg pair x k = y at *
      have htr2 := htr.below hb3
      go_wp2_with fail
      refine (along_any y n (by omega) _ htr2).mono ?_
      rintro e w3 ⟨rfl, hb4⟩
      generalize hzz : Ot.walk pair y n = z at *
      have hb5 : Below wr.heap.size wr w3 := hb3.trans (hb4.mono hb3.size)
      have hown := hown0.out.kept (w' := w3) (row := none) ⟨hb5.os, hb5.tape, hb5.output, hb5.size, fun q hq _ => hb5.block q hq⟩ (by cases hv : Value.ownBlock _ <;> simp)
      have hb6 := hb.trans (hb5.mono hb.size)
      clear hy hzz c0 c1 c2 c3 hck hb3 hb4 htr htr2 hx2 hown0
      go_wp2_with (at_builtin; refine wpList_append_own _ rfl _ _ 33 rfl w1.heap.size 24 i0 (dgv Ot.zeroD) 4 16 Tryd.underlying33 hi hz0 hz1 hz2 rfl (by decide) _ _ _ rfl (hown.alloc _) ⟨w3.heap.size, 0, none⟩ 1 1 [.int .u32 z.a.toNat, .int .u32 z.b.toNat, .int .u32 z.c.toNat, .int .u32 z.d.toNat] rfl rfl ?c1 ?c2 ?c3 ?c4 ?c5 ?_)
      case c1 => exact cell_dg_new _ _ _
      case c2 => exact dg_one z
      case c3 => unfold maxLen; omega
      case c4 => omega
      case c5 => have := hb6.size; simp; omega
      intro v' w4 hown1 hg1 _
      have hb7 : Below w1.heap.size w1 w4 := (hb6.alloc hb6.size _).grown hg1 (by have := hb6.size; simp; omega) (fun q hq => (hown.lt q hq).1)
      clear hg1 hown hb5 hb6
      go_wp2
      go_roundw
      case rel =>
        refine ⟨k + 1, by omega, by go_num, ?_, hb7⟩
        rw [Hts.out, dcs_snoc]
        exact hown1
      case measure => simp [intOf]; omega
    · obtain rfl : k = 35 := by omega
      go_wp2
      go_ret
      have hl := Ot.sign_length pair x m
      rw [List.take_of_length_le (by omega)] at hown
      refine ⟨_, rfl, hb2.trans (hb.mono hb2.size), ?_⟩
      rw [hl]
      exact own_base_le hown hb2.size
end Go.Proofs.YtpodfmnnabepaaaDoor
