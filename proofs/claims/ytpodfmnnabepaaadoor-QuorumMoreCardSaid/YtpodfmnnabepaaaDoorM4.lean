/- Texts of this claim, merged: Q9 Q10 Q11 Q12 Q13 Qp Q14 Q15 Q16 Q17 Q18. Conditions: those written in each. -/
import Derived.Test.YtpodfmnnabepaaaDoorM3
namespace Go.Proofs.YtpodfmnnabepaaaDoor
open Go.RowKit
open Ot (Dg)
/-- Nothing but the block sb is changed. -/
structure But (sb : Nat) (w w' : World) : Prop where
  os : w'.os = w.os
  tape : w'.tape = w.tape
  output : w'.output = w.output
  size : w.heap.size ≤ w'.heap.size
  block : ∀ k, k < w.heap.size → k ≠ sb → w'.heap[k]? = w.heap[k]?
theorem But.refl (sb : Nat) (w : World) : But sb w w := ⟨rfl, rfl, rfl, Nat.le_refl _, fun _ _ _ => rfl⟩
theorem But.trans {sb : Nat} {a b c : World} (h : But sb a b) (k : But sb b c) : But sb a c :=
  ⟨k.os.trans h.os, k.tape.trans h.tape, k.output.trans h.output, Nat.le_trans h.size k.size, fun i hi hn => (k.block i (Nat.lt_of_lt_of_le hi h.size) hn).trans (h.block i hi hn)⟩
theorem But.of {sb : Nat} {w w' : World} (h : Below w.heap.size w w') : But sb w w' := ⟨h.os, h.tape, h.output, h.size, fun k hk _ => h.block k hk⟩
theorem But.below {sb B : Nat} {w w' : World} (h : But sb w w') (hB : B ≤ sb) (hB' : B ≤ w.heap.size) : Below B w w' :=
  ⟨h.os, h.tape, h.output, h.size, fun k hk => h.block k (by omega) (by omega)⟩
theorem But.cell {sb : Nat} {w w' : World} (h : But sb w w') {p : Addr} (hp : p.block < w.heap.size) (hn : p.block ≠ sb) : w'.cell? p = w.cell? p := by
  unfold World.cell?; rw [h.block _ hp hn]
theorem But.frozen {sb : Nat} {w w' : World} (h : But sb w w') {p : Addr} (hp : p.block < w.heap.size) (hn : p.block ≠ sb) : w'.frozen? p = w.frozen? p := by
  unfold World.frozen?; rw [h.block _ hp hn]
theorem Arr.but {sb : Nat} {w w' : World} {b n : Nat} {f : Nat → UInt32} (h : Arr w b n f) (hb : But sb w w') (hp : b < w.heap.size) (hn : b ≠ sb) : Arr w' b n f :=
  fun j hj => ⟨(hb.cell (p := ⟨b, j, none⟩) hp hn).trans (h j hj).1, (hb.frozen (p := ⟨b, j, none⟩) hp hn).trans (h j hj).2⟩
theorem DgAt.but {sb : Nat} {w w' : World} {b o : Nat} {d : Dg} (h : DgAt w b o d) (hb : But sb w w') (hn : b ≠ sb) : DgAt w' b o d :=
  ⟨(hb.cell (p := ⟨b, o, none⟩) h.lt hn).trans h.1, (hb.cell (p := ⟨b, o + 1, none⟩) h.lt hn).trans h.2.1, (hb.cell (p := ⟨b, o + 2, none⟩) h.lt hn).trans h.2.2.1, (hb.cell (p := ⟨b, o + 3, none⟩) h.lt hn).trans h.2.2.2⟩
/-- The stack's block. -/
def Stk (w : World) (sb : Nat) (v : Value) : Prop := w.cell? ⟨sb, 0, none⟩ = some v ∧ w.cell? ⟨sb, 1, none⟩ = some (.bool true) ∧ w.frozen? ⟨sb, 0, none⟩ = false ∧ w.frozen? ⟨sb, 1, none⟩ = false
theorem Stk.lt {w : World} {sb : Nat} {v : Value} (h : Stk w sb v) : sb < w.heap.size := World.block_lt_of_cell? w _ h.1
theorem Stk.below {w w' : World} {sb B : Nat} {v : Value} (h : Stk w sb v) (hb : Below B w w') (hB : sb < B) : Stk w' sb v :=
  ⟨(hb.cell (p := ⟨sb, 0, none⟩) hB).trans h.1, (hb.cell (p := ⟨sb, 1, none⟩) hB).trans h.2.1, (hb.frozen (p := ⟨sb, 0, none⟩) hB).trans h.2.2.1, (hb.frozen (p := ⟨sb, 1, none⟩) hB).trans h.2.2.2⟩
theorem Stk.keep {w w' : World} {sb : Nat} {v : Value} (h : Stk w sb v) (hb : Below w.heap.size w w') : Stk w' sb v := h.below hb h.lt
theorem But.setCell {sb : Nat} {w W : World} (h : But sb w W) {p : Addr} (hp : p.block = sb ∨ w.heap.size ≤ p.block) (v : Value) : But sb w (W.setCell p v) :=
  ⟨h.os, h.tape, h.output, by simpa [World.setCell] using h.size, fun k hk hn => (Below.heap_setCell _ _ _ _ (by omega)).trans (h.block k hk hn)⟩
theorem But.drew {sb : Nat} {w W : World} (h : But sb w W) : But sb w W.drew := ⟨h.os, h.tape, h.output, h.size, h.block⟩
theorem Stk.drew {sb : Nat} {w : World} {v : Value} (h : Stk w sb v) : Stk w.drew sb v := h
theorem But.alloc {sb : Nat} {w W : World} (h : But sb w W) (o : Obj) : But sb w (W.alloc o) := h.trans (But.of ((Below.refl _ _).alloc (Nat.le_refl _) _))
theorem Stk.set {w : World} {sb : Nat} {v : Value} (h : Stk w sb v) (u : Value) : Stk (w.setCell ⟨sb, 0, none⟩ u) sb u := by
  obtain ⟨k0, k1, f0, f1⟩ := h
  refine ⟨World.cell?_setCell_same _ _ _ k0, ?_, ?_, ?_⟩
  · rw [World.cell?_setCell_other _ _ _ _ (by simp)]; exact k1
  · rw [World.frozen?_setCell]; exact f0
  · rw [World.frozen?_setCell]; exact f1
/-- The way up: by the last of the path first. -/
noncomputable def upT (l : Nat → Dg) : Nat → Nat → Dg → Dg
  | 0, _, leaf => leaf
  | h + 1, i, leaf => if i < 2 ^ h then pair (upT l h i leaf) (l h) else pair (l h) (upT l h (i - 2 ^ h) leaf)
set_option maxHeartbeats 4000000 in
theorem half_any (h : Nat) (hh : h < 4) (w : World) : Calls Tryd.prog 87 #[.int .i64 (2 ^ (h + 1) : Nat)] w fun e w' => e = .returned (.int .i64 (2 ^ h : Nat)) ∧ w' = w := by
  go_enter Tryd.func87, Tryd.ntmps87
  go_wp2_with fail
  go_loopw [3] (fun i wr => ∃ j : Nat, j ≤ h ∧ i = .int .i64 (2 ^ j : Nat) ∧ wr = w) (fun i wr => 16 - (intOf i).toNat)
  case atStart => exact ⟨0, by omega, rfl, rfl⟩
  case round =>
    obtain ⟨j, hj, rfl, rfl⟩ := hrel
    obtain rfl | rfl | rfl | rfl : h = 0 ∨ h = 1 ∨ h = 2 ∨ h = 3 := by omega
    all_goals obtain rfl | rfl | rfl | rfl : j = 0 ∨ j = 1 ∨ j = 2 ∨ j = 3 := by omega
    all_goals first | (exfalso; omega) | skip
    all_goals simp only [Nat.reducePow, Nat.reduceAdd, Int.cast_ofNat_Int]
    all_goals go_wp2_with fail
    all_goals first | exact ⟨⟨1, by omega, rfl, trivial⟩, by decide⟩ | exact ⟨⟨2, by omega, rfl, trivial⟩, by decide⟩ | exact ⟨⟨3, by omega, rfl, trivial⟩, by decide⟩ | exact bodyPost_ret (v := .int .i64 1) (by simp [results, Tryd.results87, go_sem]) rfl ⟨rfl, rfl⟩ | exact bodyPost_ret (v := .int .i64 2) (by simp [results, Tryd.results87, go_sem]) rfl ⟨rfl, rfl⟩ | exact bodyPost_ret (v := .int .i64 4) (by simp [results, Tryd.results87, go_sem]) rfl ⟨rfl, rfl⟩ | exact bodyPost_ret (v := .int .i64 8) (by simp [results, Tryd.results87, go_sem]) rfl ⟨rfl, rfl⟩
set_option maxRecDepth 100000 in
set_option maxHeartbeats 4000000 in
theorem pop_any (sb b off h c : Nat) (d : Dg) (w : World) (hh : h < c) (hc : c ≤ 9223372036854775807) (hst : Stk w sb (.slice (some ⟨b, off, none⟩) (h + 1) c)) (hd : DgAt w b (off + h * 4) d) :
    Calls Tryd.prog 88 #[.pointer (some ⟨sb, 0, none⟩)] w fun e w' => e = .returned (dgv d) ∧ But sb w w' ∧ Stk w' sb (.slice (some ⟨b, off, none⟩) h c) := by
  obtain ⟨k0, k1, f0, f1⟩ := hst
  obtain ⟨d0, d1, d2, d3⟩ := hd
  have hsl : sb < w.heap.size := World.block_lt_of_cell? w _ k0
  have hbl : b < w.heap.size := World.block_lt_of_cell? w _ d0
  have hsn : sb ≠ w.heap.size := by omega
  have hbn : b ≠ w.heap.size := by omega
  have t0 : ((h : Int) + 1 == 0) = false := by simp; omega
  have t1 : IntKind.i64.wrap (h : Int) = (h : Int) := IntWalk.i64_in _ (by omega)
  have t2 : (0 : Int) ≤ (h : Int) := by omega
  have t3 : (h : Int) < (h : Int) + 1 := by omega
  have t4 : (h : Int) ≤ (c : Int) := by omega
  go_enter Tryd.func88, Tryd.ntmps88
  go_upto_region 4 with fail
  have hr0 := Arr.new w 4 (fnOf Ot.zeroD) 24 #[.int .u32 0, .int .u32 0, .int .u32 0, .int .u32 0] rfl
  have hba : Below w.heap.size w (w.alloc (.cells #[.int .u32 0, .int .u32 0, .int .u32 0, .int .u32 0] 24)) := (Below.refl _ _).alloc (Nat.le_refl _) _
  have hst0 : Stk w sb (.slice (some ⟨b, off, none⟩) (h + 1) c) := ⟨k0, k1, f0, f1⟩
  have hd0 : DgAt w b (off + h * 4) d := ⟨d0, d1, d2, d3⟩
  refine wp_region_inv (fun wx => Stk wx sb (.slice (some ⟨b, off, none⟩) (h + 1) c) ∧ DgAt wx b (off + h * 4) d ∧ Arr wx w.heap.size 4 (fnOf Ot.zeroD) ∧ Below w.heap.size w wx ∧ w.heap.size + 1 ≤ wx.heap.size) (fun j v w' => match j with | 0 => v = (.pointer (some ⟨sb, 0, none⟩)) | 1 => v = (.pointer (some ⟨sb, 0, none⟩)) | 2 => v = (.pointer (some ⟨sb, 0, none⟩)) | 3 => v = (.slice (some ⟨b, off, none⟩) (h + 1) c) | 4 => v = (.pointer (some ⟨sb, 0, none⟩)) | 5 => v = (.pointer (some ⟨sb, 0, none⟩)) | 6 => v = (.pointer (some ⟨sb, 0, none⟩)) | 7 => v = (.slice (some ⟨b, off, none⟩) (h + 1) c) | 8 => v = (.int .i64 ((h : Int) + 1)) | 9 => v = (.int .i64 (h : Int)) | 10 => v = (.pointer (some ⟨b, off + h * 4, none⟩)) | 11 => v = dgv d | 12 => ∃ P, v = .pointer (some ⟨P, 0, none⟩) ∧ w.heap.size + 1 ≤ P ∧ Arr w' P 4 (fnOf Ot.zeroD) | _ => True) 13 (by kernel_rfl) (by kernel_rfl) ⟨show Stk (w.alloc (.cells #[.int .u32 0, .int .u32 0, .int .u32 0, .int .u32 0] 24)) sb _ from hst0.keep hba, show DgAt (w.alloc (.cells #[.int .u32 0, .int .u32 0, .int .u32 0, .int .u32 0] 24)) b _ d from hd0.below hba hbl, hr0, hba.drew, by simp⟩ (fun _ _ h hb => ⟨h.1.keep hb, h.2.1.below hb h.2.1.lt, h.2.2.1.keep hb (by decide), h.2.2.2.1.trans (hb.mono h.2.2.2.1.size), Nat.le_trans h.2.2.2.2 hb.size⟩) ?_ ?_ ?_
  · rintro (_|_|_|_|_|_|_|_|_|_|_|_|_|j) v w1 w2 hb h
    all_goals first | exact h | (obtain ⟨P, rfl, hP, hA⟩ := h; exact ⟨P, rfl, hP, hA.keep hb (by decide)⟩)
  · clear k0 k1 f0 f1 d0 d1 d2 d3
    refine ⟨fun us wx hx hd => ?_, fun us wx hx hd => ?_, fun us wx hx hd => ?_, fun us wx hx hd => ?_, fun us wx hx hd => ?_, fun us wx hx hd => ?_, fun us wx hx hd => ?_, fun us wx hx hd => ?_, fun us wx hx hd => ?_, fun us wx hx hd => ?_, fun us wx hx hd => ?_, fun us wx hx hd => ?_, fun us wx hx hd => ?_, trivial⟩
    all_goals simp only [putAll, dstOf, List.getElem?_toArray, List.getElem?_cons_succ, List.getElem?_cons_zero, Option.bind_some]
    all_goals go_frame
    · obtain ⟨⟨k0, k1, f0, f1⟩, ⟨d0, d1, d2, d3⟩, hr, hbx, hlx⟩ := hx
      have Hbx := Lib.hid hbx; have Hr := Lib.hid hr; have Hlx := Lib.hid hlx; clear hbx hr hlx
      go_simp
      first | exact Below.refl _ _ | exact ⟨rfl, Below.refl _ _⟩ | exact ⟨by and_intros <;> rfl, Below.refl _ _⟩ | exact ⟨by first | rfl | (congr 1; omega), Below.refl _ _⟩
    · rw [show us 0 = (.pointer (some ⟨sb, 0, none⟩)) from hd 0 rfl]; obtain ⟨⟨k0, k1, f0, f1⟩, ⟨d0, d1, d2, d3⟩, hr, hbx, hlx⟩ := hx
      have Hbx := Lib.hid hbx; have Hr := Lib.hid hr; have Hlx := Lib.hid hlx; clear hbx hr hlx
      go_simp
      first | exact Below.refl _ _ | exact ⟨rfl, Below.refl _ _⟩ | exact ⟨by and_intros <;> rfl, Below.refl _ _⟩ | exact ⟨by first | rfl | (congr 1; omega), Below.refl _ _⟩
    · rw [show us 1 = (.pointer (some ⟨sb, 0, none⟩)) from hd 1 rfl]; obtain ⟨⟨k0, k1, f0, f1⟩, ⟨d0, d1, d2, d3⟩, hr, hbx, hlx⟩ := hx
      have Hbx := Lib.hid hbx; have Hr := Lib.hid hr; have Hlx := Lib.hid hlx; clear hbx hr hlx
      go_simp
      first | exact Below.refl _ _ | exact ⟨rfl, Below.refl _ _⟩ | exact ⟨by and_intros <;> rfl, Below.refl _ _⟩ | exact ⟨by first | rfl | (congr 1; omega), Below.refl _ _⟩
    · rw [show us 2 = (.pointer (some ⟨sb, 0, none⟩)) from hd 2 rfl]; obtain ⟨⟨k0, k1, f0, f1⟩, ⟨d0, d1, d2, d3⟩, hr, hbx, hlx⟩ := hx
      have Hbx := Lib.hid hbx; have Hr := Lib.hid hr; have Hlx := Lib.hid hlx; clear hbx hr hlx
      go_simp
      first | exact Below.refl _ _ | exact ⟨rfl, Below.refl _ _⟩ | exact ⟨by and_intros <;> rfl, Below.refl _ _⟩ | exact ⟨by first | rfl | (congr 1; omega), Below.refl _ _⟩
    · obtain ⟨⟨k0, k1, f0, f1⟩, ⟨d0, d1, d2, d3⟩, hr, hbx, hlx⟩ := hx
      have Hbx := Lib.hid hbx; have Hr := Lib.hid hr; have Hlx := Lib.hid hlx; clear hbx hr hlx
      go_simp
      first | exact Below.refl _ _ | exact ⟨rfl, Below.refl _ _⟩ | exact ⟨by and_intros <;> rfl, Below.refl _ _⟩ | exact ⟨by first | rfl | (congr 1; omega), Below.refl _ _⟩
    · rw [show us 4 = (.pointer (some ⟨sb, 0, none⟩)) from hd 4 rfl]; obtain ⟨⟨k0, k1, f0, f1⟩, ⟨d0, d1, d2, d3⟩, hr, hbx, hlx⟩ := hx
      have Hbx := Lib.hid hbx; have Hr := Lib.hid hr; have Hlx := Lib.hid hlx; clear hbx hr hlx
      go_simp
      first | exact Below.refl _ _ | exact ⟨rfl, Below.refl _ _⟩ | exact ⟨by and_intros <;> rfl, Below.refl _ _⟩ | exact ⟨by first | rfl | (congr 1; omega), Below.refl _ _⟩
    · rw [show us 5 = (.pointer (some ⟨sb, 0, none⟩)) from hd 5 rfl]; obtain ⟨⟨k0, k1, f0, f1⟩, ⟨d0, d1, d2, d3⟩, hr, hbx, hlx⟩ := hx
      have Hbx := Lib.hid hbx; have Hr := Lib.hid hr; have Hlx := Lib.hid hlx; clear hbx hr hlx
      go_simp
      first | exact Below.refl _ _ | exact ⟨rfl, Below.refl _ _⟩ | exact ⟨by and_intros <;> rfl, Below.refl _ _⟩ | exact ⟨by first | rfl | (congr 1; omega), Below.refl _ _⟩
    · rw [show us 6 = (.pointer (some ⟨sb, 0, none⟩)) from hd 6 rfl]; obtain ⟨⟨k0, k1, f0, f1⟩, ⟨d0, d1, d2, d3⟩, hr, hbx, hlx⟩ := hx
      have Hbx := Lib.hid hbx; have Hr := Lib.hid hr; have Hlx := Lib.hid hlx; clear hbx hr hlx
      go_simp
      first | exact Below.refl _ _ | exact ⟨rfl, Below.refl _ _⟩ | exact ⟨by and_intros <;> rfl, Below.refl _ _⟩ | exact ⟨by first | rfl | (congr 1; omega), Below.refl _ _⟩
    · rw [show us 7 = (.slice (some ⟨b, off, none⟩) (h + 1) c) from hd 7 rfl]; obtain ⟨⟨k0, k1, f0, f1⟩, ⟨d0, d1, d2, d3⟩, hr, hbx, hlx⟩ := hx
      have Hbx := Lib.hid hbx; have Hr := Lib.hid hr; have Hlx := Lib.hid hlx; clear hbx hr hlx
      go_simp
      first | exact Below.refl _ _ | exact ⟨rfl, Below.refl _ _⟩ | exact ⟨by and_intros <;> rfl, Below.refl _ _⟩ | exact ⟨by first | rfl | (congr 1; omega), Below.refl _ _⟩
    · rw [show us 8 = (.int .i64 ((h : Int) + 1)) from hd 8 rfl]; obtain ⟨⟨k0, k1, f0, f1⟩, ⟨d0, d1, d2, d3⟩, hr, hbx, hlx⟩ := hx
      have Hbx := Lib.hid hbx; have Hr := Lib.hid hr; have Hlx := Lib.hid hlx; clear hbx hr hlx
      go_simp
      first | exact Below.refl _ _ | exact ⟨rfl, Below.refl _ _⟩ | exact ⟨by and_intros <;> rfl, Below.refl _ _⟩ | exact ⟨by first | rfl | (congr 1; omega), Below.refl _ _⟩
    · rw [show us 3 = (.slice (some ⟨b, off, none⟩) (h + 1) c) from hd 3 rfl, show us 9 = (.int .i64 (h : Int)) from hd 9 rfl]; obtain ⟨⟨k0, k1, f0, f1⟩, ⟨d0, d1, d2, d3⟩, hr, hbx, hlx⟩ := hx
      have Hbx := Lib.hid hbx; have Hr := Lib.hid hr; have Hlx := Lib.hid hlx; clear hbx hr hlx
      go_simp
      first | exact Below.refl _ _ | exact ⟨rfl, Below.refl _ _⟩ | exact ⟨by and_intros <;> rfl, Below.refl _ _⟩ | exact ⟨by first | rfl | (congr 1; omega), Below.refl _ _⟩
    · rw [show us 10 = (.pointer (some ⟨b, off + h * 4, none⟩)) from hd 10 rfl]; obtain ⟨⟨k0, k1, f0, f1⟩, ⟨d0, d1, d2, d3⟩, hr, hbx, hlx⟩ := hx
      have Hbx := Lib.hid hbx; have Hr := Lib.hid hr; have Hlx := Lib.hid hlx; clear hbx hr hlx
      go_simp
      first | exact Below.refl _ _ | exact ⟨rfl, Below.refl _ _⟩ | exact ⟨by and_intros <;> rfl, Below.refl _ _⟩ | exact ⟨by first | rfl | (congr 1; omega), Below.refl _ _⟩
    · have Hx := Lib.hid hx; clear hx
      go_simp
      exact ⟨⟨Hx.out.2.2.2.2, Arr.new wx 4 (fnOf Ot.zeroD) 24 _ rfl⟩, (Below.refl _ _).alloc (Nat.le_refl _) _⟩
  rintro us W1 ⟨hst1, hd1, hr1, hb1, hs1⟩ hF
  obtain ⟨P, e12, hP, hA⟩ : ∃ P, us 12 = .pointer (some ⟨P, 0, none⟩) ∧ w.heap.size + 1 ≤ P ∧ Arr W1 P 4 (fnOf Ot.zeroD) := hF 12 (by decide)
  have e11 : us 11 = dgv d := hF 11 (by decide)
  simp only [putAll, dstOf, List.getElem?_toArray, List.getElem?_cons_succ, List.getElem?_cons_zero, Option.bind_some, List.drop_succ_cons, List.drop_zero]
  rw [e11, e12]
  clear hF e11 e12 k0 k1 f0 f1 d0 d1 d2 d3 hba hr0 hst0 hd0
  have hfa := fun j h => hA.free j h
  obtain ⟨d0, d1, d2, d3⟩ := hA.dg
  have hA2 := hA.fill4 (fnOf d)
  have n1 : P ≠ sb := by omega
  have n2 : sb ≠ P := by omega
  have n3 : P ≠ w.heap.size := by omega
  have n4 : w.heap.size ≠ P := by omega
  have hr2 := (((hr1.set_other ⟨P, 0, none⟩ (.int .u32 d.a.toNat) n3).set_other ⟨P, 1, none⟩ (.int .u32 d.b.toNat) n3).set_other ⟨P, 2, none⟩ (.int .u32 d.c.toNat) n3).set_other ⟨P, 3, none⟩ (.int .u32 d.d.toNat) n3
  have hb2 : Below w.heap.size w ((((W1.setCell ⟨P, 0, none⟩ (.int .u32 d.a.toNat)).setCell ⟨P, 1, none⟩ (.int .u32 d.b.toNat)).setCell ⟨P, 2, none⟩ (.int .u32 d.c.toNat)).setCell ⟨P, 3, none⟩ (.int .u32 d.d.toNat)) := hb1.fill4 (by omega) _ _ _ _
  have hbx : Below P W1 ((((W1.setCell ⟨P, 0, none⟩ (.int .u32 d.a.toNat)).setCell ⟨P, 1, none⟩ (.int .u32 d.b.toNat)).setCell ⟨P, 2, none⟩ (.int .u32 d.c.toNat)).setCell ⟨P, 3, none⟩ (.int .u32 d.d.toNat)) := (Below.refl _ _).fill4 (Nat.le_refl _) _ _ _ _
  have hst2 := hst1.below hbx (by omega)
  have HA2 := Lib.hid hA2; have Hr2 := Lib.hid hr2; have Hb2 := Lib.hid hb2; have Hst2 := Lib.hid hst2; clear hA2 hr2 hb2 hst2 hst1 hd1 hA hr1 hbx
  go_frame
  go_upto_region 5 with fail
  have hA2 := HA2.out; have hr2 := Hr2.out; have hb2 := Hb2.out; have hst2 := Hst2.out
  clear HA2 Hr2 Hb2 Hst2 hfa d0 d1 d2 d3
  change Arr ((((W1.setCell ⟨P, 0, none⟩ (.int .u32 d.a.toNat)).setCell ⟨P, 1, none⟩ (.int .u32 d.b.toNat)).setCell ⟨P, 2, none⟩ (.int .u32 d.c.toNat)).setCell ⟨P, 3, none⟩ (.int .u32 d.d.toNat)) P 4 (fnOf d) at hA2
  generalize ((((W1.setCell ⟨P, 0, none⟩ (.int .u32 d.a.toNat)).setCell ⟨P, 1, none⟩ (.int .u32 d.b.toNat)).setCell ⟨P, 2, none⟩ (.int .u32 d.c.toNat)).setCell ⟨P, 3, none⟩ (.int .u32 d.d.toNat)) = W2 at *
  obtain ⟨k0, k1, f0, f1⟩ := hst2
  obtain ⟨d0, d1, d2, d3⟩ := hA2.dg
  obtain ⟨r0, r1, r2, r3⟩ := hr2.dg
  have hfr := fun j h => hr2.free j h
  have Hr2 := Lib.hid hr2; have HA2 := Lib.hid hA2; clear hr2 hA2
  refine still_tail_drew 14 (by kernel_rfl) (by kernel_rfl) ?_
  simp only [List.take_succ_cons, List.take_zero, List.drop_succ_cons, List.drop_zero]
  repeat still_step
  try refine wpStill_nil ?_
  go_wp2_with fail
  have hst3 := Stk.set (w := W2) ⟨k0, k1, f0, f1⟩ (.slice (some ⟨b, off, none⟩) h c)
  have hst4 := hst3.below ((Below.refl w.heap.size _).fill4 (b := w.heap.size) (Nat.le_refl _) (.int .u32 d.a.toNat) (.int .u32 d.b.toNat) (.int .u32 d.c.toNat) (.int .u32 d.d.toNat)) hsl
  have hbt := (((((But.of hb2).setCell (p := ⟨sb, 0, none⟩) (.inl rfl) (.slice (some ⟨b, off, none⟩) h c)).setCell (p := ⟨w.heap.size, 0, none⟩) (.inr (Nat.le_refl _)) (.int .u32 d.a.toNat)).setCell (p := ⟨w.heap.size, 1, none⟩) (.inr (Nat.le_refl _)) (.int .u32 d.b.toNat)).setCell (p := ⟨w.heap.size, 2, none⟩) (.inr (Nat.le_refl _)) (.int .u32 d.c.toNat)).setCell (p := ⟨w.heap.size, 3, none⟩) (.inr (Nat.le_refl _)) (.int .u32 d.d.toNat)
  have hr3 : Arr (((((W2.setCell ⟨sb, 0, none⟩ (.slice (some ⟨b, off, none⟩) h c)).setCell ⟨w.heap.size, 0, none⟩ (.int .u32 d.a.toNat)).setCell ⟨w.heap.size, 1, none⟩ (.int .u32 d.b.toNat)).setCell ⟨w.heap.size, 2, none⟩ (.int .u32 d.c.toNat)).setCell ⟨w.heap.size, 3, none⟩ (.int .u32 d.d.toNat)) w.heap.size 4 (fnOf d) := (Hr2.out.set_other ⟨sb, 0, none⟩ (.slice (some ⟨b, off, none⟩) h c) hsn).fill4 (fnOf d)
  replace hr3 := hr3.drew
  have hbt := hbt.drew
  have hst4 := hst4.drew
  clear k0 k1 f0 f1 d0 d1 d2 d3 r0 r1 r2 r3 hfr
  generalize (((((W2.setCell ⟨sb, 0, none⟩ (.slice (some ⟨b, off, none⟩) h c)).setCell ⟨w.heap.size, 0, none⟩ (.int .u32 d.a.toNat)).setCell ⟨w.heap.size, 1, none⟩ (.int .u32 d.b.toNat)).setCell ⟨w.heap.size, 2, none⟩ (.int .u32 d.c.toNat)).setCell ⟨w.heap.size, 3, none⟩ (.int .u32 d.d.toNat)).drew = Wf at *
  obtain ⟨r0, r1, r2, r3⟩ := hr3.dg
  exact bodyPost_ret (v := dgv d) (by simp [results, Tryd.results88, go_sem, r0, r1, r2, r3]) rfl ⟨rfl, hbt, hst4⟩
end Go.Proofs.YtpodfmnnabepaaaDoor

namespace Go.Proofs.YtpodfmnnabepaaaDoor
open Go.RowKit
open Ot (Dg)
theorem Tn.but {sb : Nat} {w w' : World} (h : Tn w) (hb : But sb w w') (hs : 0 < sb) : Tn w' :=
  ⟨⟨(hb.cell (p := ⟨0, 0, none⟩) (World.block_lt_of_cell? w _ h.1.1) (by simp; omega)).trans h.1.1, (hb.cell (p := ⟨0, 1, none⟩) (World.block_lt_of_cell? w _ h.1.2) (by simp; omega)).trans h.1.2⟩, (hb.cell (p := ⟨0, 2, none⟩) (World.block_lt_of_cell? w _ h.2.1) (by simp; omega)).trans h.2.1, (hb.cell (p := ⟨0, 3, none⟩) (World.block_lt_of_cell? w _ h.2.2) (by simp; omega)).trans h.2.2⟩
theorem pow_lt_i (h : Nat) (hh : h ≤ 4) : 2 ^ h ≤ 16 := Nat.le_trans (Nat.pow_le_pow_right (by decide) hh) (by decide)
/-- What the ways' calls find: the stack at s, the digests that are left. -/
def UpS (l : Nat → Dg) (sb h : Nat) (A : Option Addr) (w : World) : Prop := 0 < h → ∃ b off, A = some ⟨b, off, none⟩ ∧ b ≠ sb ∧ ∀ j, j < h → DgAt w b (off + j * 4) (l j)
theorem UpS.but {l : Nat → Dg} {sb h : Nat} {A : Option Addr} {w w' : World} (H : UpS l sb h A w) (hb : But sb w w') : UpS l sb h A w' := by
  intro hh
  obtain ⟨b, off, rfl, hne, hc⟩ := H hh
  exact ⟨b, off, rfl, hne, fun j hj => (hc j hj).but hb hne⟩
theorem UpS.less {l : Nat → Dg} {sb h : Nat} {A : Option Addr} {w : World} (H : UpS l sb (h + 1) A w) : UpS l sb h A w := by
  intro hh
  obtain ⟨b, off, rfl, hne, hc⟩ := H (by omega)
  exact ⟨b, off, rfl, hne, fun j hj => hc j (by omega)⟩
set_option maxRecDepth 100000 in
set_option maxHeartbeats 8000000 in
theorem up_any (l : Nat → Dg) (sb : Nat) (hs0 : 0 < sb) (A : Option Addr) (c : Nat) (hc2 : c ≤ 9223372036854775807) : ∀ (h : Nat), h ≤ 4 → h ≤ c → ∀ (i : Nat) (leaf : Dg) (w : World), i < 2 ^ h → Tn w → Stk w sb (.slice A h c) → UpS l sb h A w →
    Calls Tryd.prog 77 #[.pointer (some ⟨sb, 0, none⟩), .int .i64 (2 ^ h : Nat), .int .i64 (i : Nat), dgv leaf] w fun e w' => e = .returned (dgv (upT l h i leaf)) ∧ But sb w w' ∧ Stk w' sb (.slice A 0 c)
  | 0, hh, hhc, i, leaf, w, hi, ht, hst, hl => by
    have hbw : Below w.heap.size w ((w.alloc (.cells #[.int .u32 leaf.a.toNat, .int .u32 leaf.b.toNat, .int .u32 leaf.c.toNat, .int .u32 leaf.d.toNat] 24)).alloc (.cells #[.int .u32 0, .int .u32 0, .int .u32 0, .int .u32 0] 24)) := ((Below.refl _ _).alloc (Nat.le_refl _) _).alloc (by simp) _
    have hsl := hst.lt
    simp only [Nat.pow_zero, Int.cast_ofNat_Int]
    have Hst := Lib.hid hst; clear hst hl
    go_enter Tryd.func77, Tryd.ntmps77
    go_wp2_with fail
    have hbt := But.of (sb := sb) (((Below.refl w.heap.size w).alloc (Nat.le_refl _) (.cells #[.int .u32 leaf.a.toNat, .int .u32 leaf.b.toNat, .int .u32 leaf.c.toNat, .int .u32 leaf.d.toNat] 24)).alloc (by simp) (.cells #[.int .u32 leaf.a.toNat, .int .u32 leaf.b.toNat, .int .u32 leaf.c.toNat, .int .u32 leaf.d.toNat] 24))
    have hst2 := Hst.out.keep (((Below.refl w.heap.size w).alloc (Nat.le_refl _) (.cells #[.int .u32 leaf.a.toNat, .int .u32 leaf.b.toNat, .int .u32 leaf.c.toNat, .int .u32 leaf.d.toNat] 24)).alloc (by simp) (.cells #[.int .u32 leaf.a.toNat, .int .u32 leaf.b.toNat, .int .u32 leaf.c.toNat, .int .u32 leaf.d.toNat] 24))
    exact bodyPost_ret (v := dgv leaf) (by simp [results, Tryd.results77, go_sem]) rfl ⟨rfl, hbt, hst2⟩
  | h + 1, hh, hhc, i, leaf, w, hi, ht, hst, hl => by
    have hp := pow_lt_i h (by omega)
    have hpp : 2 ^ (h + 1) = 2 * 2 ^ h := by rw [Nat.pow_succ]; omega
    have hp0 : 0 < 2 ^ h := Nat.pow_pos (by decide)
    have hi2 : i < 2 * 2 ^ h := by omega
    obtain ⟨b, off, rfl, hne, hcs⟩ := hl (by omega)
    have hd := hcs h (by omega)
    have hup : UpS l sb h (some ⟨b, off, none⟩) w := UpS.less hl
    have hsl := hst.lt
    have hhalf := fun w' => half_any h (by omega) w'
    have hrec := fun i leaf w' => up_any l sb hs0 (some ⟨b, off, none⟩) c hc2 h (by omega) (by omega) i leaf w'
    have hres : upT l (h + 1) i leaf = if i < 2 ^ h then pair (upT l h i leaf) (l h) else pair (l h) (upT l h (i - 2 ^ h) leaf) := by rw [upT]
    generalize upT l (h + 1) i leaf = r at *
    generalize hk : 2 ^ h = k at *
    generalize l h = x at *
    rw [hpp] at *
    have t0 : (((2 * k : Nat) : Int) == 1) = false := by simp; omega
    have t0' : ((2 * (k : Int)) == 1) = false := by simp; omega
    have Hst := Lib.hid hst; have Hhalf := Lib.hid hhalf; have Hrec := Lib.hid hrec; have Hup := Lib.hid hup; have Hd := Lib.hid hd; have Hres := Lib.hid hres
    clear hres hst hhalf hrec hup hl hcs hd hpp hk
    go_enter Tryd.func77, Tryd.ntmps77
    go_wp2_with fail
    generalize hW : (w.alloc (.cells #[.int .u32 leaf.a.toNat, .int .u32 leaf.b.toNat, .int .u32 leaf.c.toNat, .int .u32 leaf.d.toNat] 24)).alloc (.cells #[.int .u32 0, .int .u32 0, .int .u32 0, .int .u32 0] 24) = W
    have hb0 : Below w.heap.size w W := by subst hW; exact ((Below.refl _ _).alloc (Nat.le_refl _) _).alloc (by simp) _
    have hl0 : Arr W w.heap.size 4 (fnOf leaf) := by subst hW; exact (Arr.new w 4 (fnOf leaf) 24 _ rfl).alloc (by simp) _
    have hr0 : Arr W (w.heap.size + 1) 4 (fnOf Ot.zeroD) := by subst hW; exact Arr.new' (w.alloc _) (w.heap.size + 1) 4 (fnOf Ot.zeroD) 24 _ (by simp) rfl
    have ht0 := ht.below hb0
    have hsz0 : W.heap.size = w.heap.size + 2 := by subst hW; simp
    clear hW
    refine (Hhalf.out _).mono ?_
    rintro e w0 ⟨rfl, rfl⟩
    go_wp2_with fail
    refine (pop_any sb b off h c x _ (by omega) hc2 (Hst.out.keep hb0) (Hd.out.below hb0 Hd.out.lt)).mono ?_
    rintro e w1 ⟨rfl, hb1, hst1⟩
    have hl1 := hl0.but hb1 (by omega) (by omega)
    have hr1 := hr0.but hb1 (by omega) (by omega)
    have ht1 := ht0.but hb1 hs0
    have hbt1 := (But.of (sb := sb) hb0).trans hb1
    have hup1 := Hup.out.but hbt1
    have hsz1 : w.heap.size + 2 ≤ w1.heap.size := by have := hb1.size; omega
    have q0 : w.heap.size < w1.heap.size := by omega
    have q1 : w.heap.size + 1 < w1.heap.size := by omega
    clear hl0 hr0 ht0 hb0 hb1 ht hsz0
    have Hl1 := Lib.hid hl1; have Hr1 := Lib.hid hr1; have Ht1 := Lib.hid ht1; have Hbt1 := Lib.hid hbt1; have Hup1 := Lib.hid hup1; have Hst1 := Lib.hid hst1
    clear hl1 hr1 ht1 hbt1 hup1 hst1
    by_cases hik : i < k
    · have hd : decide ((i : Int) < (k : Int)) = true := by simp; omega
      have hr2 := Hres.out
      rw [if_pos hik] at hr2
      have Hr2 := Lib.hid hr2; clear hr2
      go_upto_region 5 with fail
      generalize hy : upT l h i leaf = y at *
      have Hy := Lib.hid hy; clear hy
      have hr3 : pair y x = r := by rw [Hr2.out]
      have Hr3 := Lib.hid hr3; clear hr3
      obtain ⟨S, hSd⟩ : ∃ S : Bool → World → Prop, S = fun bb wx => Tn wx ∧ Arr wx w.heap.size 4 (fnOf leaf) ∧ Arr wx w1.heap.size 4 (fnOf x) ∧ Arr wx (w.heap.size + 1) 4 (fnOf Ot.zeroD) ∧ But sb w wx ∧ UpS l sb h (some ⟨b, off, none⟩) wx ∧ Stk wx sb (.slice (some ⟨b, off, none⟩) (if bb then 0 else h) c) := ⟨_, rfl⟩
      have sd : ∀ bb wx, S bb wx ↔ (Tn wx ∧ Arr wx w.heap.size 4 (fnOf leaf) ∧ Arr wx w1.heap.size 4 (fnOf x) ∧ Arr wx (w.heap.size + 1) 4 (fnOf Ot.zeroD) ∧ But sb w wx ∧ UpS l sb h (some ⟨b, off, none⟩) wx ∧ Stk wx sb (.slice (some ⟨b, off, none⟩) (if bb then 0 else h) c)) := fun bb wx => by rw [hSd]
      clear hSd
      have hbx : Below w1.heap.size w1 (w1.alloc (.cells #[.int .u32 x.a.toNat, .int .u32 x.b.toNat, .int .u32 x.c.toNat, .int .u32 x.d.toNat] 24)) := (Below.refl _ _).alloc (Nat.le_refl _) _
      have hS0 : S false (w1.alloc (.cells #[.int .u32 x.a.toNat, .int .u32 x.b.toNat, .int .u32 x.c.toNat, .int .u32 x.d.toNat] 24)) := (sd _ _).2 ⟨Ht1.out.below hbx, Hl1.out.keep hbx (by decide), Arr.new w1 4 (fnOf x) 24 _ rfl, Hr1.out.keep hbx (by decide), Hbt1.out.trans (But.of hbx), Hup1.out.but (But.of hbx), Hst1.out.keep hbx⟩
      have hS1 : S false (w1.alloc (.cells #[.int .u32 x.a.toNat, .int .u32 x.b.toNat, .int .u32 x.c.toNat, .int .u32 x.d.toNat] 24)).drew := by
        rw [sd] at hS0 ⊢
        exact ⟨hS0.1.drew, hS0.2.1.drew, hS0.2.2.1.drew, hS0.2.2.2.1.drew, hS0.2.2.2.2.1.drew, hS0.2.2.2.2.2.1.but ((But.refl _ _).drew), hS0.2.2.2.2.2.2.drew⟩
      have Sd := Lib.hid sd; clear sd hS0 hbx
      refine wp_region_invS S (But sb) (fun j v w' => match j with | 0 => v = (.pointer (some ⟨sb, 0, none⟩)) | 1 => v = (.int .i64 (k : Int)) | 2 => v = (.int .i64 (i : Int)) | 3 => v = dgv leaf | 4 => v = dgv y | 5 => v = dgv x | 6 => v = dgv r | _ => True) 7 4 (by kernel_rfl) (by kernel_rfl) (by decide) hS1 ?_ ?_ ?_
      · rintro (_|_|_|_|_|_|_|j) v w1 w2 hb h
        all_goals exact h
      · refine ⟨fun us wx bb hbb hx hd => ?_, fun us wx bb hbb hx hd => ?_, fun us wx bb hbb hx hd => ?_, fun us wx bb hbb hx hd => ?_, fun us wx bb hbb hx hd => ?_, fun us wx bb hbb hx hd => ?_, fun us wx bb hbb hx hd => ?_, trivial⟩
        all_goals simp only [putAll, dstOf, List.getElem?_toArray, List.getElem?_cons_succ, List.getElem?_cons_zero, Option.bind_some]
        all_goals go_frame
        · go_simp
          first | exact ⟨But.refl _ _, by simpa using hx⟩ | exact ⟨rfl, But.refl _ _, by simpa using hx⟩ | exact ⟨by first | rfl | (congr 1; omega), But.refl _ _, by simpa using hx⟩
        · go_simp
          first | exact ⟨But.refl _ _, by simpa using hx⟩ | exact ⟨rfl, But.refl _ _, by simpa using hx⟩ | exact ⟨by first | rfl | (congr 1; omega), But.refl _ _, by simpa using hx⟩
        · go_simp
          first | exact ⟨But.refl _ _, by simpa using hx⟩ | exact ⟨rfl, But.refl _ _, by simpa using hx⟩ | exact ⟨by first | rfl | (congr 1; omega), But.refl _ _, by simpa using hx⟩
        · obtain ⟨c0, c1, c2, c3⟩ := ((Sd.out bb wx).1 hx).2.1.dg
          go_simp
          first | exact ⟨But.refl _ _, by simpa using hx⟩ | exact ⟨rfl, But.refl _ _, by simpa using hx⟩ | exact ⟨by and_intros <;> rfl, But.refl _ _, by simpa using hx⟩ | exact ⟨⟨by and_intros <;> rfl, But.refl _ _⟩, by simpa using hx⟩
        · rw [show us 0 = (.pointer (some ⟨sb, 0, none⟩)) from hd 0 rfl, show us 1 = (.int .i64 (k : Int)) from hd 1 rfl, show us 2 = (.int .i64 (i : Int)) from hd 2 rfl, show us 3 = dgv leaf from hd 3 rfl]
          have hbf : bb = false := hbb rfl
          subst hbf
          obtain ⟨z0, z1, z2, z3, z4, z5, z6⟩ := (Sd.out _ _).1 hx
          have hw1 : w1.heap.size < wx.heap.size := z2.lt (by decide)
          go_simp
          refine (Hrec.out (i) leaf wx (by omega) z0 z6 z5).mono ?_
          rw [Hy.out]
          rintro e w3 ⟨rfl, hb3, hst3⟩
          exact ⟨_, rfl, rfl, hb3, (Sd.out _ _).2 ⟨z0.but hb3 hs0, z1.but hb3 (by omega) (by omega), z2.but hb3 (by omega) (by omega), z3.but hb3 (by omega) (by omega), z4.trans hb3, z5.but hb3, hst3⟩⟩
        · obtain ⟨c0, c1, c2, c3⟩ := ((Sd.out bb wx).1 hx).2.2.1.dg
          go_simp
          first | exact ⟨But.refl _ _, by simpa using hx⟩ | exact ⟨rfl, But.refl _ _, by simpa using hx⟩ | exact ⟨by and_intros <;> rfl, But.refl _ _, by simpa using hx⟩ | exact ⟨⟨by and_intros <;> rfl, But.refl _ _⟩, by simpa using hx⟩
        · rw [show us 4 = dgv y from hd 4 rfl, show us 5 = dgv x from hd 5 rfl]
          obtain ⟨z0, z1, z2, z3, z4, z5, z6⟩ := (Sd.out _ _).1 hx
          go_simp
          refine (pair_any _ _ _ z0).mono ?_
          rintro e w3 ⟨rfl, hb3⟩
          exact ⟨_, rfl, by rw [Hr3.out], But.of hb3, by have := (Sd.out bb w3).2 ⟨z0.below hb3, z1.keep hb3 (by decide), z2.keep hb3 (by decide), z3.keep hb3 (by decide), z4.trans (But.of hb3), z5.but (But.of hb3), z6.keep hb3⟩; simpa using this⟩
      rintro us W1 hx hF
      have er : us 6 = dgv r := hF 6 (by decide)
      obtain ⟨z0, z1, z2, z3, z4, z5, z6⟩ := (Sd.out _ _).1 hx
      simp only [putAll, dstOf, List.getElem?_toArray, List.getElem?_cons_succ, List.getElem?_cons_zero, Option.bind_some, List.drop_succ_cons, List.drop_zero]
      rw [er]
      obtain ⟨d0, d1, d2, d3⟩ := z3.dg
      have hfr := fun j h => z3.free j h
      have hw1 : w1.heap.size < W1.heap.size := z2.lt (by decide)
      have z7 := z6.below ((Below.refl (w.heap.size + 1) _).fill4 (b := w.heap.size + 1) (Nat.le_refl _) (.int .u32 r.a.toNat) (.int .u32 r.b.toNat) (.int .u32 r.c.toNat) (.int .u32 r.d.toNat)) (by omega)
      have z8 := ((((z4.setCell (p := ⟨w.heap.size + 1, 0, none⟩) (.inr (by simp)) (.int .u32 r.a.toNat)).setCell (p := ⟨w.heap.size + 1, 1, none⟩) (.inr (by simp)) (.int .u32 r.b.toNat)).setCell (p := ⟨w.heap.size + 1, 2, none⟩) (.inr (by simp)) (.int .u32 r.c.toNat)).setCell (p := ⟨w.heap.size + 1, 3, none⟩) (.inr (by simp)) (.int .u32 r.d.toNat))
      have Z7 := Lib.hid z7; have Z8 := Lib.hid z8
      clear er hF hx z0 z1 z2 z3 z4 z5 z6 z7 z8
      go_frame
      go_wp2_with fail
      exact bodyPost_ret (v := dgv r) (by simp [results, Tryd.results77, go_sem, d0, d1, d2, d3]) rfl ⟨rfl, Z8.out, Z7.out⟩
    · have hd : decide ((i : Int) < (k : Int)) = false := by simp; omega
      have hr2 := Hres.out
      rw [if_neg hik] at hr2
      have Hr2 := Lib.hid hr2; clear hr2
      go_upto_region 6 with fail
      generalize hy : upT l h (i - k) leaf = y at *
      have Hy := Lib.hid hy; clear hy
      have hr3 : pair x y = r := by rw [Hr2.out]
      have Hr3 := Lib.hid hr3; clear hr3
      have v1 : IntKind.i64.wrap (2 * (k : Int) - (k : Int)) = (k : Int) := by rw [IntWalk.i64_in _ (by omega)]; omega
      have v2 : IntKind.i64.wrap ((i : Int) - (k : Int)) = ((i - k : Nat) : Int) := by rw [IntWalk.i64_in _ (by omega)]; omega
      obtain ⟨S, hSd⟩ : ∃ S : Bool → World → Prop, S = fun bb wx => Tn wx ∧ Arr wx w.heap.size 4 (fnOf leaf) ∧ Arr wx w1.heap.size 4 (fnOf x) ∧ Arr wx (w.heap.size + 1) 4 (fnOf Ot.zeroD) ∧ But sb w wx ∧ UpS l sb h (some ⟨b, off, none⟩) wx ∧ Stk wx sb (.slice (some ⟨b, off, none⟩) (if bb then 0 else h) c) := ⟨_, rfl⟩
      have sd : ∀ bb wx, S bb wx ↔ (Tn wx ∧ Arr wx w.heap.size 4 (fnOf leaf) ∧ Arr wx w1.heap.size 4 (fnOf x) ∧ Arr wx (w.heap.size + 1) 4 (fnOf Ot.zeroD) ∧ But sb w wx ∧ UpS l sb h (some ⟨b, off, none⟩) wx ∧ Stk wx sb (.slice (some ⟨b, off, none⟩) (if bb then 0 else h) c)) := fun bb wx => by rw [hSd]
      clear hSd
      have hbx : Below w1.heap.size w1 (w1.alloc (.cells #[.int .u32 x.a.toNat, .int .u32 x.b.toNat, .int .u32 x.c.toNat, .int .u32 x.d.toNat] 24)) := (Below.refl _ _).alloc (Nat.le_refl _) _
      have hS0 : S false (w1.alloc (.cells #[.int .u32 x.a.toNat, .int .u32 x.b.toNat, .int .u32 x.c.toNat, .int .u32 x.d.toNat] 24)) := (sd _ _).2 ⟨Ht1.out.below hbx, Hl1.out.keep hbx (by decide), Arr.new w1 4 (fnOf x) 24 _ rfl, Hr1.out.keep hbx (by decide), Hbt1.out.trans (But.of hbx), Hup1.out.but (But.of hbx), Hst1.out.keep hbx⟩
      have hS1 : S false (w1.alloc (.cells #[.int .u32 x.a.toNat, .int .u32 x.b.toNat, .int .u32 x.c.toNat, .int .u32 x.d.toNat] 24)).drew := by
        rw [sd] at hS0 ⊢
        exact ⟨hS0.1.drew, hS0.2.1.drew, hS0.2.2.1.drew, hS0.2.2.2.1.drew, hS0.2.2.2.2.1.drew, hS0.2.2.2.2.2.1.but ((But.refl _ _).drew), hS0.2.2.2.2.2.2.drew⟩
      have Sd := Lib.hid sd; clear sd hS0 hbx
      refine wp_region_invS S (But sb) (fun j v w' => match j with | 0 => v = dgv x | 1 => v = (.pointer (some ⟨sb, 0, none⟩)) | 2 => v = (.int .i64 (2 * (k : Int))) | 3 => v = (.int .i64 (k : Int)) | 4 => v = (.int .i64 (k : Int)) | 5 => v = (.int .i64 (i : Int)) | 6 => v = (.int .i64 (k : Int)) | 7 => v = (.int .i64 ((i - k : Nat) : Int)) | 8 => v = dgv leaf | 9 => v = dgv y | 10 => v = dgv r | _ => True) 11 9 (by kernel_rfl) (by kernel_rfl) (by decide) hS1 ?_ ?_ ?_
      · rintro (_|_|_|_|_|_|_|_|_|_|_|j) v w1 w2 hb h
        all_goals exact h
      · refine ⟨fun us wx bb hbb hx hd => ?_, fun us wx bb hbb hx hd => ?_, fun us wx bb hbb hx hd => ?_, fun us wx bb hbb hx hd => ?_, fun us wx bb hbb hx hd => ?_, fun us wx bb hbb hx hd => ?_, fun us wx bb hbb hx hd => ?_, fun us wx bb hbb hx hd => ?_, fun us wx bb hbb hx hd => ?_, fun us wx bb hbb hx hd => ?_, fun us wx bb hbb hx hd => ?_, trivial⟩
        all_goals simp only [putAll, dstOf, List.getElem?_toArray, List.getElem?_cons_succ, List.getElem?_cons_zero, Option.bind_some]
        all_goals go_frame
        · obtain ⟨c0, c1, c2, c3⟩ := ((Sd.out bb wx).1 hx).2.2.1.dg
          go_simp
          first | exact ⟨But.refl _ _, by simpa using hx⟩ | exact ⟨rfl, But.refl _ _, by simpa using hx⟩ | exact ⟨by and_intros <;> rfl, But.refl _ _, by simpa using hx⟩ | exact ⟨⟨by and_intros <;> rfl, But.refl _ _⟩, by simpa using hx⟩
        · go_simp
          first | exact ⟨But.refl _ _, by simpa using hx⟩ | exact ⟨rfl, But.refl _ _, by simpa using hx⟩ | exact ⟨by first | rfl | (congr 1; omega), But.refl _ _, by simpa using hx⟩
        · go_simp
          first | exact ⟨But.refl _ _, by simpa using hx⟩ | exact ⟨rfl, But.refl _ _, by simpa using hx⟩ | exact ⟨by first | rfl | (congr 1; omega), But.refl _ _, by simpa using hx⟩
        · go_simp
          first | exact ⟨But.refl _ _, by simpa using hx⟩ | exact ⟨rfl, But.refl _ _, by simpa using hx⟩ | exact ⟨by first | rfl | (congr 1; omega), But.refl _ _, by simpa using hx⟩
        · rw [show us 2 = (.int .i64 (2 * (k : Int))) from hd 2 rfl, show us 3 = (.int .i64 (k : Int)) from hd 3 rfl]
          go_simp
          first | exact ⟨But.refl _ _, by simpa using hx⟩ | exact ⟨rfl, But.refl _ _, by simpa using hx⟩ | exact ⟨by first | rfl | (congr 1; omega), But.refl _ _, by simpa using hx⟩
        · go_simp
          first | exact ⟨But.refl _ _, by simpa using hx⟩ | exact ⟨rfl, But.refl _ _, by simpa using hx⟩ | exact ⟨by first | rfl | (congr 1; omega), But.refl _ _, by simpa using hx⟩
        · go_simp
          first | exact ⟨But.refl _ _, by simpa using hx⟩ | exact ⟨rfl, But.refl _ _, by simpa using hx⟩ | exact ⟨by first | rfl | (congr 1; omega), But.refl _ _, by simpa using hx⟩
        · rw [show us 5 = (.int .i64 (i : Int)) from hd 5 rfl, show us 6 = (.int .i64 (k : Int)) from hd 6 rfl]
          go_simp
          first | exact ⟨But.refl _ _, by simpa using hx⟩ | exact ⟨rfl, But.refl _ _, by simpa using hx⟩ | exact ⟨by first | rfl | (congr 1; omega), But.refl _ _, by simpa using hx⟩
        · obtain ⟨c0, c1, c2, c3⟩ := ((Sd.out bb wx).1 hx).2.1.dg
          go_simp
          first | exact ⟨But.refl _ _, by simpa using hx⟩ | exact ⟨rfl, But.refl _ _, by simpa using hx⟩ | exact ⟨by and_intros <;> rfl, But.refl _ _, by simpa using hx⟩ | exact ⟨⟨by and_intros <;> rfl, But.refl _ _⟩, by simpa using hx⟩
        · rw [show us 1 = (.pointer (some ⟨sb, 0, none⟩)) from hd 1 rfl, show us 4 = (.int .i64 (k : Int)) from hd 4 rfl, show us 7 = (.int .i64 ((i - k : Nat) : Int)) from hd 7 rfl, show us 8 = dgv leaf from hd 8 rfl]
          have hbf : bb = false := hbb rfl
          subst hbf
          obtain ⟨z0, z1, z2, z3, z4, z5, z6⟩ := (Sd.out _ _).1 hx
          have hw1 : w1.heap.size < wx.heap.size := z2.lt (by decide)
          go_simp
          refine (Hrec.out (i - k) leaf wx (by omega) z0 z6 z5).mono ?_
          rw [Hy.out]
          rintro e w3 ⟨rfl, hb3, hst3⟩
          exact ⟨_, rfl, rfl, hb3, (Sd.out _ _).2 ⟨z0.but hb3 hs0, z1.but hb3 (by omega) (by omega), z2.but hb3 (by omega) (by omega), z3.but hb3 (by omega) (by omega), z4.trans hb3, z5.but hb3, hst3⟩⟩
        · rw [show us 0 = dgv x from hd 0 rfl, show us 9 = dgv y from hd 9 rfl]
          obtain ⟨z0, z1, z2, z3, z4, z5, z6⟩ := (Sd.out _ _).1 hx
          go_simp
          refine (pair_any _ _ _ z0).mono ?_
          rintro e w3 ⟨rfl, hb3⟩
          exact ⟨_, rfl, by rw [Hr3.out], But.of hb3, by have := (Sd.out bb w3).2 ⟨z0.below hb3, z1.keep hb3 (by decide), z2.keep hb3 (by decide), z3.keep hb3 (by decide), z4.trans (But.of hb3), z5.but (But.of hb3), z6.keep hb3⟩; simpa using this⟩
      rintro us W1 hx hF
      have er : us 10 = dgv r := hF 10 (by decide)
      obtain ⟨z0, z1, z2, z3, z4, z5, z6⟩ := (Sd.out _ _).1 hx
      simp only [putAll, dstOf, List.getElem?_toArray, List.getElem?_cons_succ, List.getElem?_cons_zero, Option.bind_some, List.drop_succ_cons, List.drop_zero]
      rw [er]
      obtain ⟨d0, d1, d2, d3⟩ := z3.dg
      have hfr := fun j h => z3.free j h
      have hw1 : w1.heap.size < W1.heap.size := z2.lt (by decide)
      have z7 := z6.below ((Below.refl (w.heap.size + 1) _).fill4 (b := w.heap.size + 1) (Nat.le_refl _) (.int .u32 r.a.toNat) (.int .u32 r.b.toNat) (.int .u32 r.c.toNat) (.int .u32 r.d.toNat)) (by omega)
      have z8 := ((((z4.setCell (p := ⟨w.heap.size + 1, 0, none⟩) (.inr (by simp)) (.int .u32 r.a.toNat)).setCell (p := ⟨w.heap.size + 1, 1, none⟩) (.inr (by simp)) (.int .u32 r.b.toNat)).setCell (p := ⟨w.heap.size + 1, 2, none⟩) (.inr (by simp)) (.int .u32 r.c.toNat)).setCell (p := ⟨w.heap.size + 1, 3, none⟩) (.inr (by simp)) (.int .u32 r.d.toNat))
      have Z7 := Lib.hid z7; have Z8 := Lib.hid z8
      clear er hF hx z0 z1 z2 z3 z4 z5 z6 z7 z8
      go_frame
      go_wp2_with fail
      exact bodyPost_ret (v := dgv r) (by simp [results, Tryd.results77, go_sem, d0, d1, d2, d3]) rfl ⟨rfl, Z8.out, Z7.out⟩
end Go.Proofs.YtpodfmnnabepaaaDoor

namespace Go.Proofs.YtpodfmnnabepaaaDoor
open Go.RowKit
open Ot (Dg)
/-- A path: a slice of digests, nil or with room enough. -/
def PathAt (w : World) (v : Value) (l : List Dg) : Prop := ∃ A c, v = .slice A l.length c ∧ l.length ≤ c ∧ c ≤ 9223372036854775807 ∧ (A = none → l = [] ∧ c = 0) ∧ (0 < l.length → ∃ b off, A = some ⟨b, off, none⟩ ∧ ∀ i, i < l.length → DgAt w b (off + i * 4) (l.getD i Ot.zeroD))
theorem PathAt.keep {w w' : World} {v : Value} {l : List Dg} (h : PathAt w v l) (hb : Below w.heap.size w w') : PathAt w' v l := by
  obtain ⟨A, c, rfl, h1, h2, h3, h4⟩ := h
  refine ⟨A, c, rfl, h1, h2, h3, fun hp => ?_⟩
  obtain ⟨b, off, rfl, hc⟩ := h4 hp
  exact ⟨b, off, rfl, fun i hi => (hc i hi).below hb (hc i hi).lt⟩
theorem PathAt_nil (w : World) : PathAt w (.slice none 0 0) [] := ⟨none, 0, rfl, by simp, by simp, fun _ => ⟨rfl, rfl⟩, fun h => by simp at h⟩
theorem dcs_row : ∀ (l : List Dg) (w : World) (b off : Nat), (∀ i, i < l.length → DgAt w b (off + i * 4) (l.getD i Ot.zeroD)) → ∀ j u, (dcs l)[j]? = some u → w.cell? ⟨b, off + j, none⟩ = some u
  | [], w, b, off, h, j, u, hu => by simp [dcs] at hu
  | d :: l, w, b, off, h, j, u, hu => by
    have e : dcs (d :: l) = [.int .u32 d.a.toNat, .int .u32 d.b.toNat, .int .u32 d.c.toNat, .int .u32 d.d.toNat] ++ dcs l := rfl
    rw [e] at hu
    by_cases hj : j < 4
    · rw [List.getElem?_append_left (by simpa using hj)] at hu
      obtain ⟨d0, d1, d2, d3⟩ := h 0 (by simp)
      simp only [Nat.zero_mul, Nat.add_zero] at d0 d1 d2 d3
      obtain rfl | rfl | rfl | rfl : j = 0 ∨ j = 1 ∨ j = 2 ∨ j = 3 := by omega
      · exact d0.trans hu
      · exact d1.trans hu
      · exact d2.trans hu
      · exact d3.trans hu
    · rw [List.getElem?_append_right (by simp; omega)] at hu
      have ih := dcs_row l w b (off + 4) (fun i hi => by
        have := h (i + 1) (by simpa using hi)
        rw [show off + (i + 1) * 4 = off + 4 + i * 4 by omega] at this
        exact this) (j - 4) u (by simpa using hu)
      rwa [show off + 4 + (j - 4) = off + j by omega] at ih
theorem dcs_one (l : List Dg) : ∀ u ∈ dcs l, u.oneCell' = true := by
  intro u hu
  simp only [dcs, List.mem_flatMap] at hu
  obtain ⟨d, _, hd⟩ := hu
  exact dg_one d u hd
theorem eql_nil (A : Option Addr) (n c : Nat) (w : World) : (binOp .eql 32 (.slice A n c) (.slice none 0 0)).run Tryd.prog w = .ok (.bool A.isNone) w := by cases A <;> kernel_rfl
theorem add_of (g o j : Nat) : (⟨g, o, none⟩ : Addr).add j = ⟨g, o + j, none⟩ := by unfold Addr.add; split <;> simp_all
theorem own_path {w : World} {base n : Nat} {v : Value} {l : List Dg} (h : w.ownsRow base 24 4 v n (dcs l)) : PathAt w v l := by
  have hl : l.length = n := by have := h.1; rw [dcs_length] at this; omega
  obtain ⟨A, c, rfl, hm, hc⟩ := own_sig h
  rcases h.2 with ⟨e, h0⟩ | ⟨g, cap, cur, e, hb, hh, h1, h2, _⟩
  · simp only [Value.slice.injEq] at e
    obtain ⟨rfl, _, rfl⟩ := e
    exact ⟨none, 0, rfl, by omega, by simp, fun _ => ⟨List.length_eq_zero_iff.1 (by omega), rfl⟩, fun hp => by omega⟩
  · simp only [Value.slice.injEq] at e
    obtain ⟨rfl, _, rfl⟩ := e
    refine ⟨some ⟨g, 0, none⟩, c, rfl, by omega, by simpa [maxLen] using h2, fun h => by simp at h, fun hp => ?_⟩
    obtain ⟨b, off, e, _, hx⟩ := hc hp
    exact ⟨b, off, e, hx⟩
theorem own_capd {w : World} {base n size : Nat} {e : TypeId} {v : Value} {xs : List Value} (h : w.ownsRow base e size v n xs) : Capd v := by
  rcases h.2 with ⟨rfl, h0⟩ | ⟨g, cap, cur, rfl, hb, hh, h1, h2, _⟩
  · exact ⟨none, 0, 0, rfl, by simp, by simp⟩
  · exact ⟨_, _, _, rfl, h1, by simpa [maxLen] using h2⟩
set_option maxRecDepth 100000 in
set_option maxHeartbeats 4000000 in
theorem clone_any (v : Value) (l : List Dg) (w : World) (hv : PathAt w v l) (hl : l.length ≤ 100000) :
    Calls Tryd.prog 68 #[v] w fun e w' => ∃ v', e = .returned v' ∧ Below w.heap.size w w' ∧ PathAt w' v' l := by
  obtain ⟨i0, hi, hz0, hz1, hz2⟩ := info_parts Tryd.info24
  obtain ⟨A, c, rfl, h1, h2, h3, h4⟩ := hv
  cases A with
  | none =>
    obtain ⟨rfl, rfl⟩ := h3 rfl
    have hq := fun w => eql_nil none 0 0 w
    simp only [Option.isNone] at hq
    clear h3 h4
    go_enter Tryd.func68, Tryd.ntmps68
    go_wp2_with fail
    exact bodyPost_ret (v := .slice none 0 0) (by simp [results, Tryd.results68, go_sem]) rfl ⟨_, rfl, Below.refl _ _, PathAt_nil _⟩
  | some a =>
    have hrow : ∀ j u, (dcs l)[j]? = some u → w.cell? (a.add j) = some u := by
      intro j u hu
      have hp : 0 < l.length := by
        rcases Nat.eq_zero_or_pos l.length with h | h
        · rw [List.length_eq_zero_iff.1 h] at hu; simp [dcs] at hu
        · exact h
      obtain ⟨b, off, e, hc⟩ := h4 hp
      cases e
      rw [add_of]
      exact dcs_row l w b off hc j u hu
    have hq := fun w => eql_nil (some a) l.length c w
    simp only [Option.isNone] at hq
    have Hrow := Lib.hid hrow; clear hrow h3 h4
    go_enter Tryd.func68, Tryd.ntmps68
    have hlit := World.ownsRow_lit (base := w.heap.size) (e := 24) (size := 4) w #[] 0 (Nat.le_refl _) (by unfold maxLen; decide) (by simp)
    have hba : Below w.heap.size w (w.alloc (.cells #[] 24)) := (Below.refl _ _).alloc (Nat.le_refl _) _
    have hrow2 : ∀ j u, (dcs l)[j]? = some u → (w.alloc (.cells #[] 24)).cell? (a.add j) = some u := fun j u hu => cell_keep (Hrow.out j u hu) hba
    have Hrow2 := Lib.hid hrow2; have Hlit := Lib.hid hlit; clear hrow2 hlit
    go_wp2_with (at_builtin; refine wpList_append_own _ rfl _ _ 32 rfl w.heap.size 24 i0 (dgv Ot.zeroD) 4 16 Tryd.underlying32 hi hz0 hz1 hz2 rfl (by decide) _ _ _ rfl Hlit.out a l.length c (dcs l) rfl ?c1 ?c2 ?c3 ?c4 ?c5 ?c6 ?_)
    case c1 => exact dcs_length l
    case c2 => exact Hrow2.out
    case c3 => exact dcs_one l
    case c4 => unfold maxLen; omega
    case c5 => omega
    intro v' w4 hown1 hg1 _
    have hb4 : Below w.heap.size w w4 := hba.grown hg1 (by simp) (fun q hq => (Hlit.out.lt q hq).1)
    have hpa := own_path hown1
    clear hg1 hown1
    go_wp2_with fail
    exact bodyPost_ret (v := v') (by simp [results, Tryd.results68, go_sem]) rfl ⟨_, rfl, hb4, hpa⟩
theorem done_any (sb c : Nat) (A : Option Addr) (w : World) (hst : Stk w sb (.slice A 0 c)) : Calls Tryd.prog 78 #[.pointer (some ⟨sb, 0, none⟩)] w fun e w' => e = .returned (.bool true) ∧ w' = w := by
  obtain ⟨k0, k1, f0, f1⟩ := hst
  go_enter Tryd.func78, Tryd.ntmps78
  go_wp2_with fail
  exact bodyPost_ret (v := .bool true) (by simp [results, Tryd.results78, go_sem]) rfl ⟨rfl, rfl⟩
end Go.Proofs.YtpodfmnnabepaaaDoor

namespace Go.Proofs.YtpodfmnnabepaaaDoor
open Go.RowKit
open Ot (Dg)
/-- Does a path of digests l lead from a leaf at i to a root? -/
noncomputable def mchk (root : Dg) (i : Int) (leaf : Dg) (l : List Dg) : Bool := decide (0 ≤ i ∧ i < (2 ^ l.length : Nat)) && decide (upT (fun j => l.getD j Ot.zeroD) l.length i.toNat leaf = root)
theorem len_le_pow : ∀ n : Nat, n ≤ 2 ^ n
  | 0 => by decide
  | n + 1 => by have := len_le_pow n; have := Nat.pow_pos (n := n) (show 0 < 2 by decide); rw [Nat.pow_succ]; omega
set_option maxRecDepth 100000 in
set_option maxHeartbeats 4000000 in
theorem mcheck_any (root leaf : Dg) (i : Int) (v : Value) (l : List Dg) (w : World) (ht : Tn w) (hv : PathAt w v l) (hl : l.length ≤ 4) :
    Calls Tryd.prog 67 #[dgv root, .int .i64 (2 ^ l.length : Nat), .int .i64 i, dgv leaf, v] w fun e w' => e = .returned (.bool (mchk root i leaf l)) ∧ Below w.heap.size w w' := by
  have hp16 := pow_lt_i l.length hl
  have hlp := len_le_pow l.length
  have hclone := fun w' h => clone_any v l w' h (by omega)
  obtain ⟨A, c, hve, hlc, hc2, _⟩ := id hv
  have hres : mchk root i leaf l = (decide (0 ≤ i ∧ i < (2 ^ l.length : Nat)) && decide (upT (fun j => l.getD j Ot.zeroD) l.length i.toNat leaf = root)) := rfl
  generalize hr : mchk root i leaf l = r at *
  have hup := fun sb hs0 A c hc2 => up_any (fun j => l.getD j Ot.zeroD) sb hs0 A c hc2 l.length hl
  generalize hn : l.length = n at *
  generalize hN : 2 ^ n = N at *
  have Hv := Lib.hid hv; have Hup := Lib.hid hup; have Hres := Lib.hid hres; have Hclone := Lib.hid hclone; have Hn := Lib.hid hn
  clear hv hup hres hclone hn hr hN
  have t1 : decide ((1000 : Int) < (N : Int)) = false := by simp; omega
  have t4 : decide ((N : Int) < (n : Int)) = false := by simp; omega
  subst hve
  have hb0 : Below w.heap.size w ((w.alloc (.cells #[.int .u32 root.a.toNat, .int .u32 root.b.toNat, .int .u32 root.c.toNat, .int .u32 root.d.toNat] 24)).alloc (.cells #[.int .u32 leaf.a.toNat, .int .u32 leaf.b.toNat, .int .u32 leaf.c.toNat, .int .u32 leaf.d.toNat] 24)) := ((Below.refl _ _).alloc (Nat.le_refl _) _).alloc (by simp) _
  by_cases g1 : i < 0
  · have t2 : decide (i < 0) = true := by simp; omega
    have hr : r = false := by rw [Hres.out]; simp; omega
    subst hr
    go_enter Tryd.func67, Tryd.ntmps67
    go_wp2_with fail
    exact bodyPost_ret (v := .bool false) (by simp [results, Tryd.results67, go_sem]) rfl ⟨rfl, hb0⟩
  have t2 : decide (i < 0) = false := by simp; omega
  by_cases g2 : (N : Int) ≤ i
  · have t3 : decide ((N : Int) ≤ i) = true := by simp; omega
    have hr : r = false := by rw [Hres.out]; simp; omega
    subst hr
    go_enter Tryd.func67, Tryd.ntmps67
    go_wp2_with fail
    exact bodyPost_ret (v := .bool false) (by simp [results, Tryd.results67, go_sem]) rfl ⟨rfl, hb0⟩
  have t3 : decide ((N : Int) ≤ i) = false := by simp; omega
  obtain ⟨I, rfl⟩ : ∃ I : Nat, i = I := ⟨i.toNat, by omega⟩
  have hr : r = decide (upT (fun j => l.getD j Ot.zeroD) n I leaf = root) := by
    rw [Hres.out]
    have : ((0 : Int) ≤ I ∧ (I : Int) < N) := by omega
    simp [this]
  have Hr := Lib.hid hr; clear hr
  go_enter Tryd.func67, Tryd.ntmps67
  go_wp2_with fail
  generalize hW : (w.alloc (.cells #[.int .u32 root.a.toNat, .int .u32 root.b.toNat, .int .u32 root.c.toNat, .int .u32 root.d.toNat] 24)).alloc (.cells #[.int .u32 leaf.a.toNat, .int .u32 leaf.b.toNat, .int .u32 leaf.c.toNat, .int .u32 leaf.d.toNat] 24) = W at hb0
  have ha0 : Arr W w.heap.size 4 (fnOf root) := by subst hW; exact (Arr.new w 4 (fnOf root) 24 _ rfl).alloc (by simp) _
  have hl0 : Arr W (w.heap.size + 1) 4 (fnOf leaf) := by subst hW; exact Arr.new' (w.alloc _) (w.heap.size + 1) 4 (fnOf leaf) 24 _ (by simp) rfl
  have ht0 := ht.below hb0
  clear hW
  refine (Hclone.out W (Hv.out.keep hb0)).mono ?_
  rintro e w1 ⟨v1, rfl, hb1, hv1⟩
  have ha1 := ha0.keep hb1 (by decide)
  have hl1 := hl0.keep hb1 (by decide)
  have ht1 := ht0.below hb1
  have hb2 := hb0.trans (hb1.mono hb0.size)
  obtain ⟨A1, c1, rfl, k1, k2, _, k4⟩ := hv1
  rw [Hn.out] at k1 k4
  rw [Hn.out]
  have hs1 : w.heap.size + 1 < w1.heap.size := hl1.lt (by decide)
  have hs2 : w.heap.size < w1.heap.size := by omega
  obtain ⟨p0, p1, p2, p3⟩ := hl1.dg
  have Ha1 := Lib.hid ha1; have Hl1 := Lib.hid hl1; have Ht1 := Lib.hid ht1; have Hb2 := Lib.hid hb2; have K4 := Lib.hid k4
  clear ha1 hl1 ht1 hb2 k4 hb0 hb1 ha0 hl0 ht0
  go_wp2_with fail
  have hbs : Below w1.heap.size w1 (w1.alloc (.cells #[.slice A1 n c1, .bool true] 100)) := (Below.refl _ _).alloc (Nat.le_refl _) _
  have hst : Stk (w1.alloc (.cells #[.slice A1 n c1, .bool true] 100)) w1.heap.size (.slice A1 n c1) := ⟨World.cell?_alloc_new _ _ _ 0, World.cell?_alloc_new _ _ _ 1, World.frozen?_alloc_new w1 _ _ 0, World.frozen?_alloc_new w1 _ _ 1⟩
  have hups : UpS (fun j => l.getD j Ot.zeroD) w1.heap.size n A1 (w1.alloc (.cells #[.slice A1 n c1, .bool true] 100)) := by
    intro hp
    obtain ⟨b, off, rfl, hc⟩ := K4.out hp
    have hbl := (hc 0 hp).lt
    exact ⟨b, off, rfl, by omega, fun j hj => (hc j hj).below hbs (hc j hj).lt⟩
  have ha2 := Ha1.out.keep hbs (by decide)
  have ht2 := Ht1.out.below hbs
  have hb3 := Hb2.out.trans (hbs.mono Hb2.out.size)
  have hw2 : w1.heap.size < (w1.alloc (.cells #[.slice A1 n c1, .bool true] 100)).heap.size := by simp
  clear p0 p1 p2 p3 hbs
  generalize w1.alloc (.cells #[.slice A1 n c1, .bool true] 100) = w2 at *
  refine (Hup.out w1.heap.size (by omega) A1 c1 k2 k1 I leaf w2 (by omega) ht2 hst hups).mono ?_
  rintro e w3 ⟨rfl, hbt, hst3⟩
  have ha3 := ha2.but hbt (by omega) (by omega)
  have hb4 : Below w.heap.size w w3 := hb3.trans (hbt.below (by omega) hb3.size)
  have hw3 : w1.heap.size < w3.heap.size := hst3.lt
  clear hst hups ha2 ht2 hb3 hbt
  generalize hy : upT (fun j => l.getD j Ot.zeroD) n I leaf = y at *
  have hr3 : decide (y = root) = r := by rw [Hr.out]
  have Hr3 := Lib.hid hr3
  have hq := dg_eql y root
  rw [hr3] at hq
  clear hy hr3
  have hz1 : w.heap.size < w3.heap.size := by omega
  have hz2 : w.heap.size ≠ w3.heap.size := by omega
  have hz3 : w1.heap.size ≠ w3.heap.size := by omega
  obtain ⟨q0, q1, q2, q3⟩ := ha3.dg
  have hst4 := hst3.keep ((Below.refl _ _).alloc (Nat.le_refl _) (.cells #[.int .u32 y.a.toNat, .int .u32 y.b.toNat, .int .u32 y.c.toNat, .int .u32 y.d.toNat] 24))
  have Hst4 := Lib.hid hst4; have Hb4 := Lib.hid hb4
  clear hst4 hst3 ha3 hb4
  go_wp2_with fail
  refine (done_any _ _ _ _ Hst4.out).mono ?_
  rintro e w5 ⟨rfl, rfl⟩
  go_wp2_with fail
  exact bodyPost_ret (v := .bool r) (by simp [results, Tryd.results67, go_sem]) rfl ⟨rfl, Hb4.out.alloc Hb4.out.size _⟩
end Go.Proofs.YtpodfmnnabepaaaDoor

namespace Go.Proofs.YtpodfmnnabepaaaDoor
open Go.RowKit
open Ot (Dg)
/-- Does a signature hold? -/
noncomputable def kchk (p m : Dg) (i : Int) (one path : List Dg) : Bool := decide (path.length ≤ 4) && (decide (one.length = 35) && mchk p i (Ot.reachK pair m one) path)
theorem PSt.drew {w W : World} {p k : Dg} {B1 B2 B3 : Nat} {i : Int} {u : Value} {path : List Dg} (h1 : Arr W B1 4 (fnOf p)) (h2 : W.cell? ⟨B2, 0, none⟩ = some (.int .i64 i)) (h3 : W.cell? ⟨B2, 2, none⟩ = some u) (h4 : Arr W B3 4 (fnOf k)) (h5 : Tn W) (h6 : Below w.heap.size w W) (h7 : PathAt W u path) :
    Arr W.drew B1 4 (fnOf p) ∧ W.drew.cell? ⟨B2, 0, none⟩ = some (.int .i64 i) ∧ W.drew.cell? ⟨B2, 2, none⟩ = some u ∧ Arr W.drew B3 4 (fnOf k) ∧ Tn W.drew ∧ Below w.heap.size w W.drew ∧ PathAt W.drew u path := ⟨h1, h2, h3, h4, h5, h6.drew, h7⟩
def sgV (i : Int) (v p : Value) : Value := .agg #[.int .i64 i, v, p]
set_option maxRecDepth 100000 in
set_option maxHeartbeats 4000000 in
theorem kcheck_any (p m : Dg) (i : Int) (v u : Value) (one path : List Dg) (w : World) (ht : Tn w) (hv : SigAt w v one) (hu : PathAt w u path) :
    Calls Tryd.prog 58 #[dgv p, dgv m, sgV i v u] w fun e w' => e = .returned (.bool (kchk p m i one path)) ∧ Below w.heap.size w w' := by
  obtain ⟨A, c, hue, hlc, hc2, _⟩ := id hu
  obtain ⟨A', c', hve, hlen, _⟩ := id hv
  have hres : kchk p m i one path = (decide (path.length ≤ 4) && (decide (one.length = 35) && mchk p i (Ot.reachK pair m one) path)) := rfl
  generalize kchk p m i one path = r at *
  unfold sgV
  by_cases g1 : (4 : Int) < path.length
  · have t1 : decide ((4 : Int) < path.length) = true := by simp; omega
    have hr : r = false := by rw [hres]; simp; omega
    subst hr
    have Hres := Lib.hid hres; have Hu := Lib.hid hu; have Hv := Lib.hid hv; clear hres hu hv
    subst hue hve
    go_enter Tryd.func58, Tryd.ntmps58
    go_wp2_with fail
    exact bodyPost_ret (v := .bool false) (by simp [results, Tryd.results58, go_sem]) rfl ⟨rfl, (((Below.refl _ _).alloc (Nat.le_refl _) _).alloc (by simp) _).alloc (by simp; omega) _⟩
  have t1 : decide ((4 : Int) < path.length) = false := by simp; omega
  have hl4 : path.length ≤ 4 := by omega
  have Hu := Lib.hid hu; have Hv := Lib.hid hv; have Hres := Lib.hid hres; clear hres hu hv
  subst hue hve
  go_enter Tryd.func58, Tryd.ntmps58
  go_wp2_with fail
  generalize hW : ((w.alloc (.cells #[.int .u32 p.a.toNat, .int .u32 p.b.toNat, .int .u32 p.c.toNat, .int .u32 p.d.toNat] 24)).alloc (.cells #[.int .u32 m.a.toNat, .int .u32 m.b.toNat, .int .u32 m.c.toNat, .int .u32 m.d.toNat] 24)).alloc (.cells #[.int .i64 i, .slice A' one.length c', .slice A path.length c] 57) = W
  have hb0 : Below w.heap.size w W := by subst hW; exact (((Below.refl _ _).alloc (Nat.le_refl _) _).alloc (by simp) _).alloc (by simp; omega) _
  have hp0 : Arr W w.heap.size 4 (fnOf p) := by subst hW; exact ((Arr.new w 4 (fnOf p) 24 _ rfl).alloc (by simp) _).alloc (by simp; omega) _
  have hsz0 : W.heap.size = w.heap.size + 3 := by subst hW; simp
  have hg0 : W.cell? ⟨w.heap.size + 1 + 1, 0, none⟩ = some (.int .i64 i) := by subst hW; exact World.cell?_alloc_at _ _ _ _ (by simp)
  have hg2 : W.cell? ⟨w.heap.size + 1 + 1, 2, none⟩ = some (.slice A path.length c) := by subst hW; exact World.cell?_alloc_at _ _ _ _ (by simp)
  clear hW
  have ht0 := ht.below hb0
  have hsh : IntKind.i64.wrap ((2 : Int) ^ path.length) = (2 : Int) ^ path.length := by
    generalize path.length = n at *
    obtain rfl | rfl | rfl | rfl | rfl : n = 0 ∨ n = 1 ∨ n = 2 ∨ n = 3 ∨ n = 4 := by omega
    all_goals decide
  have Hsh := Lib.hid hsh; clear hsh
  by_cases h35 : one.length = 35
  · refine (reach_full m _ one h35 W ht0 (Hv.out.below hb0)).mono ?_
    rintro e w1 ⟨rfl, hb1⟩
    have hr : r = mchk p i (Ot.reachK pair m one) path := by rw [Hres.out]; simp [h35, hl4]
    have Hr := Lib.hid hr; clear hr
    generalize Ot.reachK pair m one = k at *
    have hp1 := hp0.keep hb1 (by decide)
    have hg0' := cell_keep hg0 hb1
    have hg2' := cell_keep hg2 hb1
    have ht1 := ht0.below hb1
    have hb2 := hb0.trans (hb1.mono hb0.size)
    have hu1 := Hu.out.keep (hb2.mono (Nat.le_refl _))
    have hs1 : w.heap.size + 3 ≤ w1.heap.size := by have := hb1.size; omega
    clear hp0 hg0 hg2 ht0 hb0 hb1
    have Hp1 := Lib.hid hp1; have Hg0 := Lib.hid hg0'; have Hg2 := Lib.hid hg2'; have Ht1 := Lib.hid ht1; have Hb2 := Lib.hid hb2; have Hu1 := Lib.hid hu1
    clear hp1 hg0' hg2' ht1 hb2 hu1
    go_upto_region 4 with fail
    have hbx : Below w1.heap.size w1 (w1.alloc (.cells #[.int .u32 k.a.toNat, .int .u32 k.b.toNat, .int .u32 k.c.toNat, .int .u32 k.d.toNat] 24)) := (Below.refl _ _).alloc (Nat.le_refl _) _
    have hb3 := Hb2.out.trans (hbx.mono Hb2.out.size)
    have hp2 := Hp1.out.keep hbx (by decide)
    have hg02 := cell_keep Hg0.out hbx
    have hg22 := cell_keep Hg2.out hbx
    have hk2 := Arr.new w1 4 (fnOf k) 24 #[.int .u32 k.a.toNat, .int .u32 k.b.toNat, .int .u32 k.c.toNat, .int .u32 k.d.toNat] rfl
    have ht2 := Ht1.out.below hbx
    have hu2 := Hu1.out.keep hbx
    have hS1 := PSt.drew hp2 hg02 hg22 hk2 ht2 hb3 hu2
    clear hbx hb3 hp2 hg02 hg22 hk2 ht2 hu2
    refine wp_region_invG (fun wx => Arr wx w.heap.size 4 (fnOf p) ∧ wx.cell? ⟨w.heap.size + 1 + 1, 0, none⟩ = some (.int .i64 i) ∧ wx.cell? ⟨w.heap.size + 1 + 1, 2, none⟩ = some (.slice A path.length c) ∧ Arr wx w1.heap.size 4 (fnOf k) ∧ Tn wx ∧ Below w.heap.size w wx ∧ PathAt wx (.slice A path.length c) path) (fun j v w' => match j with | 0 => v = .bool true | 1 => v = .bool true | 2 => v = dgv p | 3 => v = .pointer (some ⟨w.heap.size + 1 + 1, 2, none⟩) | 4 => v = (.slice A path.length c) | 5 => v = .int .i64 (path.length : Int) | 6 => v = .int .i64 (2 ^ path.length : Nat) | 7 => v = .pointer (some ⟨w.heap.size + 1 + 1, 0, none⟩) | 8 => v = .int .i64 i | 9 => v = dgv k | 10 => v = .pointer (some ⟨w.heap.size + 1 + 1, 2, none⟩) | 11 => v = (.slice A path.length c) | 12 => PathAt w' v path | 13 => v = .bool (mchk p i k path) | _ => True) 14 (by kernel_rfl) (by kernel_rfl) hS1 (fun _ _ h hb => ⟨h.1.keep hb (by decide), cell_keep h.2.1 hb, cell_keep h.2.2.1 hb, h.2.2.2.1.keep hb (by decide), h.2.2.2.2.1.below hb, h.2.2.2.2.2.1.trans (hb.mono h.2.2.2.2.2.1.size), h.2.2.2.2.2.2.keep hb⟩) ?_ ?_ ?_
    · rintro (_|_|_|_|_|_|_|_|_|_|_|_|_|_|j) v w1 w2 hb h
      all_goals first | exact h | exact PathAt.keep h hb
    · refine ⟨fun us wx hx hd => ?_, fun us wx hx hd => ?_, fun us wx hx hd => ?_, fun us wx hx hd => ?_, fun us wx hx hd => ?_, fun us wx hx hd => ?_, fun us wx hx hd => ?_, fun us wx hx hd => ?_, fun us wx hx hd => ?_, fun us wx hx hd => ?_, fun us wx hx hd => ?_, fun us wx hx hd => ?_, fun us wx hx hd => ?_, fun us wx hx hd => ?_, trivial⟩
      all_goals simp only [putAll, dstOf, List.getElem?_toArray, List.getElem?_cons_succ, List.getElem?_cons_zero, Option.bind_some]
      all_goals go_frame
      · refine .inl ⟨?_, ?_⟩
        · rfl
        have HX := Lib.hid hx; clear hx
        go_simp
        first | exact Below.refl _ _ | exact ⟨rfl, Below.refl _ _⟩ | exact ⟨by and_intros <;> rfl, Below.refl _ _⟩ | exact ⟨by first | rfl | (congr 1; omega) | omega, Below.refl _ _⟩
      · refine .inl ⟨?_, ?_⟩
        · rfl
        rw [show us 0 = .bool true from hd 0 rfl]
        have HX := Lib.hid hx; clear hx
        go_simp
        first | exact Below.refl _ _ | exact ⟨rfl, Below.refl _ _⟩ | exact ⟨by and_intros <;> rfl, Below.refl _ _⟩ | exact ⟨by first | rfl | (congr 1; omega) | omega, Below.refl _ _⟩
      · refine .inl ⟨?_, ?_⟩
        · rw [show us 1 = .bool true from hd 1 rfl]; rfl
        obtain ⟨c0, c1, c2, c3⟩ := hx.1.dg
        have HX := Lib.hid hx; clear hx
        go_simp
        first | exact Below.refl _ _ | exact ⟨rfl, Below.refl _ _⟩ | exact ⟨by and_intros <;> rfl, Below.refl _ _⟩ | exact ⟨by first | rfl | (congr 1; omega) | omega, Below.refl _ _⟩
      · refine .inl ⟨?_, ?_⟩
        · rw [show us 1 = .bool true from hd 1 rfl]; rfl
        have HX := Lib.hid hx; clear hx
        go_simp
        first | exact Below.refl _ _ | exact ⟨rfl, Below.refl _ _⟩ | exact ⟨by and_intros <;> rfl, Below.refl _ _⟩ | exact ⟨by first | rfl | (congr 1; omega) | omega, Below.refl _ _⟩
      · refine .inl ⟨?_, ?_⟩
        · rw [show us 1 = .bool true from hd 1 rfl]; rfl
        rw [show us 3 = .pointer (some ⟨w.heap.size + 1 + 1, 2, none⟩) from hd 3 rfl]
        have c0 := hx.2.2.1
        have HX := Lib.hid hx; clear hx
        go_simp
        first | exact Below.refl _ _ | exact ⟨rfl, Below.refl _ _⟩ | exact ⟨by and_intros <;> rfl, Below.refl _ _⟩ | exact ⟨by first | rfl | (congr 1; omega) | omega, Below.refl _ _⟩
      · refine .inl ⟨?_, ?_⟩
        · rw [show us 1 = .bool true from hd 1 rfl]; rfl
        rw [show us 4 = (.slice A path.length c) from hd 4 rfl]
        have HX := Lib.hid hx; clear hx
        go_simp
        first | exact Below.refl _ _ | exact ⟨rfl, Below.refl _ _⟩ | exact ⟨by and_intros <;> rfl, Below.refl _ _⟩ | exact ⟨by first | rfl | (congr 1; omega) | omega, Below.refl _ _⟩
      · refine .inl ⟨?_, ?_⟩
        · rw [show us 1 = .bool true from hd 1 rfl]; rfl
        rw [show us 5 = .int .i64 (path.length : Int) from hd 5 rfl]
        have hsh := Hsh.out
        have HX := Lib.hid hx; clear hx
        go_simp
        first | exact Below.refl _ _ | exact ⟨rfl, Below.refl _ _⟩ | exact ⟨by and_intros <;> rfl, Below.refl _ _⟩ | exact ⟨by first | rfl | (congr 1; omega) | omega, Below.refl _ _⟩
      · refine .inl ⟨?_, ?_⟩
        · rw [show us 1 = .bool true from hd 1 rfl]; rfl
        have HX := Lib.hid hx; clear hx
        go_simp
        first | exact Below.refl _ _ | exact ⟨rfl, Below.refl _ _⟩ | exact ⟨by and_intros <;> rfl, Below.refl _ _⟩ | exact ⟨by first | rfl | (congr 1; omega) | omega, Below.refl _ _⟩
      · refine .inl ⟨?_, ?_⟩
        · rw [show us 1 = .bool true from hd 1 rfl]; rfl
        rw [show us 7 = .pointer (some ⟨w.heap.size + 1 + 1, 0, none⟩) from hd 7 rfl]
        have c0 := hx.2.1
        have HX := Lib.hid hx; clear hx
        go_simp
        first | exact Below.refl _ _ | exact ⟨rfl, Below.refl _ _⟩ | exact ⟨by and_intros <;> rfl, Below.refl _ _⟩ | exact ⟨by first | rfl | (congr 1; omega) | omega, Below.refl _ _⟩
      · refine .inl ⟨?_, ?_⟩
        · rw [show us 1 = .bool true from hd 1 rfl]; rfl
        obtain ⟨c0, c1, c2, c3⟩ := hx.2.2.2.1.dg
        have HX := Lib.hid hx; clear hx
        go_simp
        first | exact Below.refl _ _ | exact ⟨rfl, Below.refl _ _⟩ | exact ⟨by and_intros <;> rfl, Below.refl _ _⟩ | exact ⟨by first | rfl | (congr 1; omega) | omega, Below.refl _ _⟩
      · refine .inl ⟨?_, ?_⟩
        · rw [show us 1 = .bool true from hd 1 rfl]; rfl
        have HX := Lib.hid hx; clear hx
        go_simp
        first | exact Below.refl _ _ | exact ⟨rfl, Below.refl _ _⟩ | exact ⟨by and_intros <;> rfl, Below.refl _ _⟩ | exact ⟨by first | rfl | (congr 1; omega) | omega, Below.refl _ _⟩
      · refine .inl ⟨?_, ?_⟩
        · rw [show us 1 = .bool true from hd 1 rfl]; rfl
        rw [show us 10 = .pointer (some ⟨w.heap.size + 1 + 1, 2, none⟩) from hd 10 rfl]
        have c0 := hx.2.2.1
        have HX := Lib.hid hx; clear hx
        go_simp
        first | exact Below.refl _ _ | exact ⟨rfl, Below.refl _ _⟩ | exact ⟨by and_intros <;> rfl, Below.refl _ _⟩ | exact ⟨by first | rfl | (congr 1; omega) | omega, Below.refl _ _⟩
      · refine .inl ⟨?_, ?_⟩
        · rw [show us 1 = .bool true from hd 1 rfl]; rfl
        rw [show us 11 = (.slice A path.length c) from hd 11 rfl]
        go_simp
        refine (clone_any _ path _ hx.2.2.2.2.2.2 (by omega)).mono ?_
        rintro e w1 ⟨v1, rfl, hb1, hv1⟩
        exact ⟨_, rfl, hv1, hb1⟩
      · refine .inl ⟨?_, ?_⟩
        · rw [show us 1 = .bool true from hd 1 rfl]; rfl
        rw [show us 2 = dgv p from hd 2 rfl, show us 6 = .int .i64 (2 ^ path.length : Nat) from hd 6 rfl, show us 8 = .int .i64 i from hd 8 rfl, show us 9 = dgv k from hd 9 rfl]
        have h12 : PathAt wx (us 12) path := hd 12 rfl
        go_simp
        refine (mcheck_any p k i (us 12) path _ hx.2.2.2.2.1 h12 hl4).mono ?_
        rintro e w1 ⟨rfl, hb1⟩
        exact ⟨_, rfl, rfl, hb1⟩
    rintro us W1 ⟨_, _, _, _, _, hb5, _⟩ hF
    have e1 : us 1 = .bool true := hF 1 (by decide)
    have e13 : us 13 = .bool (mchk p i k path) := hF 13 (by decide)
    simp only [putAll, dstOf, List.getElem?_toArray, List.getElem?_cons_succ, List.getElem?_cons_zero, Option.bind_some, List.drop_succ_cons, List.drop_zero]
    rw [e1, e13, ← Hr.out]
    clear hF e1 e13
    go_frame
    go_wp2_with fail
    exact bodyPost_ret (v := .bool r) (by simp [results, Tryd.results58, go_sem]) rfl ⟨rfl, hb5⟩
  · refine (reach_short m _ one h35 W (Hv.out.below hb0)).mono ?_
    rintro e w1 ⟨rfl, hb1⟩
    have hr : r = false := by rw [Hres.out]; simp [h35]
    have Hr := Lib.hid hr; clear hr
    have hb2 := hb0.trans (hb1.mono hb0.size)
    clear hp0 hg0 hg2 ht0 hb0 hb1
    go_upto_region 4 with fail
    go_quiet (fail)
    go_wp2_with fail
    exact bodyPost_ret (v := .bool false) (by simp [results, Tryd.results58, go_sem]) rfl ⟨by rw [Hr.out], pw_drewN (hb2.alloc hb2.size _) _⟩
end Go.Proofs.YtpodfmnnabepaaaDoor

namespace Qu
/-- The places below n where p holds. -/
def places (p : Nat → Bool) (n : Nat) : List Nat := (List.range n).filter p
theorem places_zero (p : Nat → Bool) : places p 0 = [] := rfl
theorem places_succ (p : Nat → Bool) (n : Nat) : places p (n + 1) = if p n then places p n ++ [n] else places p n := by
  unfold places
  rw [List.range_succ, List.filter_append]
  by_cases h : p n = true
  · simp [h]
  · simp [h]
theorem places_length (p : Nat → Bool) (n : Nat) : (places p n).length = (List.range n).countP p := (List.countP_eq_length_filter).symm
theorem places_le (p : Nat → Bool) (n : Nat) : (places p n).length ≤ n := by
  have := List.length_filter_le p (List.range n)
  simpa [places] using this
theorem places_mem {p : Nat → Bool} {n i : Nat} : i ∈ places p n ↔ i < n ∧ p i = true := by simp [places]
theorem places_congr {p q : Nat → Bool} {n : Nat} (h : ∀ i, i < n → p i = q i) : places p n = places q n :=
  List.filter_congr fun i hi => h i (List.mem_range.1 hi)
theorem places_sub {p q : Nat → Bool} : ∀ {n : Nat}, (∀ i, i < n → p i = true → q i = true) → (places p n).Sublist (places q n)
  | 0, _ => List.Sublist.refl _
  | n + 1, h => by
    have ih := places_sub (n := n) fun i hi => h i (by omega)
    rw [places_succ, places_succ]
    by_cases hp : p n = true
    · rw [if_pos hp, if_pos (h n (by omega) hp)]
      exact ih.append (List.Sublist.refl _)
    · rw [if_neg hp]
      by_cases hq : q n = true
      · rw [if_pos hq]; exact ih.trans (List.sublist_append_left _ _)
      · rw [if_neg hq]; exact ih
theorem places_mono {p q : Nat → Bool} {n : Nat} (h : ∀ i, i < n → p i = true → q i = true) : (places p n).length ≤ (places q n).length := (places_sub h).length_le
theorem places_both (p q : Nat → Bool) : ∀ n : Nat, (∀ i, i < n → ¬ (p i = true ∧ q i = true)) → (places p n).length + (places q n).length ≤ n
  | 0, _ => by simp [places]
  | n + 1, h => by
    have ih := places_both p q n fun i hi => h i (by omega)
    have hn := h n (by omega)
    rw [places_succ, places_succ]
    by_cases hp : p n = true
    · have hq : ¬ q n = true := fun hq => hn ⟨hp, hq⟩
      rw [if_pos hp, if_neg hq]; simp; omega
    · rw [if_neg hp]
      by_cases hq : q n = true
      · rw [if_pos hq]; simp; omega
      · rw [if_neg hq]; omega
/-- A place in both, where both are many. -/
theorem places_meet {p q : Nat → Bool} {n : Nat} (h : n < (places p n).length + (places q n).length) : ∃ i, i ∈ places p n ∧ i ∈ places q n := by
  apply Classical.byContradiction
  intro hn
  have := places_both p q n fun i hi hpq => hn ⟨i, places_mem.2 ⟨hi, hpq.1⟩, places_mem.2 ⟨hi, hpq.2⟩⟩
  omega
/-- One that isn't marked, where less are marked than there are. -/
theorem places_honest {p q : Nat → Bool} {n : Nat} (h : (places q n).length < (places p n).length) : ∃ i, i ∈ places p n ∧ q i = false := by
  apply Classical.byContradiction
  intro hn
  have := places_mono (p := p) (q := q) (n := n) fun i hi hp => by
    cases hq : q i with
    | true => rfl
    | false => exact absurd ⟨i, places_mem.2 ⟨hi, hp⟩, hq⟩ hn
  omega
/-- The greedy search of a list in another. -/
theorem sub_cons {x y : Nat} {a c : List Nat} (h : (x :: a).Sublist (y :: c)) : (y = x → a.Sublist c) ∧ (y ≠ x → (x :: a).Sublist c) := by
  cases h with
  | cons _ h => exact ⟨fun _ => (List.sublist_cons_self _ _).trans h, fun _ => h⟩
  | cons_cons _ h => exact ⟨fun _ => h, fun hn => absurd rfl hn⟩
theorem sub_step {a c : List Nat} {i k : Nat} (h : (a.drop k).Sublist (c.drop i)) (hi : i < c.length) (hk : k < a.length) :
    (c[i]'hi = a[k]'hk → (a.drop (k + 1)).Sublist (c.drop (i + 1))) ∧ (c[i]'hi ≠ a[k]'hk → (a.drop k).Sublist (c.drop (i + 1))) := by
  rw [List.drop_eq_getElem_cons hi, List.drop_eq_getElem_cons hk] at h
  have := sub_cons h
  exact ⟨this.1, fun hn => by rw [List.drop_eq_getElem_cons hk]; exact this.2 hn⟩
theorem sub_end {a c : List Nat} {i k : Nat} (h : (a.drop k).Sublist (c.drop i)) (hi : c.length ≤ i) (hk : k ≤ a.length) : k = a.length := by
  rw [List.drop_eq_nil_of_le hi, List.sublist_nil] at h
  have := congrArg List.length h
  simp at this; omega
/-- The last places, and those but the first of them. -/
theorem places_from (a n : Nat) (h : a ≤ n) : (places (fun i => decide (a ≤ i)) n).length = n - a := by
  induction n with
  | zero => simp [places]
  | succ n ih =>
    rw [places_succ]
    by_cases hn : a ≤ n
    · rw [if_pos (by simpa using hn)]; have := ih hn; simp; omega
    · rw [if_neg (by simpa using hn)]
      have : places (fun i => decide (a ≤ i)) n = [] := by
        apply List.eq_nil_iff_forall_not_mem.2
        intro i hi
        have := places_mem.1 hi
        simp at this; omega
      rw [this]; simp; omega
end Qu

namespace Go.Proofs.YtpodfmnnabepaaaDoor
open Go.RowKit
open Ot (Dg)
/-- A signed message. -/
structure Sg where
  b : Dg
  i : Int
  one : List Dg
  path : List Dg
def zeroSg : Sg := ⟨Ot.zeroD, 0, [], []⟩
noncomputable def sgOk (bd m : Dg) (s : Sg) : Bool := decide (s.b = bd) && kchk bd m s.i s.one s.path
set_option maxRecDepth 100000 in
set_option maxHeartbeats 4000000 in
theorem one_any (bd m : Dg) (s : Sg) (v u : Value) (pb pm : Nat) (w : World) (ht : Tn w) (hb : Arr w pb 4 (fnOf bd)) (hm : Arr w pm 4 (fnOf m)) (hv : SigAt w v s.one) (hu : PathAt w u s.path) :
    Calls Tryd.prog 57 #[sgdV s.b s.i v u, .pointer (some ⟨pb, 0, none⟩), .pointer (some ⟨pm, 0, none⟩)] w fun e w' => e = .returned (.bool (sgOk bd m s)) ∧ Below w.heap.size w w' := by
  obtain ⟨x, i, one, path⟩ := s
  simp only at hv hu
  unfold sgdV
  have hres : sgOk bd m ⟨x, i, one, path⟩ = (decide (x = bd) && kchk bd m i one path) := rfl
  generalize sgOk bd m ⟨x, i, one, path⟩ = r at *
  obtain ⟨b0, b1, b2, b3⟩ := hb.dg
  obtain ⟨m0, m1, m2, m3⟩ := hm.dg
  have hbl : pb < w.heap.size := hb.lt (by decide)
  have hml : pm < w.heap.size := hm.lt (by decide)
  have hq := dg_eql x bd
  have hba : Below w.heap.size w (w.alloc (.cells #[.int .u32 x.a.toNat, .int .u32 x.b.toNat, .int .u32 x.c.toNat, .int .u32 x.d.toNat, .int .i64 i, v, u] 59)) := (Below.refl _ _).alloc (Nat.le_refl _) _
  have hv1 := hv.below hba
  have hu1 := hu.keep hba
  have ht1 := ht.below hba
  have Hv := Lib.hid hv1; have Hu := Lib.hid hu1; have Ht := Lib.hid ht1; have Hba := Lib.hid hba; have Hres := Lib.hid hres
  clear hv hu hv1 hu1 ht ht1 hba hres hb hm
  have hbn : pb ≠ w.heap.size := by omega
  have hmn : pm ≠ w.heap.size := by omega
  by_cases he : x = bd
  · have hde : decide (x = bd) = true := by simp [he]
    rw [hde] at hq
    have hr : r = kchk bd m i one path := by rw [Hres.out, hde]; rfl
    have Hr := Lib.hid hr
    clear he hde hr
    go_enter Tryd.func57, Tryd.ntmps57
    go_wp2_with fail
    refine (kcheck_any bd m i v u one path _ Ht.out Hv.out Hu.out).mono ?_
    rintro e w1 ⟨rfl, hb1⟩
    have hb2 := Hba.out.trans (hb1.mono Hba.out.size)
    rw [← Hr.out]
    go_wp2_with fail
    exact bodyPost_ret (v := .bool r) (by simp [results, Tryd.results57, go_sem]) rfl ⟨rfl, hb2⟩
  · have hde : decide (x = bd) = false := by simp [he]
    rw [hde] at hq
    have hr : r = false := by rw [Hres.out, hde]; rfl
    have Hr := Lib.hid hr
    clear he hde hr
    go_enter Tryd.func57, Tryd.ntmps57
    go_wp2_with fail
    exact bodyPost_ret (v := .bool false) (by simp [results, Tryd.results57, go_sem]) rfl ⟨by rw [Hr.out], Hba.out⟩
/-- A signed message in memory. -/
def SgAt (w : World) (b o : Nat) (s : Sg) : Prop := DgAt w b o s.b ∧ w.cell? ⟨b, o + 4, none⟩ = some (.int .i64 s.i) ∧ ∃ v u, w.cell? ⟨b, o + 5, none⟩ = some v ∧ w.cell? ⟨b, o + 6, none⟩ = some u ∧ SigAt w v s.one ∧ PathAt w u s.path
theorem SgAt.keep {w w' : World} {b o : Nat} {s : Sg} (h : SgAt w b o s) (hb : Below w.heap.size w w') : SgAt w' b o s := by
  obtain ⟨h1, h2, v, u, h3, h4, h5, h6⟩ := h
  exact ⟨h1.below hb h1.lt, cell_keep h2 hb, v, u, cell_keep h3 hb, cell_keep h4 hb, h5.below hb, h6.keep hb⟩
def SgsAt (w : World) (v : Value) (L : List Sg) : Prop := ∃ A c, v = .slice A L.length c ∧ L.length ≤ 9223372036854775807 ∧ (0 < L.length → ∃ b off, A = some ⟨b, off, none⟩ ∧ ∀ i, i < L.length → SgAt w b (off + i * 7) (L.getD i zeroSg))
theorem SgsAt.keep {w w' : World} {v : Value} {L : List Sg} (h : SgsAt w v L) (hb : Below w.heap.size w w') : SgsAt w' v L := by
  obtain ⟨A, c, rfl, h1, h2⟩ := h
  refine ⟨A, c, rfl, h1, fun hp => ?_⟩
  obtain ⟨b, off, rfl, hc⟩ := h2 hp
  exact ⟨b, off, rfl, fun i hi => (hc i hi).keep hb⟩
theorem take_succ_s (l : List Sg) (k : Nat) (h : k < l.length) : l.take (k + 1) = l.take k ++ [l.getD k zeroSg] := by
  rw [List.take_add_one, List.getElem?_eq_getElem h, List.getD_eq_getElem?_getD, List.getElem?_eq_getElem h]; rfl
theorem any_take (l : List Sg) (p : Sg → Bool) (k : Nat) (h : k < l.length) (hp : p (l.getD k zeroSg) = true) : l.any p = true := by
  rw [List.any_eq_true]
  exact ⟨_, by rw [List.getD_eq_getElem?_getD, List.getElem?_eq_getElem h]; exact List.getElem_mem h, hp⟩
/-- The closure's value. -/
def fnV (pb pm : Nat) : Value := .func (.func 57) #[] #[.pointer (some ⟨pb, 0, none⟩), .pointer (some ⟨pm, 0, none⟩)]
set_option maxRecDepth 100000 in
set_option maxHeartbeats 4000000 in
theorem ixf_any (bd m : Dg) (L : List Sg) (v : Value) (pb pm : Nat) (w : World) (ht : Tn w) (hb : Arr w pb 4 (fnOf bd)) (hm : Arr w pm 4 (fnOf m)) (hv : SgsAt w v L) :
    Calls Tryd.prog 66 #[v, fnV pb pm] w fun e w' => ∃ n : Int, e = .returned (.int .i64 n) ∧ decide (0 ≤ n) = L.any (sgOk bd m) ∧ Below w.heap.size w w' := by
  obtain ⟨A, c, rfl, hlen, hcs⟩ := hv
  have Hcs := Lib.hid hcs; clear hcs
  have hcf : ∀ args w, (callFunc 57 args).run Tryd.prog w = .ok (.enter 57 args) w := fun args w => by kernel_rfl
  unfold fnV
  go_enter Tryd.func66, Tryd.ntmps66
  go_wp2_with fail
  go_loopw [8] (fun i wr => ∃ k : Nat, k ≤ L.length ∧ i = .int .i64 k ∧ (L.take k).any (sgOk bd m) = false ∧ Below w.heap.size w wr) (fun i wr => L.length - (intOf i).toNat)
  case atStart => exact ⟨0, by omega, rfl, by simp, Below.refl _ _⟩
  case round =>
    obtain ⟨k, hk, rfl, hno, hbr⟩ := hrel
    by_cases hlt : k < L.length
    · obtain ⟨b, off, rfl, hc⟩ := Hcs.out (by omega)
      have hsg := (hc k hlt).keep hbr
      have hts := take_succ_s L k hlt
      have hat := any_take L (sgOk bd m) k hlt
      generalize L.getD k zeroSg = s at *
      obtain ⟨⟨s0, s1, s2, s3⟩, s4, v, u, s5, s6, hv, hu⟩ := hsg
      have hk1 : (k : Int) < L.length := by omega
      have hk0 : (0 : Int) ≤ (k : Int) := by omega
      have hd : decide ((k : Int) < L.length) = true := by simp; omega
      have Hts := Lib.hid hts; have Hno := Lib.hid hno; have Hat := Lib.hid hat; have Hc := Lib.hid hc; have Hlen := Lib.hid hlen; have Hlt := Lib.hid hlt; have Hk := Lib.hid hk; have Hv := Lib.hid hv; have Hu := Lib.hid hu; have Hbr := Lib.hid hbr
      have Hb := Lib.hid hb; have Hm := Lib.hid hm
      clear hts hno hat hc hlen hlt hk hv hu hb hm hbr
      have q1 : IntKind.i64.wrap ((k : Int) + 1) = (k : Int) + 1 := IntWalk.i64_in _ (by have := Hlt.out; have := Hlen.out; omega)
      go_wp2_with fail
      refine (one_any bd m s v u pb pm _ (ht.below Hbr.out) (Hb.out.keep Hbr.out (by decide)) (Hm.out.keep Hbr.out (by decide)) Hv.out Hu.out).mono ?_
      rintro e w1 ⟨rfl, hb1⟩
      have hb2 := Hbr.out.trans (hb1.mono Hbr.out.size)
      clear hb1
      by_cases hp : sgOk bd m s = true
      · rw [hp]
        have hall := Hat.out hp
        have Hall := Lib.hid hall; clear hall hp
        go_wp2_with fail
        exact bodyPost_ret (v := .int .i64 (k : Int)) (by simp [results, Tryd.results66, go_sem]) rfl ⟨k, rfl, by rw [Hall.out]; simp, hb2⟩
      · have hp' : sgOk bd m s = false := by simpa using hp
        rw [hp']
        have Hp := Lib.hid hp'; clear hp hp'
        go_wp2_with fail
        refine ⟨⟨k + 1, Hlt.out, by simp, ?_, hb2⟩, ?_⟩
        · rw [Hts.out, List.any_append, Hno.out]
          simp [Hp.out]
        · have := Hlt.out
          simp [intOf]; omega
    · obtain rfl : k = L.length := by omega
      rw [List.take_length] at hno
      have Hno := Lib.hid hno; clear hno
      go_wp2_with fail
      exact bodyPost_ret (v := .int .i64 (-1)) (by simp [results, Tryd.results66, go_sem]) rfl ⟨-1, rfl, by rw [Hno.out]; simp, hbr⟩
set_option maxHeartbeats 4000000 in
theorem ctf_any (bd m : Dg) (L : List Sg) (v : Value) (pb pm : Nat) (w : World) (ht : Tn w) (hb : Arr w pb 4 (fnOf bd)) (hm : Arr w pm 4 (fnOf m)) (hv : SgsAt w v L) :
    Calls Tryd.prog 56 #[v, fnV pb pm] w fun e w' => e = .returned (.bool (L.any (sgOk bd m))) ∧ Below w.heap.size w w' := by
  go_enter Tryd.func56, Tryd.ntmps56
  go_wp2_with fail
  refine (ixf_any bd m L v pb pm w ht hb hm hv).mono ?_
  rintro e w1 ⟨n, rfl, hn, hb1⟩
  clear hb hm hv
  generalize hq : L.any (sgOk bd m) = q at *
  have Hq := Lib.hid hq; clear hq
  go_wp2_with fail
  exact bodyPost_ret (v := .bool q) (by simp [results, Tryd.results56, go_sem]) rfl ⟨by rw [Hq.out], hb1⟩
/-- The outer closure's value. -/
def fnW (pl pm : Nat) : Value := .func (.func 55) #[] #[.pointer (some ⟨pl, 0, none⟩), .pointer (some ⟨pm, 0, none⟩)]
set_option maxHeartbeats 4000000 in
theorem agr_any (bd m : Dg) (L : List Sg) (v : Value) (pl pm : Nat) (w : World) (ht : Tn w) (hm : Arr w pm 4 (fnOf m)) (hpl : w.cell? ⟨pl, 0, none⟩ = some v) (hv : SgsAt w v L) :
    Calls Tryd.prog 55 #[dgv bd, .pointer (some ⟨pl, 0, none⟩), .pointer (some ⟨pm, 0, none⟩)] w fun e w' => e = .returned (.bool (L.any (sgOk bd m))) ∧ Below w.heap.size w w' := by
  have hmf : ∀ (fn : Fn) (first cap : Array Value) (w : World), (Instr.makeFunc fn first cap).run Tryd.prog w = .ok (.func fn first cap) w := fun _ _ _ _ => rfl
  have hba : Below w.heap.size w (w.alloc (.cells #[.int .u32 bd.a.toNat, .int .u32 bd.b.toNat, .int .u32 bd.c.toNat, .int .u32 bd.d.toNat] 24)) := (Below.refl _ _).alloc (Nat.le_refl _) _
  have hbd := Arr.new w 4 (fnOf bd) 24 #[.int .u32 bd.a.toNat, .int .u32 bd.b.toNat, .int .u32 bd.c.toNat, .int .u32 bd.d.toNat] rfl
  have ht1 := ht.below hba
  have hm1 := hm.keep hba (by decide)
  have hv1 := hv.keep hba
  have hpl1 : pl < w.heap.size := World.block_lt_of_cell? w _ hpl
  obtain ⟨A, c, hve, _, _⟩ := id hv
  have Hbd := Lib.hid hbd; have Hm := Lib.hid hm1; have Hv := Lib.hid hv1; have Hba := Lib.hid hba
  clear hbd hm hm1 hv hv1 hba
  subst hve
  go_enter Tryd.func55, Tryd.ntmps55
  go_wp2_with fail
  refine (ctf_any bd m L _ w.heap.size pm _ ht1 Hbd.out Hm.out Hv.out).mono ?_
  rintro e w1 ⟨rfl, hb1⟩
  have hb2 := Hba.out.trans (hb1.mono Hba.out.size)
  generalize hq : L.any (sgOk bd m) = q at *
  have Hq := Lib.hid hq; clear hq
  go_wp2_with fail
  exact bodyPost_ret (v := .bool q) (by simp [results, Tryd.results55, go_sem]) rfl ⟨by rw [Hq.out], hb2⟩
end Go.Proofs.YtpodfmnnabepaaaDoor

namespace Go.Proofs.YtpodfmnnabepaaaDoor
open Go.RowKit
open Ot (Dg)
/-- Does the builder of a place agree? -/
noncomputable def agN (bs : List Dg) (m : Dg) (L : List Sg) (i : Nat) : Bool := L.any (sgOk (bs.getD i Ot.zeroD) m)
noncomputable def whoN (bs : List Dg) (m : Dg) (L : List Sg) : List Nat := Qu.places (agN bs m L) bs.length
theorem ivs_append (l : List Nat) (k : Nat) : ivs (l ++ [k]) = ivs l ++ [.int .i64 (k : Nat)] := by simp [ivs]
set_option maxRecDepth 100000 in
set_option maxHeartbeats 4000000 in
theorem who_any (bs : List Dg) (need : Int) (m : Dg) (L : List Sg) (bv lv : Value) (w : World) (ht : Tn w) (hbs : SigAt w bv bs) (hv : SgsAt w lv L) (hcap : Capd bv) (hn : bs.length ≤ 100000) :
    Calls Tryd.prog 40 #[polV bv need, dgv m, lv] w fun e w' => ∃ v, e = .returned v ∧ Below w.heap.size w w' ∧ w'.ownsRow w.heap.size 3 1 v (whoN bs m L).length (ivs (whoN bs m L)) := by
  obtain ⟨i0, hi, hz0, hz1, hz2⟩ := info_parts Tryd.info3
  have hmf : ∀ (fn : Fn) (first cap : Array Value) (w : World), (Instr.makeFunc fn first cap).run Tryd.prog w = .ok (.func fn first cap) w := fun _ _ _ _ => rfl
  have hcf : ∀ args w, (callFunc 55 args).run Tryd.prog w = .ok (.enter 55 args) w := fun args w => by kernel_rfl
  obtain ⟨A, c, rfl, hlen, hcs⟩ := id hbs
  obtain ⟨A', n', c', e, hc1, hc2⟩ := hcap
  cases e
  obtain ⟨B, d, rfl, hlL, _⟩ := id hv
  generalize hW : ((w.alloc (.cells #[.slice A bs.length c, .int .i64 need] 47)).alloc (.cells #[.int .u32 m.a.toNat, .int .u32 m.b.toNat, .int .u32 m.c.toNat, .int .u32 m.d.toNat] 24)).alloc (.cells #[.slice B L.length d] 50) = W
  have hb0 : Below w.heap.size w W := by subst hW; exact (((Below.refl _ _).alloc (Nat.le_refl _) _).alloc (by simp) _).alloc (by simp; omega) _
  have hm0 : Arr W (w.heap.size + 1) 4 (fnOf m) := by subst hW; exact (Arr.new' (w.alloc _) (w.heap.size + 1) 4 (fnOf m) 24 _ (by simp) rfl).alloc (by simp) _
  have hp0 : W.cell? ⟨w.heap.size, 0, none⟩ = some (.slice A bs.length c) := by
    subst hW
    exact cell_keep (cell_keep (World.cell?_alloc_new _ _ _ 0) ((Below.refl _ _).alloc (Nat.le_refl _) _)) ((Below.refl _ _).alloc (Nat.le_refl _) _)
  have hl0 : W.cell? ⟨w.heap.size + 1 + 1, 0, none⟩ = some (.slice B L.length d) := by subst hW; exact World.cell?_alloc_at _ _ _ _ (by simp)
  have hs0 : W.heap.size = w.heap.size + 3 := by subst hW; simp
  have hbW := hbs.below hb0
  have hvW := hv.keep hb0
  have htW := ht.below hb0
  unfold polV
  go_enter Tryd.func40, Tryd.ntmps40
  go_wp2_with fail
  have Hlen := Lib.hid hlen; have Hcs := Lib.hid hcs; have HbW := Lib.hid hbW; have HvW := Lib.hid hvW; have HhW := Lib.hid hW; have Hm0 := Lib.hid hm0; have Hp0 := Lib.hid hp0; have Hl0 := Lib.hid hl0; have Hs0 := Lib.hid hs0
  clear hlen hcs hbW hvW hW hm0 hp0 hl0 hs0 hbs hv ht
  go_loopw [8, 15] (fun v i wr => ∃ k : Nat, k ≤ bs.length ∧ i = .int .i64 k ∧ wr.ownsRow W.heap.size 3 1 v (Qu.places (agN bs m L) k).length (ivs (Qu.places (agN bs m L) k)) ∧ Below W.heap.size W wr) (fun _ i _ => bs.length - (intOf i).toNat)
  case atStart => exact ⟨0, by omega, rfl, World.ownsRow_nil _ _ _ _, Below.refl _ _⟩
  case round =>
    obtain ⟨k, hk, rfl, hown, hb⟩ := hrel
    have hbs := hb.size
    by_cases hlt : k < bs.length
    · obtain ⟨b, off, rfl, hbl, hc⟩ := Hcs.out (by omega)
      obtain ⟨s0, s1, s2, s3⟩ := ((hc k hlt).below hb0 hbl).below hb (Nat.lt_of_lt_of_le hbl hb0.size)
      have hps := Qu.places_succ (agN bs m L) k
      have hpl := Qu.places_le (agN bs m L) k
      have hag : agN bs m L k = L.any (sgOk (bs.getD k Ot.zeroD) m) := rfl
      generalize bs.getD k Ot.zeroD = x at *
      have hk1 : (k : Int) < bs.length := by omega
      have hk0 : (0 : Int) ≤ (k : Int) := by omega
      have hd : decide ((k : Int) < bs.length) = true := by simp; omega
      have hba : Below wr.heap.size wr (wr.alloc (.cells #[.int .u32 x.a.toNat, .int .u32 x.b.toNat, .int .u32 x.c.toNat, .int .u32 x.d.toNat] 24)) := (Below.refl _ _).alloc (Nat.le_refl _) _
      have hb1 := hb.trans (hba.mono hbs)
      have ht1 := (htW.below hb).below hba
      have hm1 := (Hm0.out.keep hb (by decide)).keep hba (by decide)
      have hl1 := cell_keep (cell_keep Hl0.out hb) hba
      have hv1 := (HvW.out.keep hb).keep hba
      have hxo := (Arr.new wr 4 (fnOf x) 24 #[.int .u32 x.a.toNat, .int .u32 x.b.toNat, .int .u32 x.c.toNat, .int .u32 x.d.toNat] rfl)
      obtain ⟨x0, x1, x2, x3⟩ := hxo.dg
      have hown1 := own_keep hown hba
      have Hps := Lib.hid hps; have Hag := Lib.hid hag; have Hc := Lib.hid hc; have Hlt := Lib.hid hlt; have Hk := Lib.hid hk
      have q1 : IntKind.i64.wrap ((k : Int) + 1) = (k : Int) + 1 := IntWalk.i64_in _ (by have := Hlen.out; omega)
      have Hpl := Lib.hid hpl; have Hm1 := Lib.hid hm1; have Hl1 := Lib.hid hl1; have Hv1 := Lib.hid hv1; have Hown1 := Lib.hid hown1; have Ht1 := Lib.hid ht1; have Hb1 := Lib.hid hb1
      clear hps hag hc hlt hk hown hb hba hpl hm1 hl1 hv1 hown1 ht1 hb1 htW hxo
      go_wp2_with fail
      refine (agr_any x m L _ (w.heap.size + 1 + 1) (w.heap.size + 1) _ Ht1.out Hm1.out Hl1.out Hv1.out).mono ?_
      rintro e w1 ⟨rfl, hb2⟩
      have hb3 := Hb1.out.trans (hb2.mono Hb1.out.size)
      have hown2 := own_keep Hown1.out hb2
      clear hb2
      rw [← Hag.out]
      by_cases hp : agN bs m L k = true
      · have hps2 := Hps.out
        rw [if_pos hp] at hps2
        rw [hp]
        have Hps2 := Lib.hid hps2; have Hb3 := Lib.hid hb3
        have hpl := Hpl.out
        have hbs3 := hb3.size
        generalize hl : Qu.places (agN bs m L) k = l at *
        clear hps2 hp hb3
        go_wp2_with (at_builtin; refine wpList_append_own _ rfl _ _ 27 rfl W.heap.size 3 i0 (.int .i64 0) 1 8 Tryd.underlying27 hi hz0 hz1 hz2 rfl (by decide) _ _ _ rfl (hown2.alloc _) ⟨w1.heap.size, 0, none⟩ 1 1 [.int .i64 k] rfl rfl ?c1 ?c2 ?c3 ?c4 ?c5 ?_)
        case c1 => exact cell_one_new _ _ _
        case c2 => intro u hu; simp at hu; subst hu; rfl
        case c3 => have := Hlt.out; unfold maxLen; omega
        case c4 => omega
        case c5 => simp; omega
        intro v' w2 hown3 hg1 _
        have hb4 : Below W.heap.size W w2 := (Hb3.out.alloc (by omega) _).grown hg1 (by simp; omega) (fun q hq => by have := (hown2.alloc (.cells #[.int .i64 k] 3)).lt q hq; omega)
        clear hg1 hown2
        go_wp2_with fail
        refine ⟨⟨k + 1, Hlt.out, by simp, ?_, hb4⟩, ?_⟩
        · rw [Hps2.out, ivs_append, List.length_append]
          exact hown3
        · have := Hlt.out
          simp [intOf]; omega
      · have hp' : agN bs m L k = false := by simpa using hp
        have hps2 := Hps.out
        rw [if_neg hp] at hps2
        rw [hp']
        have Hps2 := Lib.hid hps2
        clear hps2 hp hp'
        go_wp2_with fail
        refine ⟨⟨k + 1, Hlt.out, by simp, ?_, hb3⟩, ?_⟩
        · rw [Hps2.out]; exact hown2
        · have := Hlt.out
          simp [intOf]; omega
    · obtain rfl : k = bs.length := by omega
      have hb1 := hb0.trans (hb.mono hb0.size)
      have hown1 := own_base_le hown (show w.heap.size ≤ W.heap.size from hb0.size)
      have hd : decide ((bs.length : Int) < bs.length) = false := by simp
      clear hown
      have Hown1 := Lib.hid hown1; clear hown1
      go_wp2_with fail
      exact bodyPost_ret (v := u8) (by simp [results, Tryd.results40, go_sem]) rfl ⟨_, rfl, hb1, Hown1.out⟩
end Go.Proofs.YtpodfmnnabepaaaDoor

namespace Go.Proofs.YtpodfmnnabepaaaDoor
open Go.RowKit
open Ot (Dg)
theorem own_slice {w : World} {base n size : Nat} {e : TypeId} {v : Value} {xs : List Value} (h : w.ownsRow base e size v n xs) : ∃ A c, v = .slice A n c := by
  rcases h.2 with ⟨rfl, h0⟩ | ⟨g, cap, cur, rfl, hb, hh, h1, h2, _⟩
  · exact ⟨none, 0, by rw [h0]⟩
  · exact ⟨_, _, rfl⟩
noncomputable def holdsN (bs : List Dg) (need : Int) (m : Dg) (L : List Sg) : Bool := rightP bs need && decide (need ≤ ((whoN bs m L).length : Nat))
set_option maxRecDepth 100000 in
set_option maxHeartbeats 4000000 in
theorem qholds_any (bs : List Dg) (need : Int) (m : Dg) (L : List Sg) (bv lv : Value) (w : World) (ht : Tn w) (hbs : SigAt w bv bs) (hv : SgsAt w lv L) (hcap : Capd bv) (hn : bs.length ≤ 100000) :
    Calls Tryd.prog 42 #[polV bv need, dgv m, lv] w fun e w' => e = .returned (.bool (holdsN bs need m L)) ∧ Below w.heap.size w w' := by
  obtain ⟨A, c, rfl, hlen, _⟩ := id hbs
  obtain ⟨B, d, rfl, hlL, _⟩ := id hv
  generalize hres : holdsN bs need m L = res
  have hres2 : res = (rightP bs need && decide (need ≤ ((whoN bs m L).length : Nat))) := hres.symm.trans rfl
  have Hres := Lib.hid hres2
  clear hres hres2
  generalize hW : (w.alloc (.cells #[.slice A bs.length c, .int .i64 need] 47)).alloc (.cells #[.int .u32 m.a.toNat, .int .u32 m.b.toNat, .int .u32 m.c.toNat, .int .u32 m.d.toNat] 24) = W
  have hb0 : Below w.heap.size w W := by subst hW; exact ((Below.refl _ _).alloc (Nat.le_refl _) _).alloc (by simp) _
  have hm0 : Arr W (w.heap.size + 1) 4 (fnOf m) := by subst hW; exact Arr.new' (w.alloc _) (w.heap.size + 1) 4 (fnOf m) 24 _ (by simp) rfl
  have hp0 : W.cell? ⟨w.heap.size, 0, none⟩ = some (.slice A bs.length c) := by
    subst hW; exact cell_keep (World.cell?_alloc_new _ _ _ 0) ((Below.refl _ _).alloc (Nat.le_refl _) _)
  have hp1 : W.cell? ⟨w.heap.size, 1, none⟩ = some (.int .i64 need) := by
    subst hW; exact cell_keep (World.cell?_alloc_new _ _ _ 1) ((Below.refl _ _).alloc (Nat.le_refl _) _)
  have hS1 : W.drew.cell? ⟨w.heap.size, 0, none⟩ = some (.slice A bs.length c) ∧ W.drew.cell? ⟨w.heap.size, 1, none⟩ = some (.int .i64 need) ∧ Arr W.drew (w.heap.size + 1) 4 (fnOf m) ∧ SigAt W.drew (.slice A bs.length c) bs ∧ SgsAt W.drew (.slice B L.length d) L ∧ Tn W.drew ∧ Below w.heap.size w W.drew :=
    ⟨hp0, hp1, hm0, hbs.below hb0.drew, hv.keep hb0.drew, ht.below hb0.drew, hb0.drew⟩
  by_cases hrr : rightP bs need = true
  · have Hr := Lib.hid hrr
    unfold polV
    clear hb0 hm0 hp0 hp1 hbs hv ht hrr
    have HhW := Lib.hid hW
    go_enter Tryd.func42, Tryd.ntmps42
    go_upto_region 1 with fail
    clear hW
    refine wp_region_invG (fun wx => wx.cell? ⟨w.heap.size, 0, none⟩ = some (.slice A bs.length c) ∧ wx.cell? ⟨w.heap.size, 1, none⟩ = some (.int .i64 need) ∧ Arr wx (w.heap.size + 1) 4 (fnOf m) ∧ SigAt wx (.slice A bs.length c) bs ∧ SgsAt wx (.slice B L.length d) L ∧ Tn wx ∧ Below w.heap.size w wx) (fun j v w' => match j with | 0 => v = polV (.slice A bs.length c) need | 1 => v = .bool true | 2 => v = .bool true | 3 => v = polV (.slice A bs.length c) need | 4 => v = dgv m | 5 => v = (.slice B L.length d) | 6 => ∃ A' c', v = .slice A' (whoN bs m L).length c' | 7 => v = .int .i64 ((whoN bs m L).length : Nat) | 8 => v = .pointer (some ⟨w.heap.size, 1, none⟩) | 9 => v = .int .i64 need | 10 => v = .bool (decide (need ≤ ((whoN bs m L).length : Nat))) | _ => True) 11 (by kernel_rfl) (by kernel_rfl) hS1 (fun _ _ h hb => ⟨cell_keep h.1 hb, cell_keep h.2.1 hb, h.2.2.1.keep hb (by decide), h.2.2.2.1.below hb, h.2.2.2.2.1.keep hb, h.2.2.2.2.2.1.below hb, h.2.2.2.2.2.2.trans (hb.mono h.2.2.2.2.2.2.size)⟩) ?_ ?_ ?_
    · rintro (_|_|_|_|_|_|_|_|_|_|_|j) v w1 w2 hb h
      all_goals exact h
    · refine ⟨fun us wx hx hd => ?_, fun us wx hx hd => ?_, fun us wx hx hd => ?_, fun us wx hx hd => ?_, fun us wx hx hd => ?_, fun us wx hx hd => ?_, fun us wx hx hd => ?_, fun us wx hx hd => ?_, fun us wx hx hd => ?_, fun us wx hx hd => ?_, fun us wx hx hd => ?_, trivial⟩
      all_goals simp only [putAll, dstOf, List.getElem?_toArray, List.getElem?_cons_succ, List.getElem?_cons_zero, Option.bind_some]
      all_goals go_frame
      · refine .inl ⟨?_, ?_⟩
        · rfl
        obtain ⟨c0, c1⟩ := And.intro hx.1 hx.2.1
        unfold polV
        have HX := Lib.hid hx; clear hx
        go_simp
        first | exact Below.refl _ _ | exact ⟨rfl, Below.refl _ _⟩ | exact ⟨by and_intros <;> rfl, Below.refl _ _⟩ | exact ⟨by first | rfl | (congr 1; omega) | omega, Below.refl _ _⟩
      · refine .inl ⟨?_, ?_⟩
        · rfl
        rw [show us 0 = polV (.slice A bs.length c) need from hd 0 rfl]
        go_simp
        refine (right_any _ bs need _ hx.2.2.2.1 hcap).mono ?_
        rintro e w1 ⟨rfl, hb1⟩
        exact ⟨_, rfl, by rw [Hr.out], hb1⟩
      · refine .inl ⟨?_, ?_⟩
        · rfl
        rw [show us 1 = .bool true from hd 1 rfl]
        have HX := Lib.hid hx; clear hx
        go_simp
        first | exact Below.refl _ _ | exact ⟨rfl, Below.refl _ _⟩ | exact ⟨by and_intros <;> rfl, Below.refl _ _⟩ | exact ⟨by first | rfl | (congr 1; omega) | omega, Below.refl _ _⟩
      · refine .inl ⟨?_, ?_⟩
        · rw [show us 2 = .bool true from hd 2 rfl]; rfl
        obtain ⟨c0, c1⟩ := And.intro hx.1 hx.2.1
        unfold polV
        have HX := Lib.hid hx; clear hx
        go_simp
        first | exact Below.refl _ _ | exact ⟨rfl, Below.refl _ _⟩ | exact ⟨by and_intros <;> rfl, Below.refl _ _⟩ | exact ⟨by first | rfl | (congr 1; omega) | omega, Below.refl _ _⟩
      · refine .inl ⟨?_, ?_⟩
        · rw [show us 2 = .bool true from hd 2 rfl]; rfl
        obtain ⟨c0, c1, c2, c3⟩ := hx.2.2.1.dg
        have HX := Lib.hid hx; clear hx
        go_simp
        first | exact Below.refl _ _ | exact ⟨rfl, Below.refl _ _⟩ | exact ⟨by and_intros <;> rfl, Below.refl _ _⟩ | exact ⟨by first | rfl | (congr 1; omega) | omega, Below.refl _ _⟩
      · refine .inl ⟨?_, ?_⟩
        · rw [show us 2 = .bool true from hd 2 rfl]; rfl
        have HX := Lib.hid hx; clear hx
        go_simp
        first | exact Below.refl _ _ | exact ⟨rfl, Below.refl _ _⟩ | exact ⟨by and_intros <;> rfl, Below.refl _ _⟩ | exact ⟨by first | rfl | (congr 1; omega) | omega, Below.refl _ _⟩
      · refine .inl ⟨?_, ?_⟩
        · rw [show us 2 = .bool true from hd 2 rfl]; rfl
        rw [show us 3 = polV (.slice A bs.length c) need from hd 3 rfl, show us 4 = dgv m from hd 4 rfl, show us 5 = (.slice B L.length d) from hd 5 rfl]
        go_simp
        refine (who_any bs need m L _ _ _ hx.2.2.2.2.2.1 hx.2.2.2.1 hx.2.2.2.2.1 hcap hn).mono ?_
        rintro e w1 ⟨v1, rfl, hb1, hown⟩
        obtain ⟨A', c', rfl⟩ := own_slice hown
        exact ⟨_, rfl, ⟨A', c', rfl⟩, hb1⟩
      · refine .inl ⟨?_, ?_⟩
        · rw [show us 2 = .bool true from hd 2 rfl]; rfl
        obtain ⟨A', c', e6⟩ : ∃ A' c', us 6 = .slice A' (whoN bs m L).length c' := hd 6 rfl
        rw [e6]
        have HX := Lib.hid hx; clear hx
        go_simp
        first | exact Below.refl _ _ | exact ⟨rfl, Below.refl _ _⟩ | exact ⟨by and_intros <;> rfl, Below.refl _ _⟩ | exact ⟨by first | rfl | (congr 1; omega) | omega, Below.refl _ _⟩
      · refine .inl ⟨?_, ?_⟩
        · rw [show us 2 = .bool true from hd 2 rfl]; rfl
        have HX := Lib.hid hx; clear hx
        go_simp
        first | exact Below.refl _ _ | exact ⟨rfl, Below.refl _ _⟩ | exact ⟨by and_intros <;> rfl, Below.refl _ _⟩ | exact ⟨by first | rfl | (congr 1; omega) | omega, Below.refl _ _⟩
      · refine .inl ⟨?_, ?_⟩
        · rw [show us 2 = .bool true from hd 2 rfl]; rfl
        rw [show us 8 = .pointer (some ⟨w.heap.size, 1, none⟩) from hd 8 rfl]
        obtain ⟨c0, c1⟩ := And.intro hx.1 hx.2.1
        have HX := Lib.hid hx; clear hx
        go_simp
        first | exact Below.refl _ _ | exact ⟨rfl, Below.refl _ _⟩ | exact ⟨by and_intros <;> rfl, Below.refl _ _⟩ | exact ⟨by first | rfl | (congr 1; omega) | omega, Below.refl _ _⟩
      · refine .inl ⟨?_, ?_⟩
        · rw [show us 2 = .bool true from hd 2 rfl]; rfl
        rw [show us 7 = .int .i64 ((whoN bs m L).length : Nat) from hd 7 rfl, show us 9 = .int .i64 need from hd 9 rfl]
        have HX := Lib.hid hx; clear hx
        go_simp
        first | exact Below.refl _ _ | exact ⟨rfl, Below.refl _ _⟩ | exact ⟨by and_intros <;> rfl, Below.refl _ _⟩ | exact ⟨by first | rfl | (congr 1; omega) | omega, Below.refl _ _⟩
    rintro us W1 ⟨_, _, _, _, _, _, hb5⟩ hF
    have e2 : us 2 = .bool true := hF 2 (by decide)
    have e10 : us 10 = .bool (decide (need ≤ ((whoN bs m L).length : Nat))) := hF 10 (by decide)
    simp only [putAll, dstOf, List.getElem?_toArray, List.getElem?_cons_succ, List.getElem?_cons_zero, Option.bind_some, List.drop_succ_cons, List.drop_zero]
    rw [e2, e10]
    clear hF e2 e10
    generalize hq : decide (need ≤ ((whoN bs m L).length : Nat)) = q
    have Hq := Lib.hid hq; clear hq
    go_frame
    go_wp2_with fail
    exact bodyPost_ret (v := .bool q) (by simp [results, Tryd.results42, go_sem]) rfl ⟨by rw [Hres.out, Hr.out, ← Hq.out]; rfl, hb5⟩
  · have hrr' : rightP bs need = false := by simpa using hrr
    have Hr := Lib.hid hrr'
    unfold polV
    clear hb0 hm0 hp0 hp1 hbs hv ht hrr hrr'
    have HhW := Lib.hid hW
    go_enter Tryd.func42, Tryd.ntmps42
    go_upto_region 1 with fail
    clear hW
    refine wp_region_invG (fun wx => wx.cell? ⟨w.heap.size, 0, none⟩ = some (.slice A bs.length c) ∧ wx.cell? ⟨w.heap.size, 1, none⟩ = some (.int .i64 need) ∧ Arr wx (w.heap.size + 1) 4 (fnOf m) ∧ SigAt wx (.slice A bs.length c) bs ∧ SgsAt wx (.slice B L.length d) L ∧ Tn wx ∧ Below w.heap.size w wx) (fun j v w' => match j with | 0 => v = polV (.slice A bs.length c) need | 1 => v = .bool false | 2 => v = .bool false | 3 => v = undef | 4 => v = undef | 5 => v = undef | 6 => v = undef | 7 => v = undef | 8 => v = undef | 9 => v = undef | 10 => v = undef | _ => True) 11 (by kernel_rfl) (by kernel_rfl) hS1 (fun _ _ h hb => ⟨cell_keep h.1 hb, cell_keep h.2.1 hb, h.2.2.1.keep hb (by decide), h.2.2.2.1.below hb, h.2.2.2.2.1.keep hb, h.2.2.2.2.2.1.below hb, h.2.2.2.2.2.2.trans (hb.mono h.2.2.2.2.2.2.size)⟩) ?_ ?_ ?_
    · rintro (_|_|_|_|_|_|_|_|_|_|_|j) v w1 w2 hb h
      all_goals exact h
    · refine ⟨fun us wx hx hd => ?_, fun us wx hx hd => ?_, fun us wx hx hd => ?_, fun us wx hx hd => ?_, fun us wx hx hd => ?_, fun us wx hx hd => ?_, fun us wx hx hd => ?_, fun us wx hx hd => ?_, fun us wx hx hd => ?_, fun us wx hx hd => ?_, fun us wx hx hd => ?_, trivial⟩
      all_goals simp only [putAll, dstOf, List.getElem?_toArray, List.getElem?_cons_succ, List.getElem?_cons_zero, Option.bind_some]
      all_goals go_frame
      · refine .inl ⟨?_, ?_⟩
        · rfl
        obtain ⟨c0, c1⟩ := And.intro hx.1 hx.2.1
        unfold polV
        have HX := Lib.hid hx; clear hx
        go_simp
        first | exact Below.refl _ _ | exact ⟨rfl, Below.refl _ _⟩ | exact ⟨by and_intros <;> rfl, Below.refl _ _⟩ | exact ⟨by first | rfl | (congr 1; omega) | omega, Below.refl _ _⟩
      · refine .inl ⟨?_, ?_⟩
        · rfl
        rw [show us 0 = polV (.slice A bs.length c) need from hd 0 rfl]
        go_simp
        refine (right_any _ bs need _ hx.2.2.2.1 hcap).mono ?_
        rintro e w1 ⟨rfl, hb1⟩
        exact ⟨_, rfl, by rw [Hr.out], hb1⟩
      · refine .inl ⟨?_, ?_⟩
        · rfl
        rw [show us 1 = .bool false from hd 1 rfl]
        have HX := Lib.hid hx; clear hx
        go_simp
        first | exact Below.refl _ _ | exact ⟨rfl, Below.refl _ _⟩ | exact ⟨by and_intros <;> rfl, Below.refl _ _⟩ | exact ⟨by first | rfl | (congr 1; omega) | omega, Below.refl _ _⟩
      · refine .inr ⟨?_, by first | rfl | trivial⟩
        rw [show us 2 = .bool false from hd 2 rfl]; rfl
      · refine .inr ⟨?_, by first | rfl | trivial⟩
        rw [show us 2 = .bool false from hd 2 rfl]; rfl
      · refine .inr ⟨?_, by first | rfl | trivial⟩
        rw [show us 2 = .bool false from hd 2 rfl]; rfl
      · refine .inr ⟨?_, by first | rfl | trivial⟩
        rw [show us 2 = .bool false from hd 2 rfl]; rfl
      · refine .inr ⟨?_, by first | rfl | trivial⟩
        rw [show us 2 = .bool false from hd 2 rfl]; rfl
      · refine .inr ⟨?_, by first | rfl | trivial⟩
        rw [show us 2 = .bool false from hd 2 rfl]; rfl
      · refine .inr ⟨?_, by first | rfl | trivial⟩
        rw [show us 2 = .bool false from hd 2 rfl]; rfl
      · refine .inr ⟨?_, by first | rfl | trivial⟩
        rw [show us 2 = .bool false from hd 2 rfl]; rfl
    rintro us W1 ⟨_, _, _, _, _, _, hb5⟩ hF
    have e2 : us 2 = .bool false := hF 2 (by decide)
    have e10 : us 10 = undef := hF 10 (by decide)
    simp only [putAll, dstOf, List.getElem?_toArray, List.getElem?_cons_succ, List.getElem?_cons_zero, Option.bind_some, List.drop_succ_cons, List.drop_zero]
    rw [e2, e10]
    clear hF e2 e10
    go_frame
    go_wp2_with fail
    exact bodyPost_ret (v := .bool false) (by simp [results, Tryd.results42, go_sem]) rfl ⟨by rw [Hres.out, Hr.out]; rfl, hb5⟩
end Go.Proofs.YtpodfmnnabepaaaDoor

namespace Go.Proofs.YtpodfmnnabepaaaDoor
open Go.RowKit
open Ot (Dg)
theorem cell_past {w : World} {p : Addr} {v : Value} (o : Obj) (h : w.cell? p = some v) : (w.alloc o).cell? p = some v := cell_keep h ((Below.refl _ _).alloc (Nat.le_refl _) _)
/-- A signature of the height 0 holds. -/
theorem sgOk_own (x m : Dg) : sgOk (pubD x) m ⟨pubD x, 0, oneD x m, []⟩ = true := by
  have h1 : (oneD x m).length = 35 := Ot.sign_length pair _ m
  have h2 : Ot.reachK pair m (oneD x m) = pubD x := Ot.reach_sign pair (sdD x) m
  simp [sgOk, kchk, h1, h2, mchk, upT]
theorem sgOk_other {x m k : Dg} {i : Int} {one path : List Dg} (h : k ≠ x) : sgOk x m ⟨k, i, one, path⟩ = false := by simp [sgOk, h]
/-- What awake finds. -/
theorem awake_who : whoN [pubD ⟨1, 0, 0, 0⟩, pubD ⟨2, 0, 0, 0⟩] ⟨9, 0, 0, 0⟩ [⟨pubD ⟨2, 0, 0, 0⟩, 0, oneD ⟨2, 0, 0, 0⟩ ⟨9, 0, 0, 0⟩, []⟩] = [1] := by
  have h0 : agN [pubD ⟨1, 0, 0, 0⟩, pubD ⟨2, 0, 0, 0⟩] ⟨9, 0, 0, 0⟩ [⟨pubD ⟨2, 0, 0, 0⟩, 0, oneD ⟨2, 0, 0, 0⟩ ⟨9, 0, 0, 0⟩, []⟩] 0 = false := by
    simp only [agN, List.getD_cons_zero, List.any_cons, List.any_nil, Bool.or_false]
    exact sgOk_other (Ne.symm keys_unlike)
  have h1 : agN [pubD ⟨1, 0, 0, 0⟩, pubD ⟨2, 0, 0, 0⟩] ⟨9, 0, 0, 0⟩ [⟨pubD ⟨2, 0, 0, 0⟩, 0, oneD ⟨2, 0, 0, 0⟩ ⟨9, 0, 0, 0⟩, []⟩] 1 = true := by
    simp only [agN, List.getD_cons_zero, List.getD_cons_succ, List.any_cons, List.any_nil, Bool.or_false]
    exact sgOk_own ⟨2, 0, 0, 0⟩ ⟨9, 0, 0, 0⟩
  unfold whoN
  rw [show [pubD ⟨1, 0, 0, 0⟩, pubD ⟨2, 0, 0, 0⟩].length = 1 + 1 from rfl, Qu.places_succ, Qu.places_succ, Qu.places_zero, h0, h1]
  rfl
theorem awake_right (n : Int) (h : 1 ≤ n ∧ n ≤ 2) : rightP [pubD ⟨1, 0, 0, 0⟩, pubD ⟨2, 0, 0, 0⟩] n = true := by
  have := keys_unlike
  simp only [rightP, List.length_cons, List.length_nil, Bool.and_eq_true, decide_eq_true_eq]
  refine ⟨⟨by omega, by omega, h.1, by omega⟩, ?_⟩
  simpa [pubD] using this
/-- A slice of ints. -/
def IntsAt (w : World) (v : Value) (l : List Nat) : Prop := ∃ A c, v = .slice A l.length c ∧ l.length ≤ 9223372036854775807 ∧ (0 < l.length → ∃ b, A = some ⟨b, 0, none⟩ ∧ ∀ i, i < l.length → w.cell? ⟨b, i, none⟩ = some (.int .i64 (l.getD i 0 : Nat)))
theorem IntsAt.keep {w w' : World} {v : Value} {l : List Nat} (h : IntsAt w v l) (hb : Below w.heap.size w w') : IntsAt w' v l := by
  obtain ⟨A, c, rfl, hl, h⟩ := h
  refine ⟨A, c, rfl, hl, fun hp => ?_⟩
  obtain ⟨b, rfl, hc⟩ := h hp
  exact ⟨b, rfl, fun i hi => cell_keep (hc i hi) hb⟩
theorem own_intsAt {w : World} {base : Nat} {v : Value} {l : List Nat} (h : w.ownsRow base 3 1 v l.length (ivs l)) : IntsAt w v l := by
  have hc := h
  rcases h.2 with ⟨rfl, h0⟩ | ⟨g, cap, cur, rfl, hb, hh, h1, h2, _⟩
  · exact ⟨none, 0, by rw [h0], by omega, fun hp => by omega⟩
  · refine ⟨some ⟨g, 0, none⟩, cap, rfl, by simp only [maxLen] at h2; omega, fun _ => ⟨g, rfl, fun i hi => ?_⟩⟩
    have ad : ∀ j, (⟨g, 0, none⟩ : Addr).add j = ⟨g, j, none⟩ := fun j => by unfold Addr.add; split <;> simp_all
    have c := fun j u hu => (ad j) ▸ hc.cells (g := g) rfl j u hu
    refine c _ _ ?_
    simp [ivs, List.getD_eq_getElem?_getD, List.getElem?_eq_getElem hi]
/-- What awake lays. -/
def AwM (W : World) (N : Nat) (ka kb : Dg) (ob : List Dg) : Prop :=
  SigAt W (.slice (some ⟨N + 1 + 1, 0, none⟩) 2 2) [ka, kb] ∧ SgsAt W (.slice (some ⟨N + 1 + 1 + 1 + 1 + 1, 0, none⟩) 1 1) [⟨kb, 0, ob, []⟩] ∧
  W.cell? ⟨N + 1 + 1 + 1, 0, none⟩ = some (.slice (some ⟨N + 1 + 1, 0, none⟩) 2 2) ∧ W.cell? ⟨N + 1 + 1 + 1, 1, none⟩ = some (.int .i64 1) ∧
  W.cell? ⟨N + 1 + 1 + 1 + 1, 0, none⟩ = some (.slice (some ⟨N + 1 + 1, 0, none⟩) 2 2) ∧ W.cell? ⟨N + 1 + 1 + 1 + 1, 1, none⟩ = some (.int .i64 2)
theorem AwM.keep {W W' : World} {N : Nat} {ka kb : Dg} {ob : List Dg} (h : AwM W N ka kb ob) (hb : Below W.heap.size W W') : AwM W' N ka kb ob :=
  ⟨h.1.below hb, h.2.1.keep hb, cell_keep h.2.2.1 hb, cell_keep h.2.2.2.1 hb, cell_keep h.2.2.2.2.1 hb, cell_keep h.2.2.2.2.2 hb⟩
theorem awake_mem {w : World} {ka kb : Dg} {ob : List Dg} {A2 : Option Addr} {c2 : Nat} (X1 X2 : Obj) (hv : SigAt w (.slice A2 ob.length c2) ob) :
    AwM ((((((w.alloc X1).alloc X2).alloc (.cells #[.int .u32 ka.a.toNat, .int .u32 ka.b.toNat, .int .u32 ka.c.toNat, .int .u32 ka.d.toNat, .int .u32 kb.a.toNat, .int .u32 kb.b.toNat, .int .u32 kb.c.toNat, .int .u32 kb.d.toNat] 24)).alloc (.cells #[.slice (some ⟨w.heap.size + 1 + 1, 0, none⟩) 2 2, .int .i64 1] 47)).alloc (.cells #[.slice (some ⟨w.heap.size + 1 + 1, 0, none⟩) 2 2, .int .i64 2] 47)).alloc (.cells #[.int .u32 kb.a.toNat, .int .u32 kb.b.toNat, .int .u32 kb.c.toNat, .int .u32 kb.d.toNat, .int .i64 0, .slice A2 ob.length c2, .slice none 0 0] 59)) w.heap.size ka kb ob := by
  have z1 : ((w.alloc X1).alloc X2).heap.size = w.heap.size + 1 + 1 := by simp
  have hbX : Below w.heap.size w ((w.alloc X1).alloc X2) := ((Below.refl _ _).alloc (Nat.le_refl _) _).alloc (by simp) _
  have hv2 := hv.below hbX
  generalize (w.alloc X1).alloc X2 = w2 at *
  have hn : w.heap.size + 1 + 1 = w2.heap.size := z1.symm
  unfold AwM
  rw [hn]
  have d := fun j => World.cell?_alloc_new w2 #[.int .u32 ka.a.toNat, .int .u32 ka.b.toNat, .int .u32 ka.c.toNat, .int .u32 ka.d.toNat, .int .u32 kb.a.toNat, .int .u32 kb.b.toNat, .int .u32 kb.c.toNat, .int .u32 kb.d.toNat] 24 j
  have hb1 := ((Below.refl w2.heap.size w2)).alloc (Nat.le_refl _) (.cells #[.int .u32 ka.a.toNat, .int .u32 ka.b.toNat, .int .u32 ka.c.toNat, .int .u32 ka.d.toNat, .int .u32 kb.a.toNat, .int .u32 kb.b.toNat, .int .u32 kb.c.toNat, .int .u32 kb.d.toNat] 24)
  have hv3 := hv2.below hb1
  have z2 : (w2.alloc (.cells #[.int .u32 ka.a.toNat, .int .u32 ka.b.toNat, .int .u32 ka.c.toNat, .int .u32 ka.d.toNat, .int .u32 kb.a.toNat, .int .u32 kb.b.toNat, .int .u32 kb.c.toNat, .int .u32 kb.d.toNat] 24)).heap.size = w2.heap.size + 1 := by simp
  have hd : SigAt (w2.alloc (.cells #[.int .u32 ka.a.toNat, .int .u32 ka.b.toNat, .int .u32 ka.c.toNat, .int .u32 ka.d.toNat, .int .u32 kb.a.toNat, .int .u32 kb.b.toNat, .int .u32 kb.c.toNat, .int .u32 kb.d.toNat] 24)) (.slice (some ⟨w2.heap.size, 0, none⟩) 2 2) [ka, kb] := by
    refine ⟨_, _, rfl, by simp, fun _ => ⟨_, _, rfl, by simp, fun i hi => ?_⟩⟩
    obtain rfl | rfl : i = 0 ∨ i = 1 := by simp at hi; omega
    · exact ⟨d 0, d 1, d 2, d 3⟩
    · exact ⟨d 4, d 5, d 6, d 7⟩
  clear d hb1 hv2
  generalize w2.alloc (.cells #[.int .u32 ka.a.toNat, .int .u32 ka.b.toNat, .int .u32 ka.c.toNat, .int .u32 ka.d.toNat, .int .u32 kb.a.toNat, .int .u32 kb.b.toNat, .int .u32 kb.c.toNat, .int .u32 kb.d.toNat] 24) = w3 at *
  generalize Value.slice (some ⟨w2.heap.size, 0, none⟩) 2 2 = dv at *
  rw [← z2]
  have p := fun j => World.cell?_alloc_new w3 #[dv, .int .i64 1] 47 j
  have hb3 := ((Below.refl w3.heap.size w3)).alloc (Nat.le_refl _) (.cells #[dv, .int .i64 1] 47)
  have z3 : (w3.alloc (.cells #[dv, .int .i64 1] 47)).heap.size = w3.heap.size + 1 := by simp
  rw [← z3]
  have p0 := p 0; have p1 := p 1
  have hd4 := hd.below hb3
  have hv4 := hv3.below hb3
  clear p hb3 hd hv3
  generalize w3.alloc (.cells #[dv, .int .i64 1] 47) = w4 at *
  have q := fun j => World.cell?_alloc_new w4 #[dv, .int .i64 2] 47 j
  have hb4 := ((Below.refl w4.heap.size w4)).alloc (Nat.le_refl _) (.cells #[dv, .int .i64 2] 47)
  have z4 : (w4.alloc (.cells #[dv, .int .i64 2] 47)).heap.size = w4.heap.size + 1 := by simp
  rw [← z4]
  have q0 := q 0; have q1 := q 1
  have p0' := cell_keep p0 hb4
  have p1' := cell_keep p1 hb4
  have hd5 := hd4.below hb4
  have hv5 := hv4.below hb4
  clear q hb4 hd4 hv4 p0 p1
  generalize w4.alloc (.cells #[dv, .int .i64 2] 47) = w5 at *
  have s := fun j => World.cell?_alloc_new w5 #[.int .u32 kb.a.toNat, .int .u32 kb.b.toNat, .int .u32 kb.c.toNat, .int .u32 kb.d.toNat, .int .i64 0, .slice A2 ob.length c2, .slice none 0 0] 59 j
  have hb5 := ((Below.refl w5.heap.size w5)).alloc (Nat.le_refl _) (.cells #[.int .u32 kb.a.toNat, .int .u32 kb.b.toNat, .int .u32 kb.c.toNat, .int .u32 kb.d.toNat, .int .i64 0, .slice A2 ob.length c2, .slice none 0 0] 59)
  refine ⟨hd5.below hb5, ⟨_, _, rfl, by simp, fun _ => ⟨_, _, rfl, fun i hi => ?_⟩⟩, cell_keep p0' hb5, cell_keep p1' hb5, cell_keep q0 hb5, cell_keep q1 hb5⟩
  obtain rfl : i = 0 := by simp at hi; omega
  exact ⟨⟨s 0, s 1, s 2, s 3⟩, s 4, _, _, s 5, s 6, hv5.below hb5, PathAt_nil _⟩
set_option maxRecDepth 100000 in
set_option maxHeartbeats 4000000 in
theorem qawake_any (w : World) (ht : Tn w) : Calls Tryd.prog 33 #[] w fun e w' => e = .returned (.bool true) ∧ Below w.heap.size w w' := by
  have hwho := awake_who
  have hr1 := awake_right 1 (by decide)
  have hr2 := awake_right 2 (by decide)
  have s1 := fun w => lsign_any ⟨1, 0, 0, 0⟩ ⟨9, 0, 0, 0⟩ w
  have s2 := fun w => lsign_any ⟨2, 0, 0, 0⟩ ⟨9, 0, 0, 0⟩ w
  generalize hk1 : pubD ⟨1, 0, 0, 0⟩ = ka at *
  generalize hk2 : pubD ⟨2, 0, 0, 0⟩ = kb at *
  generalize ho1 : oneD ⟨1, 0, 0, 0⟩ ⟨9, 0, 0, 0⟩ = oa at *
  generalize ho2 : oneD ⟨2, 0, 0, 0⟩ ⟨9, 0, 0, 0⟩ = ob at *
  have Hk1 := Lib.hid hk1; have Hk2 := Lib.hid hk2; have Ho1 := Lib.hid ho1; have Ho2 := Lib.hid ho2
  clear hk1 hk2 ho1 ho2
  go_enter Tryd.func33, Tryd.ntmps33
  go_wp2_with fail
  refine (s1 _).mono ?_
  rintro e w1 ⟨v1, rfl, hb1, hv1⟩
  go_wp2_with fail
  refine (s2 _).mono ?_
  rintro e w2 ⟨v2, rfl, hb2, hv2⟩
  have hb3 := hb1.trans (hb2.mono hb1.size)
  have hv1' := hv1.below hb2
  have ht2 := ht.below hb3
  clear s1 s2 hb1 hb2 hv1 ht
  unfold sgdV
  have Hv1 := Lib.hid hv1'; have Hv2 := Lib.hid hv2; have Hb3 := Lib.hid hb3; have Ht2 := Lib.hid ht2
  obtain ⟨A1, c1, hve1⟩ : ∃ A c, v1 = .slice A oa.length c := by obtain ⟨A, c, h, _⟩ := hv1'; exact ⟨A, c, h⟩
  obtain ⟨A2, c2, hve2⟩ : ∃ A c, v2 = .slice A ob.length c := by obtain ⟨A, c, h, _⟩ := hv2; exact ⟨A, c, h⟩
  subst hve1 hve2
  clear hv1' hv2 hb3 ht2
  go_wp2_with fail
  have Hwho := Lib.hid hwho; have Hr1 := Lib.hid hr1; have Hr2 := Lib.hid hr2; clear hwho hr1 hr2
  have hM := awake_mem (ka := ka) (kb := kb) (.cells #[.int .u32 ka.a.toNat, .int .u32 ka.b.toNat, .int .u32 ka.c.toNat, .int .u32 ka.d.toNat, .int .i64 0, .slice A1 oa.length c1, .slice none 0 0] 59) (.cells #[.int .u32 kb.a.toNat, .int .u32 kb.b.toNat, .int .u32 kb.c.toNat, .int .u32 kb.d.toNat, .int .i64 0, .slice A2 ob.length c2, .slice none 0 0] 59) Hv2.out
  have hbM : Below w2.heap.size w2 ((((((w2.alloc (.cells #[.int .u32 ka.a.toNat, .int .u32 ka.b.toNat, .int .u32 ka.c.toNat, .int .u32 ka.d.toNat, .int .i64 0, .slice A1 oa.length c1, .slice none 0 0] 59)).alloc (.cells #[.int .u32 kb.a.toNat, .int .u32 kb.b.toNat, .int .u32 kb.c.toNat, .int .u32 kb.d.toNat, .int .i64 0, .slice A2 ob.length c2, .slice none 0 0] 59)).alloc (.cells #[.int .u32 ka.a.toNat, .int .u32 ka.b.toNat, .int .u32 ka.c.toNat, .int .u32 ka.d.toNat, .int .u32 kb.a.toNat, .int .u32 kb.b.toNat, .int .u32 kb.c.toNat, .int .u32 kb.d.toNat] 24)).alloc (.cells #[.slice (some ⟨w2.heap.size + 1 + 1, 0, none⟩) 2 2, .int .i64 1] 47)).alloc (.cells #[.slice (some ⟨w2.heap.size + 1 + 1, 0, none⟩) 2 2, .int .i64 2] 47)).alloc (.cells #[.int .u32 kb.a.toNat, .int .u32 kb.b.toNat, .int .u32 kb.c.toNat, .int .u32 kb.d.toNat, .int .i64 0, .slice A2 ob.length c2, .slice none 0 0] 59)) := ((((((Below.refl _ _).alloc (Nat.le_refl _) _).alloc (by simp) _).alloc (by simp; omega) _).alloc (by simp; omega) _).alloc (by simp; omega) _).alloc (by simp; omega) _
  generalize (((((w2.alloc (.cells #[.int .u32 ka.a.toNat, .int .u32 ka.b.toNat, .int .u32 ka.c.toNat, .int .u32 ka.d.toNat, .int .i64 0, .slice A1 oa.length c1, .slice none 0 0] 59)).alloc (.cells #[.int .u32 kb.a.toNat, .int .u32 kb.b.toNat, .int .u32 kb.c.toNat, .int .u32 kb.d.toNat, .int .i64 0, .slice A2 ob.length c2, .slice none 0 0] 59)).alloc (.cells #[.int .u32 ka.a.toNat, .int .u32 ka.b.toNat, .int .u32 ka.c.toNat, .int .u32 ka.d.toNat, .int .u32 kb.a.toNat, .int .u32 kb.b.toNat, .int .u32 kb.c.toNat, .int .u32 kb.d.toNat] 24)).alloc (.cells #[.slice (some ⟨w2.heap.size + 1 + 1, 0, none⟩) 2 2, .int .i64 1] 47)).alloc (.cells #[.slice (some ⟨w2.heap.size + 1 + 1, 0, none⟩) 2 2, .int .i64 2] 47)).alloc (.cells #[.int .u32 kb.a.toNat, .int .u32 kb.b.toNat, .int .u32 kb.c.toNat, .int .u32 kb.d.toNat, .int .i64 0, .slice A2 ob.length c2, .slice none 0 0] 59) = W at *
  have htW := Ht2.out.below hbM
  have hb := Hb3.out.trans (hbM.mono Hb3.out.size)
  have hcap : Capd (.slice (some ⟨w2.heap.size + 1 + 1, 0, none⟩) 2 2) := ⟨_, _, _, rfl, by decide, by decide⟩
  clear hbM Hv1 Hv2 Hb3 Ht2
  generalize w2.heap.size = N at *
  have hwho := Hwho.out
  have hr1 := Hr1.out
  have hr2 := Hr2.out
  have hH1 : holdsN [ka, kb] 1 ⟨9, 0, 0, 0⟩ [⟨kb, 0, ob, []⟩] = true := by rw [holdsN, hr1, hwho]; rfl
  have hH2 : holdsN [ka, kb] 2 ⟨9, 0, 0, 0⟩ [⟨kb, 0, ob, []⟩] = false := by rw [holdsN, hr2, hwho]; rfl
  refine (who_any [ka, kb] 1 ⟨9, 0, 0, 0⟩ [⟨kb, 0, ob, []⟩] _ _ W htW hM.1 hM.2.1 hcap (by simp)).mono ?_
  rintro e w3 ⟨v, rfl, hb3, hown⟩
  rw [hwho] at hown
  have hM3 := hM.keep hb3
  have ht3 := htW.below hb3
  have hb4 := hb.trans (hb3.mono hb.size)
  clear hM htW hb hb3 hwho
  have Hown := Lib.hid hown; have Hr1' := Lib.hid hr1; have Hr2' := Lib.hid hr2; have HH1 := Lib.hid hH1; have HH2 := Lib.hid hH2; have HM3 := Lib.hid hM3; have Ht3 := Lib.hid ht3; have Hb4 := Lib.hid hb4; have Hcap := Lib.hid hcap
  clear hown hr1 hr2 hH1 hH2 ht3 hb4 hcap
  have Hw3 := Hown; have Hc3 := Hb4
  clear Hown Hb4
  obtain ⟨p0, p1, q0, q1⟩ := hM3.2.2
  clear hM3
  go_wp2_with fail
  clear p0 p1 q0 q1
  refine (right_any _ [ka, kb] 1 w3 HM3.out.1 Hcap.out).mono ?_
  rintro e w4 ⟨rfl, hb4⟩
  rw [Hr1'.out]
  have HM4 := Lib.hid (HM3.out.keep hb4); have Ht4 := Lib.hid (Ht3.out.below hb4); have Hc4 := Lib.hid (Hc3.out.trans (hb4.mono Hc3.out.size)); have Hw4 := Lib.hid (own_keep Hw3.out hb4)
  clear HM3 Ht3 Hc3 Hw3 hb4
  obtain ⟨p0, p1, q0, q1⟩ := HM4.out.2.2
  go_wp2_with fail
  clear p0 p1 q0 q1
  refine (right_any (.slice none 0 0) [] 0 w4 (SigAt_nil _) ⟨_, _, _, rfl, by decide, by decide⟩).mono ?_
  rintro e w5 ⟨rfl, hb5⟩
  rw [show rightP [] 0 = false from rfl]
  have HM5 := Lib.hid (HM4.out.keep hb5); have Ht5 := Lib.hid (Ht4.out.below hb5); have Hc5 := Lib.hid (Hc4.out.trans (hb5.mono Hc4.out.size)); have Hw5 := Lib.hid (own_keep Hw4.out hb5)
  clear HM4 Ht4 Hc4 Hw4 hb5
  obtain ⟨p0, p1, q0, q1⟩ := HM5.out.2.2
  go_wp2_with fail
  clear p0 p1 q0 q1
  refine (qholds_any [ka, kb] 1 ⟨9, 0, 0, 0⟩ [⟨kb, 0, ob, []⟩] _ _ w5 Ht5.out HM5.out.1 HM5.out.2.1 Hcap.out (by simp)).mono ?_
  rintro e w6 ⟨rfl, hb6⟩
  rw [HH1.out]
  have HM6 := Lib.hid (HM5.out.keep hb6); have Ht6 := Lib.hid (Ht5.out.below hb6); have Hc6 := Lib.hid (Hc5.out.trans (hb6.mono Hc5.out.size)); have Hw6 := Lib.hid (own_keep Hw5.out hb6)
  clear HM5 Ht5 Hc5 Hw5 hb6
  obtain ⟨p0, p1, q0, q1⟩ := HM6.out.2.2
  go_wp2_with fail
  clear p0 p1 q0 q1
  refine (qholds_any [ka, kb] 2 ⟨9, 0, 0, 0⟩ [⟨kb, 0, ob, []⟩] _ _ w6 Ht6.out HM6.out.1 HM6.out.2.1 Hcap.out (by simp)).mono ?_
  rintro e w7 ⟨rfl, hb7⟩
  rw [HH2.out]
  have HM7 := Lib.hid (HM6.out.keep hb7); have Hc7 := Lib.hid (Hc6.out.trans (hb7.mono Hc6.out.size)); have hw7 := own_keep Hw6.out hb7
  clear HM6 Ht6 Hc6 Hw6 hb7
  obtain ⟨A, c, rfl, _, hcs⟩ := own_intsAt hw7
  obtain ⟨b, rfl, hcell⟩ := hcs (by decide)
  have hcell0 := hcell 0 (by decide)
  replace hcell0 : w7.cell? ⟨b, 0, none⟩ = some (.int .i64 1) := hcell0
  rw [show [1].length = 1 from rfl]
  clear hcs hcell hw7
  obtain ⟨p0, p1, q0, q1⟩ := HM7.out.2.2
  go_wp2_with fail
  refine (bad_any _ 2 w7 (by decide)).mono ?_
  rintro e w8 ⟨rfl, hb8⟩
  clear p0 p1 q0 q1 hcell0
  go_wp2_with fail
  exact bodyPost_ret (v := .bool true) (by simp [results, Tryd.results33, go_sem]) rfl ⟨rfl, Hc7.out.trans (hb8.mono Hc7.out.size)⟩
end Go.Proofs.YtpodfmnnabepaaaDoor

namespace Go.Proofs.YtpodfmnnabepaaaDoor
open Go.RowKit
open Ot (Dg)
set_option maxRecDepth 100000 in
set_option maxHeartbeats 4000000 in
theorem rright_any (v : Value) (l : List Dg) (need : Int) (w : World) (hv : SigAt w v l) :
    Calls Tryd.prog 35 #[polV v need] w fun e w' => e = .returned (.bool (rightP l need)) ∧ Below w.heap.size w w' := by
  obtain ⟨A, c, rfl, hlen, _⟩ := id hv
  unfold polV
  have hba : Below w.heap.size w (w.alloc (.cells #[.slice A l.length c, .int .i64 need] 47)) := (Below.refl _ _).alloc (Nat.le_refl _) _
  have hc0 : (w.alloc (.cells #[.slice A l.length c, .int .i64 need] 47)).cell? ⟨w.heap.size, 0, none⟩ = some (.slice A l.length c) := World.cell?_alloc_new _ _ _ 0
  have hc1 : (w.alloc (.cells #[.slice A l.length c, .int .i64 need] 47)).cell? ⟨w.heap.size, 1, none⟩ = some (.int .i64 need) := World.cell?_alloc_new _ _ _ 1
  have Hlen := Lib.hid hlen; have Hv := Lib.hid hv; have Hc0 := Lib.hid hc0; have Hc1 := Lib.hid hc1; have Hba := Lib.hid hba
  clear hv hc0 hc1 hba hlen
  go_enter Tryd.func35, Tryd.ntmps35
  go_wp2_with fail
  go_loopw [3] (fun i wr => ∃ k : Nat, k ≤ l.length ∧ k ≤ 21 ∧ i = .int .i64 k ∧ (l.take k).Nodup ∧ Below w.heap.size w wr ∧ wr.cell? ⟨w.heap.size, 0, none⟩ = some (.slice A l.length c) ∧ wr.cell? ⟨w.heap.size, 1, none⟩ = some (.int .i64 need)) (fun i wr => 21 - (intOf i).toNat)
  case atStart => exact ⟨0, by omega, by omega, rfl, by simp, Hba.out, Hc0.out, Hc1.out⟩
  case round =>
    obtain ⟨k, hk, hk21, rfl, hno, hb, c0, c1⟩ := hrel
    by_cases hlt : k < l.length
    · have hk1 : (k : Int) < l.length := by omega
      have hd : decide ((k : Int) < l.length) = true := by simp; omega
      by_cases h21 : k < 21
      · have hd2 : decide ((k : Int) < 21) = true := by simp; omega
        obtain ⟨A', c', e, _, hcs⟩ := Hv.out
        cases e
        obtain ⟨b, off, rfl, hbl, hc⟩ := hcs (by omega)
        clear hcs
        have hx := hc k hlt
        have hns := nodup_step l k hlt hno
        have Hno := Lib.hid hno; have Hc := Lib.hid hc; have Hns := Lib.hid hns; have Hlt := Lib.hid hlt; have Hk := Lib.hid hk; have H21 := Lib.hid h21
        clear hno hc hns hlt hk h21 hk21
        go_wp2_with fail
        generalize hX : l.getD k Ot.zeroD = x at *
        have HX := Lib.hid hX; have Hx := Lib.hid hx; have Hb := Lib.hid hb; have C0 := Lib.hid c0; have C1 := Lib.hid c1
        clear hX hx hb c0 c1
        go_loopw [4] (fun i wi => ∃ j : Nat, j ≤ k ∧ i = .int .i64 j ∧ x ∉ l.take j ∧ Below w.heap.size w wi ∧ wi.cell? ⟨w.heap.size, 0, none⟩ = some (.slice (some ⟨b, off, none⟩) l.length c) ∧ wi.cell? ⟨w.heap.size, 1, none⟩ = some (.int .i64 need)) (fun i wi => k - (intOf i).toNat)
        case atStart => exact ⟨0, by omega, rfl, by simp, Hb.out, C0.out, C1.out⟩
        case round =>
          obtain ⟨j, hj, rfl, hnm, hbi, d0, d1⟩ := hrel
          by_cases hjk : j < k
          · have hd3 : decide ((j : Int) < (k : Int)) = true := by simp; omega
            obtain ⟨x0, x1, x2, x3⟩ := Hx.out.below hbi hbl
            obtain ⟨y0, y1, y2, y3⟩ := (Hc.out j (by have := Hlt.out; omega)).below hbi hbl
            have hts := take_succ_d l j (by have := Hlt.out; omega)
            have hmem : l.getD j Ot.zeroD ∈ l.take k := by
              rw [List.getD_eq_getElem?_getD, ← List.getElem?_take_of_lt hjk, List.getElem?_eq_getElem (by rw [List.length_take]; have := Hlt.out; omega)]
              exact List.getElem_mem _
            generalize l.getD j Ot.zeroD = y at *
            have hq := dg_eql x y
            have hj1 : (j : Int) < l.length := by have := Hlt.out; omega
            have Hts := Lib.hid hts; have Hmem := Lib.hid hmem; have Hnm := Lib.hid hnm; have Hj := Lib.hid hjk; have Hd1 := Lib.hid d1
            have q1 : IntKind.i64.wrap ((j : Int) + 1) = (j : Int) + 1 := IntWalk.i64_in _ (by have := Hlt.out; have := Hlen.out; omega)
            clear hts hmem hnm hjk hj d1
            by_cases he : x = y
            · have hde : decide (x = y) = true := by simp [he]
              rw [hde] at hq
              have He := Lib.hid he; clear he hde
              go_wp2_with fail
              go_quiet (fail)
              go_wp2_with fail
              refine bodyPost_ret (v := .bool false) (by simp [results, Tryd.results35, go_sem]) rfl ⟨?_, pw_drewN hbi _⟩
              have hnn : ¬ l.Nodup := fun h => (Hns.out.1 (h.sublist (List.take_sublist _ _))) (by rw [He.out]; exact Hmem.out)
              have hr : rightP l need = false := by simp [rightP, hnn]
              rw [hr]
            · have hde : decide (x = y) = false := by simp [he]
              rw [hde] at hq
              have He := Lib.hid he; clear he hde
              go_wp2_with fail
              go_quiet (fail)
              go_wp2_with fail
              refine ⟨⟨j + 1, Hj.out, by simp, ?_, pw_drewN hbi _, d0, Hd1.out⟩, ?_⟩
              · rw [Hts.out]
                have := Hnm.out
                have := He.out
                simp [*]
              · have := Hj.out
                simp [intOf]; omega
          · obtain rfl : j = k := by omega
            have hd3 : decide ((j : Int) < (j : Int)) = false := by simp
            have q1 : IntKind.i64.wrap ((j : Int) + 1) = (j : Int) + 1 := IntWalk.i64_in _ (by have := H21.out; omega)
            have Hnm := Lib.hid hnm; have Hd1 := Lib.hid d1
            clear hnm d1 hjk hj
            go_wp2_with fail
            refine ⟨⟨j + 1, Hlt.out, by have := H21.out; omega, by simp, Hns.out.2 Hnm.out, hbi, d0, Hd1.out⟩, ?_⟩
            have := H21.out
            simp [intOf]; omega
      · obtain rfl : k = 21 := by omega
        have hr : rightP l need = false := by simp [rightP]; omega
        have Hr := Lib.hid hr
        clear hr hno h21
        have g1 : decide ((1 : Int) ≤ l.length) = true := by simp; omega
        have g2 : decide ((l.length : Int) ≤ 20) = false := by simp; omega
        go_wp2_with fail
        exact bodyPost_ret (v := .bool false) (by simp [results, Tryd.results35, go_sem]) rfl ⟨by rw [Hr.out], hb⟩
    · obtain rfl : k = l.length := by omega
      have hd : decide ((l.length : Int) < l.length) = false := by simp
      rw [List.take_length] at hno
      have hr : rightP l need = (decide (1 ≤ (l.length : Int)) && decide ((l.length : Int) ≤ 20) && decide (1 ≤ need) && decide (need ≤ (l.length : Int))) := by
        simp only [rightP, decide_eq_true hno, Bool.and_true]
        by_cases h1 : 1 ≤ l.length <;> by_cases h2 : l.length ≤ 20 <;> by_cases h3 : 1 ≤ need <;> by_cases h4 : need ≤ (l.length : Int) <;> simp [h1, h2, h3, h4] <;> omega
      generalize hR : rightP l need = R at *
      have HR := Lib.hid hR; have Hr := Lib.hid hr
      clear hno hr hR
      by_cases g1 : 1 ≤ (l.length : Int)
      · have g1' := decide_eq_true g1
        by_cases g2 : (l.length : Int) ≤ 20
        · have g2' := decide_eq_true g2
          by_cases g3 : 1 ≤ need
          · have g3' := decide_eq_true g3
            by_cases g4 : need ≤ (l.length : Int)
            · have g4' := decide_eq_true g4
              have hRt : R = true := by rw [Hr.out, g1', g2', g3', g4']; rfl
              have HRt := Lib.hid hRt; clear hRt
              go_wp2_with fail
              exact bodyPost_ret (v := .bool true) (by simp [results, Tryd.results35, go_sem]) rfl ⟨by rw [HR.out, HRt.out], hb⟩
            · have g4' := decide_eq_false g4
              have hRt : R = false := by rw [Hr.out, g4']; simp
              have HRt := Lib.hid hRt; clear hRt
              go_wp2_with fail
              exact bodyPost_ret (v := .bool false) (by simp [results, Tryd.results35, go_sem]) rfl ⟨by rw [HR.out, HRt.out], hb⟩
          · have g3' := decide_eq_false g3
            have hRt : R = false := by rw [Hr.out, g3']; simp
            have HRt := Lib.hid hRt; clear hRt
            go_wp2_with fail
            exact bodyPost_ret (v := .bool false) (by simp [results, Tryd.results35, go_sem]) rfl ⟨by rw [HR.out, HRt.out], hb⟩
        · have g2' := decide_eq_false g2
          have hRt : R = false := by rw [Hr.out, g2']; simp
          have HRt := Lib.hid hRt; clear hRt
          go_wp2_with fail
          exact bodyPost_ret (v := .bool false) (by simp [results, Tryd.results35, go_sem]) rfl ⟨by rw [HR.out, HRt.out], hb⟩
      · have g1' := decide_eq_false g1
        have hRt : R = false := by rw [Hr.out, g1']; simp
        have HRt := Lib.hid hRt; clear hRt
        go_wp2_with fail
        exact bodyPost_ret (v := .bool false) (by simp [results, Tryd.results35, go_sem]) rfl ⟨by rw [HR.out, HRt.out], hb⟩
set_option maxHeartbeats 4000000 in
theorem rbad_any (v : Value) (need : Int) (w : World) (hn : IntKind.i64.wrap (need - 1) = need - 1) :
    Calls Tryd.prog 37 #[polV v need] w fun e w' => e = .returned (.int .i64 (need - 1)) ∧ Below w.heap.size w w' := by
  unfold polV
  have hba : Below w.heap.size w (w.alloc (.cells #[v, .int .i64 need] 47)) := (Below.refl _ _).alloc (Nat.le_refl _) _
  go_enter Tryd.func37, Tryd.ntmps37
  go_wp2_with fail
  exact bodyPost_ret (v := .int .i64 (need - 1)) (by simp [results, Tryd.results37, go_sem]) rfl ⟨rfl, hba⟩
end Go.Proofs.YtpodfmnnabepaaaDoor
