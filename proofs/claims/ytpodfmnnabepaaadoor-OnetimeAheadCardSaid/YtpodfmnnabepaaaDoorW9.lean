/- Walks: onetime.Reach. -/
import Derived.Test.YtpodfmnnabepaaaDoorW8
namespace Go.Proofs.YtpodfmnnabepaaaDoor
open Go.RowKit
open Ot (Dg)
/-- The digest that stands at a place. -/
def DgAt (w : World) (b o : Nat) (d : Dg) : Prop := w.cell? ⟨b, o, none⟩ = some (.int .u32 d.a.toNat) ∧ w.cell? ⟨b, o + 1, none⟩ = some (.int .u32 d.b.toNat) ∧ w.cell? ⟨b, o + 2, none⟩ = some (.int .u32 d.c.toNat) ∧ w.cell? ⟨b, o + 3, none⟩ = some (.int .u32 d.d.toNat)
theorem DgAt.below {w w' : World} {b o B : Nat} {d : Dg} (h : DgAt w b o d) (hb : Below B w w') (hB : b < B) : DgAt w' b o d :=
  ⟨(hb.cell (p := ⟨b, o, none⟩) hB).trans h.1, (hb.cell (p := ⟨b, o + 1, none⟩) hB).trans h.2.1, (hb.cell (p := ⟨b, o + 2, none⟩) hB).trans h.2.2.1, (hb.cell (p := ⟨b, o + 3, none⟩) hB).trans h.2.2.2⟩
theorem DgAt.lt {w : World} {b o : Nat} {d : Dg} (h : DgAt w b o d) : b < w.heap.size := World.block_lt_of_cell? w _ h.1
set_option maxRecDepth 100000 in
set_option maxHeartbeats 1000000 in
theorem reach1_any (bs bt b off c g cap n i t : Nat) (d : Dg) (hi : i < n) (hi35 : i < 35) (ht15 : t ≤ 15) (w : World) (ht : Tn w)
    (h1 : w.cell? ⟨bs, 0, none⟩ = some (.slice (some ⟨b, off, none⟩) n c)) (h2 : w.cell? ⟨bt, 0, none⟩ = some (.slice (some ⟨g, 0, none⟩) 35 cap)) (h3 : DgAt w b (off + i * 4) d) (h4 : w.cell? ⟨g, i, none⟩ = some (.int .i64 (t : Nat))) :
    Calls Tryd.prog 52 #[.int .i64 i, .pointer (some ⟨bs, 0, none⟩), .pointer (some ⟨bt, 0, none⟩)] w fun e w' => e = .returned (dgv (Ot.walk pair d (15 - t))) ∧ Below w.heap.size w w' := by
  have hin : (i : Int) < (n : Int) := by omega
  have hi3 : (i : Int) < 35 := by omega
  have hi0 : (0 : Int) ≤ (i : Int) := by omega
  have e15 : (15 : Int) - (t : Int) = ((15 - t : Nat) : Int) := by omega
  have hk15 : 15 - t ≤ 15 := by omega
  generalize 15 - t = k at *
  have He := Lib.hid e15; clear e15
  generalize hy : Ot.walk pair d k = y at *
  have Hy := Lib.hid hy; clear hy
  go_enter Tryd.func52, Tryd.ntmps52
  go_wp2
  refine wp_region_head (fun w' => Below w.heap.size w w' ∧ Arr w' w.heap.size 4 (fnOf Ot.zeroD)) 9 (by kernel_rfl) (by kernel_rfl) ?_ ?_
  · exact ⟨((Below.refl _ _).alloc (Nat.le_refl _) _).drew, (Arr.new w 4 (fnOf Ot.zeroD) 24 _ rfl).drew⟩
  simp only [List.take_succ_cons, List.take_zero, List.drop_succ_cons, List.drop_zero]
  refine wpHead_cons rfl (.slice (some ⟨b, off, none⟩) n c) (fun wx hx => ?_) ?_
  · have q1 := (hx.1.cell (p := ⟨bs, 0, none⟩) (World.block_lt_of_cell? w _ h1)).trans h1
    have H := Lib.hid hx; clear hx
    go_simp
    first | exact H.out | exact ⟨rfl, H.out⟩ | exact ⟨by and_intros <;> rfl, H.out⟩
  go_frame
  refine wpHead_cons rfl (.int .i64 i) (fun wx hx => ?_) ?_
  · have H := Lib.hid hx; clear hx
    go_simp
    first | exact H.out | exact ⟨rfl, H.out⟩ | exact ⟨by and_intros <;> rfl, H.out⟩
  go_frame
  refine wpHead_cons rfl (.pointer (some ⟨b, off + i * 4, none⟩)) (fun wx hx => ?_) ?_
  · have H := Lib.hid hx; clear hx
    go_simp
    first | exact H.out | exact ⟨rfl, H.out⟩ | exact ⟨by and_intros <;> rfl, H.out⟩
  go_frame
  refine wpHead_cons rfl (dgv d) (fun wx hx => ?_) ?_
  · obtain ⟨c0, c1, c2, c3⟩ := h3.below hx.1 h3.lt
    have H := Lib.hid hx; clear hx
    go_simp
    first | exact H.out | exact ⟨rfl, H.out⟩ | exact ⟨by and_intros <;> rfl, H.out⟩
  go_frame
  refine wpHead_cons rfl (.slice (some ⟨g, 0, none⟩) 35 cap) (fun wx hx => ?_) ?_
  · have q1 := (hx.1.cell (p := ⟨bt, 0, none⟩) (World.block_lt_of_cell? w _ h2)).trans h2
    have H := Lib.hid hx; clear hx
    go_simp
    first | exact H.out | exact ⟨rfl, H.out⟩ | exact ⟨by and_intros <;> rfl, H.out⟩
  go_frame
  refine wpHead_cons rfl (.int .i64 i) (fun wx hx => ?_) ?_
  · have H := Lib.hid hx; clear hx
    go_simp
    first | exact H.out | exact ⟨rfl, H.out⟩ | exact ⟨by and_intros <;> rfl, H.out⟩
  go_frame
  refine wpHead_cons rfl (.pointer (some ⟨g, i, none⟩)) (fun wx hx => ?_) ?_
  · have H := Lib.hid hx; clear hx
    go_simp
    first | exact H.out | exact ⟨rfl, H.out⟩ | exact ⟨by and_intros <;> rfl, H.out⟩
  go_frame
  refine wpHead_cons rfl (.int .i64 t) (fun wx hx => ?_) ?_
  · have q1 := (hx.1.cell (p := ⟨g, i, none⟩) (World.block_lt_of_cell? w _ h4)).trans h4
    have H := Lib.hid hx; clear hx
    go_simp
    first | exact H.out | exact ⟨rfl, H.out⟩ | exact ⟨by and_intros <;> rfl, H.out⟩
  go_frame
  refine wpHead_cons rfl (.int .i64 k) (fun wx hx => ?_) ?_
  · have e15 := He.out
    have ew : IntKind.i64.wrap (k : Int) = (k : Int) := IntWalk.i64_in _ (by omega)
    have H := Lib.hid hx; clear hx
    go_simp
    first | exact H.out | exact ⟨rfl, H.out⟩ | exact ⟨by and_intros <;> rfl, H.out⟩
  go_frame
  refine wpHead_nil ?_
  rintro wr ⟨hb, hz⟩
  have htr := ht.below hb
  have hs := hb.size
  have hzl := hz.lt (by decide)
  clear h1 h2 h3 h4 hin hi3 hi0
  go_wp2_with (go_at_call 48; refine (along_any d k (by omega) _ htr).mono ?_; rw [Hy.out]; rintro e w1 ⟨rfl, hb1⟩; have hz1 := hz.below hb1 hzl; obtain ⟨d0, d1, d2, d3⟩ := hz1.dg; have hf := fun j h => hz1.free j h)
  exact bodyPost_ret (v := dgv y) (by simp [results, Tryd.results52, go_sem, d0, d1, d2, d3]) rfl ⟨rfl, (hb.trans (hb1.mono hs)).fill4 (Nat.le_refl _) _ _ _ _⟩
/-- A slice that reads as a list of digests. -/
def SigAt (w : World) (v : Value) (l : List Dg) : Prop := ∃ A c, v = .slice A l.length c ∧ l.length ≤ 9223372036854775807 ∧ (0 < l.length → ∃ b off, A = some ⟨b, off, none⟩ ∧ b < w.heap.size ∧ ∀ i, i < l.length → DgAt w b (off + i * 4) (l.getD i Ot.zeroD))
theorem SigAt.below {w w' : World} {v : Value} {l : List Dg} (h : SigAt w v l) (hb : Below w.heap.size w w') : SigAt w' v l := by
  obtain ⟨A, c, rfl, hl, h⟩ := h
  refine ⟨A, c, rfl, hl, fun hp => ?_⟩
  obtain ⟨b, off, rfl, hbl, hc⟩ := h hp
  exact ⟨b, off, rfl, Nat.lt_of_lt_of_le hbl hb.size, fun i hi => (hc i hi).below hb hbl⟩
theorem reach1_does (l : List Dg) (m : Dg) (bs bt b off c g cap : Nat) :
    Does (.func (.func 52) #[] #[.pointer (some ⟨bs, 0, none⟩), .pointer (some ⟨bt, 0, none⟩)]) 35 (fun i => Ot.walk pair (l.getD i Ot.zeroD) (15 - (Ot.steps m).getD i 0))
      (fun w => Tn w ∧ w.cell? ⟨bs, 0, none⟩ = some (.slice (some ⟨b, off, none⟩) 35 c) ∧ w.cell? ⟨bt, 0, none⟩ = some (.slice (some ⟨g, 0, none⟩) 35 cap) ∧ (∀ i, i < 35 → DgAt w b (off + i * 4) (l.getD i Ot.zeroD)) ∧ ∀ i, i < 35 → w.cell? ⟨g, i, none⟩ = some (.int .i64 ((Ot.steps m).getD i 0 : Nat))) :=
  ⟨52, _, rfl, fun args w => by kernel_rfl, fun i w hi hS => reach1_any bs bt b off c g cap 35 i _ _ hi hi (Ot.steps_at_le m i) w hS.1 hS.2.1 hS.2.2.1 (hS.2.2.2.1 i hi) (hS.2.2.2.2 i hi)⟩
theorem reach_short (m : Dg) (v : Value) (l : List Dg) (hl : l.length ≠ 35) (w : World) (hv : SigAt w v l) :
    Calls Tryd.prog 26 #[dgv m, v] w fun e w' => e = .returned (.tuple #[dgv Ot.zeroD, .bool false]) ∧ Below w.heap.size w w' := by
  obtain ⟨A, c, rfl, hl1, _⟩ := hv
  have hne : ((l.length : Int) != 35) = true := by rw [bne_iff_ne]; omega
  generalize l.length = n at *
  go_enter Tryd.func26, Tryd.ntmps26
  go_wp2
  exact bodyPost_ret (v := .tuple #[dgv Ot.zeroD, .bool false]) (by simp [results, Tryd.results26, go_sem]; and_intros <;> rfl) rfl ⟨rfl, (((Below.refl _ _).alloc (Nat.le_refl _) _).alloc (by simp) _).alloc (by simp; omega) _⟩
set_option maxRecDepth 100000 in
set_option maxHeartbeats 1000000 in
theorem reach_full (m : Dg) (v : Value) (l : List Dg) (hl : l.length = 35) (w : World) (ht : Tn w) (hv : SigAt w v l) :
    Calls Tryd.prog 26 #[dgv m, v] w fun e w' => e = .returned (.tuple #[dgv (Ot.reachK pair m l), .bool true]) ∧ Below w.heap.size w w' := by
  have hmf : ∀ (fn : Fn) (first cap : Array Value) (w : World), (Instr.makeFunc fn first cap).run Tryd.prog w = .ok (.func fn first cap) w := fun _ _ _ _ => rfl
  obtain ⟨A, c, rfl, _, hc⟩ := hv
  obtain ⟨b, off, rfl, hbl, hcell⟩ := hc (by omega)
  have hp : Ot.reachK pair m l = Ot.ends pair (fun i => Ot.walk pair (l.getD i Ot.zeroD) (15 - (Ot.steps m).getD i 0)) := rfl
  rw [hp, hl] at *
  clear hp hc
  generalize hy : Ot.ends pair (fun i => Ot.walk pair (l.getD i Ot.zeroD) (15 - (Ot.steps m).getD i 0)) = y at *
  have Hy := Lib.hid hy; clear hy
  have Hcell := Lib.hid hcell; clear hcell
  clear hl
  go_enter Tryd.func26, Tryd.ntmps26
  go_wp2_with fail
  generalize hW : ((w.alloc (.cells #[.int .u32 m.a.toNat, .int .u32 m.b.toNat, .int .u32 m.c.toNat, .int .u32 m.d.toNat] 24)).alloc (.cells #[.slice (some ⟨b, off, none⟩) 35 c] 33)).alloc (.cells #[.int .u32 0, .int .u32 0, .int .u32 0, .int .u32 0] 24) = W
  have hb0 : Below w.heap.size w W := by subst hW; exact (((Below.refl _ _).alloc (Nat.le_refl _) _).alloc (by simp) _).alloc (by simp; omega) _
  have hz0 : Arr W (w.heap.size + 1 + 1) 4 (fnOf Ot.zeroD) := by subst hW; exact Arr.new' _ _ 4 (fnOf Ot.zeroD) 24 _ (by simp) rfl
  have hs0 : W.cell? ⟨w.heap.size + 1, 0, none⟩ = some (.slice (some ⟨b, off, none⟩) 35 c) := by subst hW; simp [go_sem]
  have hsz0 : w.heap.size + 3 ≤ W.heap.size := by subst hW; simp
  clear hW
  refine (steps_any m _).mono ?_
  rintro e w1 ⟨v, rfl, hb1, hown⟩
  obtain ⟨g, cap, rfl, hc1, hc2, hgb, hgl, _, hgc⟩ := own_ints hown (by rw [Ot.steps_length]; decide)
  rw [Ot.steps_length] at *
  have hz1 := hz0.below hb1 (by omega)
  have hs1 := (hb1.cell (p := ⟨w.heap.size + 1, 0, none⟩) (by simp; omega)).trans hs0
  have hb2 := hb0.trans (hb1.mono (by omega))
  have hsz1 := hb1.size
  have Hgc := Lib.hid hgc; clear hgc hown hb0 hz0 hs0 hb1
  go_wp2_with fail
  have hb3 : Below w.heap.size w (w1.alloc (.cells #[.slice (some ⟨g, 0, none⟩) 35 cap] 27)) := hb2.alloc hb2.size _
  refine (ends_any _ _ _ ?_ (fun w h => h.1) (reach1_does l m (w.heap.size + 1) w1.heap.size b off c g cap) _ ?_).mono ?_
  · rintro u u' ⟨h1, h2, h3, h4, h5⟩ hb
    exact ⟨h1.below hb, (hb.cell (World.block_lt_of_cell? u _ h2)).trans h2, (hb.cell (World.block_lt_of_cell? u _ h3)).trans h3, fun i hi => (h4 i hi).below hb (h4 i hi).lt, fun i hi => (hb.cell (World.block_lt_of_cell? u _ (h5 i hi))).trans (h5 i hi)⟩
  · refine ⟨ht.below hb3, ?_, ?_, fun i hi => (Hcell.out i hi).below hb3 hbl, fun i hi => ?_⟩
    · rw [World.cell?_alloc_past _ _ _ (by omega)]; exact hs1
    · rw [World.cell?_alloc_new]; rfl
    · rw [World.cell?_alloc_past _ _ _ (by omega)]; exact Hgc.out i hi
  rw [Hy.out]
  rintro e w2 ⟨rfl, hb4⟩
  have hz2 := (hz1.alloc (by omega) (.cells #[.slice (some ⟨g, 0, none⟩) 35 cap] 27)).below hb4 (by simp; omega)
  have hb5 := hb3.trans (hb4.mono hb3.size)
  clear hb3 hb4 hz1 hs1 hmf
  obtain ⟨d0, d1, d2, d3⟩ := hz2.dg
  have hf := fun j h => hz2.free j h
  go_wp2
  exact bodyPost_ret (v := .tuple #[dgv y, .bool true]) (by simp [results, Tryd.results26, go_sem, d0, d1, d2, d3]) rfl ⟨rfl, hb5.fill4 (by omega) _ _ _ _⟩
end Go.Proofs.YtpodfmnnabepaaaDoor
