/- Walks: onetime.along, beginning, ends, Public. -/
import Derived.Test.YtpodfmnnabepaaaDoorW5
namespace Go.Proofs.YtpodfmnnabepaaaDoor
open Go.RowKit
open Ot (Dg)
theorem Arr.dg {w : World} {b : Nat} {x : Dg} (h : Arr w b 4 (fnOf x)) : w.cell? ⟨b, 0, none⟩ = some (.int .u32 x.a.toNat) ∧ w.cell? ⟨b, 1, none⟩ = some (.int .u32 x.b.toNat) ∧ w.cell? ⟨b, 2, none⟩ = some (.int .u32 x.c.toNat) ∧ w.cell? ⟨b, 3, none⟩ = some (.int .u32 x.d.toNat) :=
  ⟨h.cell 0 (by decide), h.cell 1 (by decide), h.cell 2 (by decide), h.cell 3 (by decide)⟩
theorem fnOf_zero (j : Nat) : fnOf Ot.zeroD j = 0 := by unfold fnOf Ot.zeroD; simp only [ite_self]
theorem Arr.zero4 {w : World} {b : Nat} : Arr w b 4 (fun _ => 0) = Arr w b 4 (fnOf Ot.zeroD) := by
  congr 1; funext j; exact (fnOf_zero j).symm
set_option maxRecDepth 100000 in
theorem along_any (x : Dg) (n : Nat) (hn : n ≤ 9223372036854775807) (w : World) (ht : Tn w) :
    Calls Tryd.prog 48 #[dgv x, .int .i64 n] w fun e w' => e = .returned (dgv (Ot.walk pair x n)) ∧ Below w.heap.size w w' := by
  go_enter Tryd.func48, Tryd.ntmps48
  go_wp2
  go_loopw [6] (fun i wr => ∃ k : Nat, k ≤ n ∧ i = .int .i64 k ∧ Arr wr w.heap.size 4 (fnOf (Ot.walk pair x k)) ∧ Arr wr (w.heap.size+1) 4 (fnOf Ot.zeroD) ∧ Below w.heap.size w wr ∧ w.heap.size + 2 ≤ wr.heap.size) (fun i wr => n - (intOf i).toNat)
  case atStart =>
    refine ⟨0, by omega, rfl, ?_, ?_, ((Below.refl _ _).alloc (Nat.le_refl _) _).alloc (by simp) _, by simp⟩
    · exact (Arr.new w 4 (fnOf x) 24 _ rfl).alloc (by simp) _
    · exact Arr.new' _ _ 4 _ 24 _ (by simp) rfl
  case round =>
    obtain ⟨k, hk, rfl, ha, hz, hb, hs⟩ := hrel
    generalize hy : Ot.walk pair x k = y at *
    have Hy := Lib.hid hy; clear hy
    obtain ⟨c0, c1, c2, c3⟩ := ha.dg
    have htr := ht.below hb
    by_cases hlt : k < n
    · go_wp2_with (go_at_call 63; refine (pair_any y Ot.one _ htr).mono ?_; rintro e w1 ⟨rfl, hb1⟩; have ha1 := ha.below hb1 (by omega); obtain ⟨d0, d1, d2, d3⟩ := ha1.dg; have hf := fun j h => ha1.free j h)
      go_roundw
      case rel =>
        refine ⟨k + 1, by omega, by go_num, ?_, ?_, ?_, ?_⟩
        · have e : Ot.walk pair x (k + 1) = pair y Ot.one := by rw [← Hy.out]; rfl
          rw [e]; exact ha1.fill4 (fnOf (pair y Ot.one))
        · exact ((((hz.below hb1 (by omega)).set_other _ _ (by simp)).set_other _ _ (by simp)).set_other _ _ (by simp)).set_other _ _ (by simp)
        · exact (hb.trans (hb1.mono (by omega))).fill4 (by omega) _ _ _ _
        · have := hb1.size; simp; omega
      case measure => simp [intOf]; omega
    · obtain rfl : k = n := by omega
      obtain ⟨d0, d1, d2, d3⟩ := hz.dg
      have hf := fun j h => hz.free j h
      go_wp2
      refine bodyPost_ret (v := dgv y) (by simp [results, Tryd.results48, go_sem, d0, d1, d2, d3]) rfl ⟨by rw [Hy.out], ?_⟩
      exact hb.fill4 (by omega) _ _ _ _
set_option maxRecDepth 100000 in
theorem beg_any (x : Dg) (i : Nat) (hi : i < 4294967296) (w : World) (ht : Tn w) :
    Calls Tryd.prog 49 #[dgv x, .int .i64 i] w fun e w' => e = .returned (dgv (Ot.beg pair x i)) ∧ Below w.heap.size w w' := by
  obtain ⟨u, rfl⟩ : ∃ u : UInt32, u.toNat = i := ⟨UInt32.ofNat i, by rw [UInt32.toNat_ofNat']; omega⟩
  have hu := u.toNat_lt
  have e : Ot.beg pair x u.toNat = pair x ⟨u, 0, 0, 0⟩ := by simp only [Ot.beg, UInt32.ofNat_toNat]
  rw [e]
  clear e
  go_enter Tryd.func49, Tryd.ntmps49
  go_wp2_with fail
  have hb0 : Below w.heap.size w ((w.alloc (.cells #[.int .u32 x.a.toNat, .int .u32 x.b.toNat, .int .u32 x.c.toNat, .int .u32 x.d.toNat] 24)).alloc (.cells #[.int .u32 0, .int .u32 0, .int .u32 0, .int .u32 0] 24)) := ((Below.refl _ _).alloc (Nat.le_refl _) _).alloc (by simp) _
  refine (pair_any x ⟨u, 0, 0, 0⟩ _ (ht.below hb0)).mono ?_
  rintro e w1 ⟨rfl, hb1⟩
  have hz := (Arr.new' (w.alloc (.cells #[.int .u32 x.a.toNat, .int .u32 x.b.toNat, .int .u32 x.c.toNat, .int .u32 x.d.toNat] 24)) (w.heap.size + 1) 4 (fnOf Ot.zeroD) 24 #[.int .u32 0, .int .u32 0, .int .u32 0, .int .u32 0] (by simp) rfl).below hb1 (by simp)
  have hb2 := hb0.trans (hb1.mono (by simp <;> omega))
  clear hb0 hb1
  generalize hy : pair x ⟨u, 0, 0, 0⟩ = y
  have Hy := Lib.hid hy; clear hy
  obtain ⟨d0, d1, d2, d3⟩ := hz.dg
  have hf := fun j h => hz.free j h
  go_wp2
  exact bodyPost_ret (v := dgv y) (by simp [results, Tryd.results49, go_sem, d0, d1, d2, d3]) rfl ⟨by rw [Hy.out], hb2.fill4 (by omega) _ _ _ _⟩
/-- A function value that computes: called with i below n in a world that meets S, it gives E i, and S is kept. -/
def Does (f : Value) (n : Nat) (E : Nat → Dg) (S : World → Prop) : Prop :=
  ∃ g caps, f = .func (.func g) #[] caps ∧ (∀ args w, (callFunc g args).run Tryd.prog w = .ok (.enter g args) w) ∧ ∀ i w, i < n → S w → Calls Tryd.prog g (#[.int .i64 (i : Nat)] ++ caps) w fun e w' => e = .returned (dgv (E i)) ∧ Below w.heap.size w w'
set_option maxRecDepth 100000 in
set_option maxHeartbeats 400000 in
theorem ends_any (f : Value) (E : Nat → Dg) (S : World → Prop) (hS : ∀ w w', S w → Below w.heap.size w w' → S w') (hSt : ∀ w, S w → Tn w) (hf : Does f 35 E S) (w : World) (hw : S w) :
    Calls Tryd.prog 46 #[f] w fun e w' => e = .returned (dgv (Ot.ends pair E)) ∧ Below w.heap.size w w' := by
  obtain ⟨g, caps, rfl, hcf, hf⟩ := hf
  go_enter Tryd.func46, Tryd.ntmps46
  go_wp2
  go_loopw [6] (fun i wr => ∃ k : Nat, k ≤ 35 ∧ i = .int .i64 k ∧ Arr wr (w.heap.size+1) 4 (fnOf (Ot.endsTo pair E k)) ∧ Arr wr w.heap.size 4 (fnOf Ot.zeroD) ∧ Below w.heap.size w wr ∧ w.heap.size + 2 ≤ wr.heap.size) (fun i wr => 35 - (intOf i).toNat)
  case atStart =>
    refine ⟨0, by omega, rfl, ?_, ?_, ((Below.refl _ _).alloc (Nat.le_refl _) _).alloc (by simp) _, by simp⟩
    · exact Arr.new' _ _ 4 _ 24 _ (by simp) rfl
    · exact (Arr.new w 4 (fnOf Ot.zeroD) 24 _ rfl).alloc (by simp) _
  case round =>
    obtain ⟨k, hk, rfl, ha, hz, hb, hs⟩ := hrel
    generalize hy : Ot.endsTo pair E k = y at *
    have Hy := Lib.hid hy; clear hy
    by_cases hlt : k < 35
    · have Hf := Lib.hid hf; clear hf
      go_wp2
      refine wp_region_head (fun w' => S w' ∧ Arr w' (w.heap.size+1) 4 (fnOf y) ∧ Arr w' w.heap.size 4 (fnOf Ot.zeroD) ∧ Below w.heap.size w w' ∧ w.heap.size + 2 ≤ w'.heap.size) 4 (by kernel_rfl) (by kernel_rfl) ?_ ?_
      · exact ⟨hS _ _ hw hb.drew, ha.drew, hz.drew, hb.drew, hs⟩
      simp only [List.take_succ_cons, List.take_zero, List.drop_succ_cons, List.drop_zero]
      refine wpHead_cons rfl (dgv y) (fun wx hx => ?_) ?_
      · obtain ⟨c0, c1, c2, c3⟩ := hx.2.1.dg
        have H := Lib.hid hx; clear hx
        go_simp; exact H.out
      go_frame
      refine wpHead_cons rfl (.func (.func g) #[] caps) (fun wx hx => ?_) ?_
      · have H := Lib.hid hx; clear hx
        go_simp; exact H.out
      go_frame
      refine wpHead_cons rfl (.int .i64 k) (fun wx hx => ?_) ?_
      · have H := Lib.hid hx; clear hx
        go_simp; exact H.out
      go_frame
      refine wpHead_cons rfl (dgv (E k)) (fun wx hx => ?_) ?_
      · have H := Lib.hid hx; clear hx
        go_simp
        obtain ⟨h1, h2, h3, h4, h5⟩ := H.out
        refine (Hf.out k wx hlt h1).mono ?_
        rintro e w1 ⟨rfl, hb1⟩
        exact ⟨rfl, hS _ _ h1 hb1, h2.below hb1 (h2.lt (by decide)), h3.below hb1 (h3.lt (by decide)), h4.trans (hb1.mono (by omega)), Nat.le_trans h5 hb1.size⟩
      go_frame
      refine wpHead_nil ?_
      rintro w1 ⟨h1, h2, h3, h4, h5⟩
      have ht1 := hSt _ h1
      generalize hz2 : E k = z at *
      have Hz2 := Lib.hid hz2; clear hz2
      clear hcf
      go_wp2_with (go_at_call 63; refine (pair_any y z _ ht1).mono ?_; rintro e w2 ⟨rfl, hb1⟩; have ha1 := h2.below hb1 (by omega); obtain ⟨d0, d1, d2, d3⟩ := ha1.dg; have hf := fun j h => ha1.free j h)
      go_roundw
      case rel =>
        refine ⟨k + 1, by omega, by go_num, ?_, ?_, ?_, ?_⟩
        · have e : Ot.endsTo pair E (k + 1) = pair y z := by rw [← Hy.out, ← Hz2.out]; rfl
          rw [e]; exact ha1.fill4 (fnOf (pair y z))
        · exact ((((h3.below hb1 (by omega)).set_other _ _ (by simp)).set_other _ _ (by simp)).set_other _ _ (by simp)).set_other _ _ (by simp)
        · exact (h4.trans (hb1.mono (by omega))).fill4 (by omega) _ _ _ _
        · have := hb1.size; simp; omega
      case measure => simp [intOf]; omega
    · obtain rfl : k = 35 := by omega
      clear hcf hf
      obtain ⟨c0, c1, c2, c3⟩ := ha.dg
      obtain ⟨d0, d1, d2, d3⟩ := hz.dg
      have hf := fun j h => hz.free j h
      go_wp2
      refine bodyPost_ret (v := dgv y) (by simp [results, Tryd.results46, go_sem, d0, d1, d2, d3]) rfl ⟨by rw [← Hy.out]; rfl, ?_⟩
      exact hb.fill4 (Nat.le_refl _) _ _ _ _
/-- The closure of Public. -/
theorem pub1_any (x : Dg) (b i : Nat) (hi : i < 35) (w : World) (ht : Tn w) (hx : Arr w b 4 (fnOf x)) :
    Calls Tryd.prog 47 #[.int .i64 i, .pointer (some ⟨b, 0, none⟩)] w fun e w' => e = .returned (dgv (Ot.walk pair (Ot.beg pair x i) 15)) ∧ Below w.heap.size w w' := by
  obtain ⟨c0, c1, c2, c3⟩ := hx.dg
  have hbl := hx.lt (by decide)
  have hne : b ≠ w.heap.size := by omega
  generalize hy : Ot.beg pair x i = y at *
  generalize hz : Ot.walk pair y 15 = z at *
  have Hy := Lib.hid hy; clear hy
  have Hz := Lib.hid hz; clear hz
  go_enter Tryd.func47, Tryd.ntmps47
  go_wp2_with fail
  have hb0 : Below w.heap.size w (w.alloc (.cells #[.int .u32 0, .int .u32 0, .int .u32 0, .int .u32 0] 24)) := (Below.refl _ _).alloc (Nat.le_refl _) _
  refine (beg_any x i (by omega) _ (ht.below hb0)).mono ?_
  rw [Hy.out]
  rintro e w1 ⟨rfl, hb1⟩
  have hz1 := (Arr.new w 4 (fnOf Ot.zeroD) 24 #[.int .u32 0, .int .u32 0, .int .u32 0, .int .u32 0] rfl).below hb1 (by simp)
  have hb2 := hb0.trans (hb1.mono (by simp <;> omega))
  have ht1 := ht.below hb2
  clear hb0 hb1 c0 c1 c2 c3 hx
  go_wp2_with fail
  refine (along_any y 15 (by decide) _ ht1).mono ?_
  rw [Hz.out]
  rintro e w2 ⟨rfl, hb3⟩
  have hz2 := hz1.below hb3 (hz1.lt (by decide))
  have hb4 := hb2.trans (hb3.mono hb2.size)
  obtain ⟨d0, d1, d2, d3⟩ := hz2.dg
  have hf := fun j h => hz2.free j h
  go_wp2
  exact bodyPost_ret (v := dgv z) (by simp [results, Tryd.results47, go_sem, d0, d1, d2, d3]) rfl ⟨rfl, hb4.fill4 (Nat.le_refl _) _ _ _ _⟩
theorem pub1_does (x : Dg) (b : Nat) : Does (.func (.func 47) #[] #[.pointer (some ⟨b, 0, none⟩)]) 35 (fun i => Ot.walk pair (Ot.beg pair x i) 15) (fun w => Tn w ∧ Arr w b 4 (fnOf x)) :=
  ⟨47, _, rfl, fun args w => by kernel_rfl, fun i w hi hS => pub1_any x b i hi w hS.1 hS.2⟩
theorem public_any (x : Dg) (w : World) (ht : Tn w) :
    Calls Tryd.prog 21 #[dgv x] w fun e w' => e = .returned (dgv (Ot.pub pair x)) ∧ Below w.heap.size w w' := by
  have hmf : ∀ (fn : Fn) (first cap : Array Value) (w : World), (Instr.makeFunc fn first cap).run Tryd.prog w = .ok (.func fn first cap) w := fun _ _ _ _ => rfl
  have hp : Ot.pub pair x = Ot.ends pair (fun i => Ot.walk pair (Ot.beg pair x i) 15) := rfl
  rw [hp]
  clear hp
  go_enter Tryd.func21, Tryd.ntmps21
  go_wp2_with fail
  have hb0 : Below w.heap.size w ((w.alloc (.cells #[.int .u32 x.a.toNat, .int .u32 x.b.toNat, .int .u32 x.c.toNat, .int .u32 x.d.toNat] 24)).alloc (.cells #[.int .u32 0, .int .u32 0, .int .u32 0, .int .u32 0] 24)) := ((Below.refl _ _).alloc (Nat.le_refl _) _).alloc (by simp) _
  refine (ends_any _ _ _ (fun w w' h hb => ⟨h.1.below hb, h.2.below hb (h.2.lt (by decide))⟩) (fun w h => h.1) (pub1_does x w.heap.size) _ ⟨ht.below hb0, (Arr.new w 4 (fnOf x) 24 _ rfl).alloc (by simp) _⟩).mono ?_
  rintro e w1 ⟨rfl, hb1⟩
  have hz := (Arr.new' (w.alloc (.cells #[.int .u32 x.a.toNat, .int .u32 x.b.toNat, .int .u32 x.c.toNat, .int .u32 x.d.toNat] 24)) (w.heap.size + 1) 4 (fnOf Ot.zeroD) 24 #[.int .u32 0, .int .u32 0, .int .u32 0, .int .u32 0] (by simp) rfl).below hb1 (by simp)
  have hb2 := hb0.trans (hb1.mono (by simp <;> omega))
  clear hb0 hb1
  generalize hy : Ot.ends pair (fun i => Ot.walk pair (Ot.beg pair x i) 15) = y at *
  have Hy := Lib.hid hy; clear hy
  obtain ⟨d0, d1, d2, d3⟩ := hz.dg
  have hf := fun j h => hz.free j h
  go_wp2
  exact bodyPost_ret (v := dgv y) (by simp [results, Tryd.results21, go_sem, d0, d1, d2, d3]) rfl ⟨by rw [Hy.out], hb2.fill4 (by omega) _ _ _ _⟩
end Go.Proofs.YtpodfmnnabepaaaDoor
