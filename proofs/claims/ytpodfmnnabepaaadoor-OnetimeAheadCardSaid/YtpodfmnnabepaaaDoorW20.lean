import Derived.Test.YtpodfmnnabepaaaDoorW18
import Derived.Test.YtpodfmnnabepaaaDoorR4
namespace Go.Proofs.YtpodfmnnabepaaaDoor
open Go.RowKit
open Ot (Dg)
set_option maxRecDepth 100000 in
theorem rwalk_any (x : Dg) (n : Nat) (hn : n ≤ 9223372036854775807) (w : World) :
    Calls Tryd.prog 31 #[dgv x, .int .i64 n] w fun e w' => e = .returned (dgv (Ot.walk pair x n)) ∧ Below w.heap.size w w' := by
  go_enter Tryd.func31, Tryd.ntmps31
  go_wp2
  go_loopw [5] (fun i wr => ∃ k : Nat, k ≤ n ∧ i = .int .i64 k ∧ Arr wr w.heap.size 4 (fnOf (Ot.walk pair x k)) ∧ Arr wr (w.heap.size+1) 4 (fnOf Ot.zeroD) ∧ Below w.heap.size w wr ∧ w.heap.size + 2 ≤ wr.heap.size) (fun i wr => n - (intOf i).toNat)
  case atStart =>
    refine ⟨0, by omega, rfl, ?_, ?_, ((Below.refl _ _).alloc (Nat.le_refl _) _).alloc (by simp) _, by simp⟩
    · exact (Arr.new w 4 (fnOf x) 24 _ rfl).alloc (by simp) _
    · exact Arr.new' _ _ 4 _ 24 _ (by simp) rfl
  case round =>
    obtain ⟨k, hk, rfl, ha, hz, hb, hs⟩ := hrel
    generalize hy : Ot.walk pair x k = y at *
    have Hy := Lib.hid hy; clear hy
    obtain ⟨c0, c1, c2, c3⟩ := ha.dg
    by_cases hlt : k < n
    · go_wp2_with (go_at_call 53; refine (rpair_any y Ot.one _).mono ?_; rintro e w1 ⟨rfl, hb1⟩; have ha1 := ha.below hb1 (by omega); obtain ⟨d0, d1, d2, d3⟩ := ha1.dg; have hf := fun j h => ha1.free j h)
      go_roundw
      case rel =>
        refine ⟨k + 1, by omega, by go_num, ?_, ?_, ?_, ?_⟩
        · have e : Ot.walk pair x (k + 1) = pair y Ot.one := by rw [← Hy.out]; rfl
          rw [e]; exact ha1.fill4 (fnOf (pair y Ot.one))
        · exact ((((hz.below hb1 (by omega)).set_other _ _ (by simp)).set_other _ _ (by simp)).set_other _ _ (by simp)).set_other _ _ (by simp)
        · exact (hb.trans (hb1.mono (by omega))).fill4 (by omega) _ _ _ _
        · have := hb1.size; simp; omega
      case measure => simp [intOf]; omega
    · obtain rfl : k = n := by omega
      obtain ⟨d0, d1, d2, d3⟩ := hz.dg
      have hf := fun j h => hz.free j h
      go_wp2
      refine bodyPost_ret (v := dgv y) (by simp [results, Tryd.results31, go_sem, d0, d1, d2, d3]) rfl ⟨by rw [Hy.out], ?_⟩
      exact hb.fill4 (by omega) _ _ _ _
set_option maxRecDepth 100000 in
theorem rbeg_any (x : Dg) (i : Nat) (hi : i < 4294967296) (w : World) :
    Calls Tryd.prog 50 #[dgv x, .int .i64 i] w fun e w' => e = .returned (dgv (Ot.beg pair x i)) ∧ Below w.heap.size w w' := by
  obtain ⟨u, rfl⟩ : ∃ u : UInt32, u.toNat = i := ⟨UInt32.ofNat i, by rw [UInt32.toNat_ofNat']; omega⟩
  have hu := u.toNat_lt
  have e : Ot.beg pair x u.toNat = pair x ⟨u, 0, 0, 0⟩ := by simp only [Ot.beg, UInt32.ofNat_toNat]
  rw [e]
  clear e
  go_enter Tryd.func50, Tryd.ntmps50
  go_wp2_with fail
  have hb0 : Below w.heap.size w ((w.alloc (.cells #[.int .u32 x.a.toNat, .int .u32 x.b.toNat, .int .u32 x.c.toNat, .int .u32 x.d.toNat] 24)).alloc (.cells #[.int .u32 0, .int .u32 0, .int .u32 0, .int .u32 0] 24)) := ((Below.refl _ _).alloc (Nat.le_refl _) _).alloc (by simp) _
  refine (rpair_any x ⟨u, 0, 0, 0⟩ _).mono ?_
  rintro e w1 ⟨rfl, hb1⟩
  have hz := (Arr.new' (w.alloc (.cells #[.int .u32 x.a.toNat, .int .u32 x.b.toNat, .int .u32 x.c.toNat, .int .u32 x.d.toNat] 24)) (w.heap.size + 1) 4 (fnOf Ot.zeroD) 24 #[.int .u32 0, .int .u32 0, .int .u32 0, .int .u32 0] (by simp) rfl).below hb1 (by simp)
  have hb2 := hb0.trans (hb1.mono (by simp <;> omega))
  clear hb0 hb1
  generalize hy : pair x ⟨u, 0, 0, 0⟩ = y
  have Hy := Lib.hid hy; clear hy
  obtain ⟨d0, d1, d2, d3⟩ := hz.dg
  have hf := fun j h => hz.free j h
  go_wp2
  exact bodyPost_ret (v := dgv y) (by simp [results, Tryd.results50, go_sem, d0, d1, d2, d3]) rfl ⟨by rw [Hy.out], hb2.fill4 (by omega) _ _ _ _⟩
/-- The fold of a row of digests, as the reference has it. -/
noncomputable def ofK (l : List Dg) : Dg := l.foldl pair ⟨35, 0, 0, 0⟩
set_option maxRecDepth 100000 in
set_option maxHeartbeats 1000000 in
theorem of_any (v : Value) (l : List Dg) (w : World) (hv : SigAt w v l) :
    Calls Tryd.prog 51 #[v] w fun e w' => e = .returned (dgv (ofK l)) ∧ Below w.heap.size w w' := by
  obtain ⟨A, c, rfl, hl1, hc⟩ := hv
  go_enter Tryd.func51, Tryd.ntmps51
  go_wp2_with fail
  generalize hW : ((w.alloc (.cells #[.int .u32 0, .int .u32 0, .int .u32 0, .int .u32 0] 24)).alloc (.cells #[.int .u32 35, .int .u32 0, .int .u32 0, .int .u32 0] 24)) = W
  have hb0 : Below w.heap.size w W := by subst hW; exact ((Below.refl _ _).alloc (Nat.le_refl _) _).alloc (by simp) _
  have hz0 : Arr W w.heap.size 4 (fnOf Ot.zeroD) := by subst hW; exact (Arr.new w 4 (fnOf Ot.zeroD) 24 _ rfl).alloc (by simp) _
  have ha0 : Arr W (w.heap.size + 1) 4 (fnOf ⟨35, 0, 0, 0⟩) := by subst hW; exact Arr.new' _ _ 4 (fnOf ⟨35, 0, 0, 0⟩) 24 _ (by simp) rfl
  have hs0 : w.heap.size + 2 ≤ W.heap.size := by subst hW; simp
  clear hW
  go_loopw [4] (fun i wr => ∃ k : Nat, k ≤ l.length ∧ i = .int .i64 k ∧ Arr wr (w.heap.size + 1) 4 (fnOf (ofK (l.take k))) ∧ Arr wr w.heap.size 4 (fnOf Ot.zeroD) ∧ Below w.heap.size w wr ∧ w.heap.size + 2 ≤ wr.heap.size) (fun i wr => l.length - (intOf i).toNat)
  case atStart => exact ⟨0, by omega, rfl, ha0, hz0, hb0, hs0⟩
  case round =>
    obtain ⟨k, hk, rfl, ha, hz, hb, hs⟩ := hrel
    by_cases hlt : k < l.length
    · obtain ⟨b, off, rfl, hbl, hcell⟩ := hc (by omega)
      have hck := (hcell k hlt).below hb hbl
      have hts : ofK (l.take (k + 1)) = pair (ofK (l.take k)) (l.getD k Ot.zeroD) := by
        rw [take_snoc_d l k hlt, ofK, List.foldl_append]; rfl
      generalize hy : ofK (l.take k) = y at *
      generalize hd0 : l.getD k Ot.zeroD = d at *
      generalize hp : pair y d = z at *
      have Hp := Lib.hid hp; have Hts := Lib.hid hts; have Hy := Lib.hid hy; have Hd := Lib.hid hd0; clear hp hts hy hd0
      have hd : decide ((k : Int) < (l.length : Int)) = true := by simp; omega
      have hk1 : (k : Int) < (l.length : Int) := by omega
      have hk0 : (0 : Int) ≤ (k : Int) := by omega
      have Hc := Lib.hid hc; have Hcell := Lib.hid hcell; clear hc hcell
      go_upto_region 5 with fail
      refine wp_region_inv (fun wx => Arr wx (w.heap.size + 1) 4 (fnOf y) ∧ Arr wx w.heap.size 4 (fnOf Ot.zeroD) ∧ Below w.heap.size w wx ∧ w.heap.size + 2 ≤ wx.heap.size ∧ DgAt wx b (off + k * 4) d) (fun j v w' => match j with | 0 => v = dgv y | 1 => v = .slice (some ⟨b, off, none⟩) l.length c | 2 => v = .int .i64 k | 3 => v = .pointer (some ⟨b, off + k * 4, none⟩) | 4 => v = dgv d | 5 => v = dgv z | _ => True) 6 (by kernel_rfl) (by kernel_rfl) ⟨ha.drew, hz.drew, hb.drew, hs, hck⟩
        (fun _ _ h hb => ⟨h.1.keep hb (by decide), h.2.1.keep hb (by decide), h.2.2.1.trans (hb.mono h.2.2.1.size), Nat.le_trans h.2.2.2.1 hb.size, h.2.2.2.2.below hb h.2.2.2.2.lt⟩) ?_ ?_ ?_
      · rintro (_|_|_|_|_|_|j) v w1 w2 hb h
        all_goals exact h
      · refine ⟨fun us wx hx hd => ?_, fun us wx hx hd => ?_, fun us wx hx hd => ?_, fun us wx hx hd => ?_, fun us wx hx hd => ?_, fun us wx hx hd => ?_, trivial⟩
        all_goals simp only [putAll, dstOf, List.getElem?_toArray, List.getElem?_cons_succ, List.getElem?_cons_zero, Option.bind_some]
        all_goals go_frame
        · obtain ⟨c0, c1, c2, c3⟩ := hx.1.dg
          have H := Lib.hid hx; clear hx
          go_simp
          first | exact Below.refl _ _ | exact ⟨by and_intros <;> rfl, Below.refl _ _⟩
        · go_simp; exact Below.refl _ _
        · go_simp; exact Below.refl _ _
        · rw [show us 1 = .slice (some ⟨b, off, none⟩) l.length c from hd 1 rfl, show us 2 = .int .i64 k from hd 2 rfl]
          go_simp
          exact Below.refl _ _
        · rw [show us 3 = .pointer (some ⟨b, off + k * 4, none⟩) from hd 3 rfl]
          obtain ⟨c0, c1, c2, c3⟩ := hx.2.2.2.2
          have H := Lib.hid hx; clear hx
          go_simp
          first | exact Below.refl _ _ | exact ⟨by and_intros <;> rfl, Below.refl _ _⟩
        · rw [show us 0 = dgv y from hd 0 rfl, show us 4 = dgv d from hd 4 rfl]
          go_simp
          refine (rpair_any y d _).mono ?_
          rw [Hp.out]
          rintro e w1 ⟨rfl, hb1⟩
          exact ⟨_, rfl, rfl, hb1⟩
      rintro us W1 ⟨ha1, hz1, hb1, hs1, _⟩ hF
      have h5 : us 5 = dgv z := hF 5 (by decide)
      clear hF
      simp only [putAll, dstOf, List.getElem?_toArray, List.getElem?_cons_succ, List.getElem?_cons_zero, Option.bind_some, List.drop_succ_cons, List.drop_zero]
      rw [h5]
      go_frame
      clear h5
      have hfc := fun j h => ha1.cell j h
      have hff := fun j h => ha1.free j h
      go_wp2
      go_roundw
      case rel =>
        refine ⟨k + 1, by omega, by go_num, ?_, ?_, ?_, ?_⟩
        · rw [Hts.out]; exact ha1.fill4 (fnOf z)
        · exact (((hz1.set_other _ _ (by simp)).set_other _ _ (by simp)).set_other _ _ (by simp)).set_other _ _ (by simp)
        · exact hb1.fill4 (by omega) _ _ _ _
        · simpa using hs1
      case measure => simp [intOf]; omega
    · obtain rfl : k = l.length := by omega
      rw [List.take_length] at ha
      generalize hy : ofK l = y at *
      have Hy := Lib.hid hy; clear hy
      have Hc := Lib.hid hc; clear hc
      obtain ⟨c0, c1, c2, c3⟩ := ha.dg
      obtain ⟨d0, d1, d2, d3⟩ := hz.dg
      have hf := fun j h => hz.free j h
      go_wp2
      exact bodyPost_ret (v := dgv y) (by simp [results, Tryd.results51, go_sem, d0, d1, d2, d3]) rfl ⟨by rw [Hy.out], hb.fill4 (by omega) _ _ _ _⟩
end Go.Proofs.YtpodfmnnabepaaaDoor
