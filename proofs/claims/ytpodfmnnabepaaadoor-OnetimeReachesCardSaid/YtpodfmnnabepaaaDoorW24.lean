import Derived.Test.YtpodfmnnabepaaaDoorW22
namespace Go.Proofs.YtpodfmnnabepaaaDoor
open Go.RowKit
open Ot (Dg)
set_option maxRecDepth 100000 in
theorem rreach_short (m : Dg) (v : Value) (l : List Dg) (hl : l.length ≠ 35) (w : World) (hv : SigAt w v l) :
    Calls Tryd.prog 28 #[dgv m, v] w fun e w' => e = .returned (.tuple #[dgv Ot.zeroD, .bool false]) ∧ Below w.heap.size w w' := by
  obtain ⟨A, c, rfl, hl1, _⟩ := hv
  have hne : ((l.length : Int) != 35) = true := by rw [bne_iff_ne]; omega
  generalize l.length = n at *
  go_enter Tryd.func28, Tryd.ntmps28
  go_wp2
  refine bodyPost_ret (v := .tuple #[dgv Ot.zeroD, .bool false]) (by simp [results, Tryd.results28, go_sem]; first | rfl | (and_intros <;> rfl)) rfl ⟨rfl, ?_⟩
  exact ((Below.refl _ _).alloc (Nat.le_refl _) _).alloc (by simp) _
/-- What the reference's Reach folds. -/
noncomputable def rks (m : Dg) (s : List Dg) : List Dg := (List.range 35).map fun i => Ot.walk pair (s.getD i Ot.zeroD) (15 - (Ot.steps m).getD i 0)
theorem ofK_rks (m : Dg) (s : List Dg) : ofK (rks m s) = Ot.reachK pair m s := ofK_range _ 35
set_option maxRecDepth 100000 in
set_option maxHeartbeats 2000000 in
theorem rreach_full (m : Dg) (v : Value) (l : List Dg) (hl : l.length = 35) (w : World) (hv : SigAt w v l) :
    Calls Tryd.prog 28 #[dgv m, v] w fun e w' => e = .returned (.tuple #[dgv (Ot.reachK pair m l), .bool true]) ∧ Below w.heap.size w w' := by
  obtain ⟨i0, hi, hz0, hz1, hz2⟩ := info_parts Tryd.info24
  obtain ⟨A, c, rfl, _, hcs⟩ := hv
  obtain ⟨b, off, rfl, hbl, hcs⟩ := hcs (by omega)
  rw [hl] at hcs ⊢
  go_enter Tryd.func28, Tryd.ntmps28
  go_wp2_with fail
  generalize hW : ((w.alloc (.cells #[.int .u32 m.a.toNat, .int .u32 m.b.toNat, .int .u32 m.c.toNat, .int .u32 m.d.toNat] 24)).alloc (.cells #[.int .u32 0, .int .u32 0, .int .u32 0, .int .u32 0] 24)) = W
  have hb0 : Below w.heap.size w W := by subst hW; exact ((Below.refl _ _).alloc (Nat.le_refl _) _).alloc (by simp) _
  have hz0' : Arr W (w.heap.size + 1) 4 (fnOf Ot.zeroD) := by subst hW; exact Arr.new' _ _ 4 (fnOf Ot.zeroD) 24 _ (by simp) rfl
  have hs0 : w.heap.size + 2 ≤ W.heap.size := by subst hW; simp
  clear hW
  refine (rsteps_any m _).mono ?_
  rintro e w1 ⟨v, rfl, hb1, hown⟩
  have hn := own_num hown
  have hz1' := hz0'.keep hb1 (by decide)
  have hb2 := hb0.trans (hb1.mono hb0.size)
  have hs1 : w.heap.size + 2 ≤ w1.heap.size := by have := hb1.size; omega
  clear hb0 hb1 hown hz0'
  obtain ⟨g, cap, rfl, hgl, hcell⟩ := hn
  go_wp2_with fail
  go_loopw [7, 8] (fun v i wr => ∃ k : Nat, k ≤ 35 ∧ i = .int .i64 k ∧ wr.ownsRow w1.heap.size 24 4 v k (dcs ((rks m l).take k)) ∧ Below w1.heap.size w1 wr) (fun _ i wr => 35 - (intOf i).toNat)
  case atStart => exact ⟨0, by omega, rfl, World.ownsRow_nil _ _ _ _, Below.refl _ _⟩
  case round =>
    obtain ⟨k, hk, rfl, hown, hb⟩ := hrel
    by_cases hlt : k < 35
    · have hd : decide ((k : Int) < 35) = true := by simp; omega
      have hk1 : (k : Int) < 35 := by omega
      have hk0 : (0 : Int) ≤ (k : Int) := by omega
      have hck := (hb.cell (p := ⟨g, k, none⟩) hgl).trans (hcell k hlt)
      have hdk := (hcs k hlt).below (hb2.trans (hb.mono hb2.size)) hbl
      have hst := Ot.steps_at_le m k
      have hts : (rks m l).take (k + 1) = (rks m l).take k ++ [Ot.walk pair (l.getD k Ot.zeroD) (15 - (Ot.steps m).getD k 0)] := map_take_snoc _ k 35 hlt
      generalize (Ot.steps m).getD k 0 = n at *
      generalize hy : l.getD k Ot.zeroD = d at *
      have q2 : (15 - (n : Int)) = ((15 - n : Nat) : Int) := by omega
      generalize hnn : 15 - n = n' at *
      have q3 : IntKind.i64.wrap (n' : Int) = (n' : Int) := IntWalk.i64_in _ (by omega)
      generalize hzz : Ot.walk pair d n' = z at *
      have Hts := Lib.hid hts; have Hy := Lib.hid hy; have Hz := Lib.hid hzz; clear hts hy hzz
      have Hcell := Lib.hid hcell; have Hcs := Lib.hid hcs; clear hcell hcs
      go_upto_region 8 with fail
      refine wp_region_inv (fun wx => DgAt wx b (off + k * 4) d ∧ wx.ownsRow w1.heap.size 24 4 u7 k (dcs ((rks m l).take k)) ∧ Below w1.heap.size w1 wx ∧ wx.cell? ⟨g, k, none⟩ = some (.int .i64 n)) (fun j v w' => match j with | 0 => v = u7 | 1 => v = .slice (some ⟨b, off, none⟩) 35 c | 2 => v = .int .i64 k | 3 => v = .pointer (some ⟨b, off + k * 4, none⟩) | 4 => v = dgv d | 5 => v = .slice (some ⟨g, 0, none⟩) 35 cap | 6 => v = .int .i64 k | 7 => v = .pointer (some ⟨g, k, none⟩) | 8 => v = .int .i64 n | 9 => v = .int .i64 n' | 10 => v = dgv z | 11 => ∃ B, v = .slice (some ⟨B, 0, none⟩) 1 1 ∧ DgAt w' B 0 z | _ => True) 12 (by kernel_rfl) (by kernel_rfl) ⟨hdk, hown.drew, hb.drew, hck⟩
        (fun _ _ h hb => ⟨h.1.below hb h.1.lt, own_keep h.2.1 hb, h.2.2.1.trans (hb.mono h.2.2.1.size), cell_keep h.2.2.2 hb⟩) ?_ ?_ ?_
      · rintro (_|_|_|_|_|_|_|_|_|_|_|_|j) v w1 w2 hb h
        all_goals first | exact h | (obtain ⟨B, rfl, hD⟩ := h; exact ⟨B, rfl, hD.below hb hD.lt⟩)
      · refine ⟨fun us wx hx hd => ?_, fun us wx hx hd => ?_, fun us wx hx hd => ?_, fun us wx hx hd => ?_, fun us wx hx hd => ?_, fun us wx hx hd => ?_, fun us wx hx hd => ?_, fun us wx hx hd => ?_, fun us wx hx hd => ?_, fun us wx hx hd => ?_, fun us wx hx hd => ?_, fun us wx hx hd => ?_, trivial⟩
        all_goals simp only [putAll, dstOf, List.getElem?_toArray, List.getElem?_cons_succ, List.getElem?_cons_zero, Option.bind_some]
        all_goals go_frame
        · go_simp; exact Below.refl _ _
        · go_simp; exact Below.refl _ _
        · go_simp; exact Below.refl _ _
        · rw [show us 1 = .slice (some ⟨b, off, none⟩) 35 c from hd 1 rfl, show us 2 = .int .i64 k from hd 2 rfl]
          go_simp
          exact Below.refl _ _
        · rw [show us 3 = .pointer (some ⟨b, off + k * 4, none⟩) from hd 3 rfl]
          obtain ⟨c0, c1, c2, c3⟩ := hx.1
          have H := Lib.hid hx; clear hx
          go_simp
          first | exact Below.refl _ _ | exact ⟨by and_intros <;> rfl, Below.refl _ _⟩
        · go_simp; exact Below.refl _ _
        · go_simp; exact Below.refl _ _
        · rw [show us 5 = .slice (some ⟨g, 0, none⟩) 35 cap from hd 5 rfl, show us 6 = .int .i64 k from hd 6 rfl]
          go_simp
          exact Below.refl _ _
        · rw [show us 7 = .pointer (some ⟨g, k, none⟩) from hd 7 rfl]
          have c := hx.2.2.2
          go_simp
          exact Below.refl _ _
        · rw [show us 8 = .int .i64 n from hd 8 rfl]
          go_simp
          first | exact Below.refl _ _ | exact ⟨by omega, Below.refl _ _⟩
        · rw [show us 4 = dgv d from hd 4 rfl, show us 9 = .int .i64 n' from hd 9 rfl]
          go_simp
          refine (rwalk_any d n' (by omega) _).mono ?_
          rw [Hz.out]
          rintro e w1 ⟨rfl, hb1⟩
          exact ⟨_, rfl, rfl, hb1⟩
        · rw [show us 10 = dgv z from hd 10 rfl]
          have Hx := Lib.hid hx; clear hx
          go_simp
          refine ⟨?_, (Below.refl _ _).alloc (Nat.le_refl _) _⟩
          have := Arr.new wx 4 (fnOf z) 24 #[.int .u32 z.a.toNat, .int .u32 z.b.toNat, .int .u32 z.c.toNat, .int .u32 z.d.toNat] rfl
          exact this.dg
      rintro us W1 ⟨_, hown3, hb3, _⟩ hF
      have h0 : us 0 = u7 := hF 0 (by decide)
      obtain ⟨B, hB, hD⟩ : ∃ B, us 11 = .slice (some ⟨B, 0, none⟩) 1 1 ∧ DgAt W1 B 0 z := hF 11 (by decide)
      clear hF
      simp only [putAll, dstOf, List.getElem?_toArray, List.getElem?_cons_succ, List.getElem?_cons_zero, Option.bind_some, List.drop_succ_cons, List.drop_zero]
      rw [h0, hB]
      go_frame
      clear h0 hB hown
      have hbs := hb3.size
      go_wp2_with (at_builtin; refine wpList_append_own _ rfl _ _ 32 rfl w1.heap.size 24 i0 (dgv Ot.zeroD) 4 16 Tryd.underlying32 hi hz0 hz1 hz2 rfl (by decide) _ _ _ rfl hown3 ⟨B, 0, none⟩ 1 1 [.int .u32 z.a.toNat, .int .u32 z.b.toNat, .int .u32 z.c.toNat, .int .u32 z.d.toNat] rfl rfl ?c1 ?c2 ?c3 ?c4 ?c5 ?_)
      case c1 =>
        intro j u hu
        rw [add_at]
        obtain ⟨d0, d1, d2, d3⟩ := hD
        match j, hu with
        | 0, hu => simpa using d0.trans hu
        | 1, hu => simpa using d1.trans hu
        | 2, hu => simpa using d2.trans hu
        | 3, hu => simpa using d3.trans hu
      case c2 => exact dg_one z
      case c3 => unfold maxLen; omega
      case c4 => omega
      case c5 => omega
      intro v' w4 hown1 hg1 _
      have hb7 : Below w1.heap.size w1 w4 := hb3.grown hg1 (by omega) (fun q hq => (hown3.lt q hq).1)
      clear hg1 hown3 hb3
      go_wp2
      go_roundw
      case rel =>
        refine ⟨k + 1, by omega, by go_num, ?_, hb7⟩
        rw [Hts.out, dcs_snoc]
        exact hown1
      case measure => simp [intOf]; omega
    · obtain rfl : k = 35 := by omega
      have hln : (rks m l).length = 35 := by simp [rks]
      rw [List.take_of_length_le (by omega)] at hown
      have hsig := own_sig hown
      have hz2' := hz1'.keep hb (by decide)
      have hb3 := hb2.trans (hb.mono hb2.size)
      have hrs : w.heap.size + 2 ≤ wr.heap.size := by have := hb.size; omega
      have ho := ofK_rks m l
      generalize rks m l = ps at *
      generalize hp : Ot.reachK pair m l = p at *
      have Hp := Lib.hid hp; have Ho := Lib.hid ho; have Hs := Lib.hid hsig; have Hcell := Lib.hid hcell; have Hcs := Lib.hid hcs; clear hp ho hown hz1' hsig hcell hcs
      go_wp2_with fail
      refine (of_any _ ps _ Hs.out).mono ?_
      rw [Ho.out]
      rintro e w5 ⟨rfl, hb5⟩
      have hz3 := hz2'.keep hb5 (by decide)
      obtain ⟨d0, d1, d2, d3⟩ := hz3.dg
      have hf := fun j h => hz3.free j h
      go_wp2
      exact bodyPost_ret (v := .tuple #[dgv p, .bool true]) (by simp [results, Tryd.results28, go_sem, d0, d1, d2, d3]) rfl ⟨by rw [Hp.out], (hb3.trans (hb5.mono hb3.size)).fill4 (by omega) _ _ _ _⟩
set_option maxRecDepth 100000 in
theorem rcheck_short (p m : Dg) (v : Value) (l : List Dg) (hl : l.length ≠ 35) (w : World) (hv : SigAt w v l) :
    Calls Tryd.prog 29 #[dgv p, dgv m, v] w fun e w' => e = .returned (.bool false) ∧ Below w.heap.size w w' := by
  go_enter Tryd.func29, Tryd.ntmps29
  go_wp2_with fail
  generalize hW : ((w.alloc (.cells #[.int .u32 p.a.toNat, .int .u32 p.b.toNat, .int .u32 p.c.toNat, .int .u32 p.d.toNat] 24)).alloc (.cells #[.int .u32 m.a.toNat, .int .u32 m.b.toNat, .int .u32 m.c.toNat, .int .u32 m.d.toNat] 24)) = W
  have hb0 : Below w.heap.size w W := by subst hW; exact (((Below.refl _ _).alloc (Nat.le_refl _) _).alloc (by simp) _)
  have hv0 := hv.below hb0
  have hs0 := hb0.size
  clear hW hv
  refine (rreach_short m v l hl _ hv0).mono ?_
  rintro e w1 ⟨rfl, hb1⟩
  have hb2 := hb0.trans (hb1.mono hs0)
  clear hb0 hb1 hv0
  go_wp2
  go_ret
  exact ⟨rfl, hb2.alloc hb2.size _⟩
set_option maxRecDepth 100000 in
theorem rcheck_full (p m : Dg) (v : Value) (l : List Dg) (hl : l.length = 35) (w : World) (hv : SigAt w v l) :
    Calls Tryd.prog 29 #[dgv p, dgv m, v] w fun e w' => e = .returned (.bool (decide (Ot.reachK pair m l = p))) ∧ Below w.heap.size w w' := by
  generalize hk : Ot.reachK pair m l = k
  have Hk := Lib.hid hk; clear hk
  go_enter Tryd.func29, Tryd.ntmps29
  go_wp2_with fail
  generalize hW : ((w.alloc (.cells #[.int .u32 p.a.toNat, .int .u32 p.b.toNat, .int .u32 p.c.toNat, .int .u32 p.d.toNat] 24)).alloc (.cells #[.int .u32 m.a.toNat, .int .u32 m.b.toNat, .int .u32 m.c.toNat, .int .u32 m.d.toNat] 24)) = W
  have hb0 : Below w.heap.size w W := by subst hW; exact (((Below.refl _ _).alloc (Nat.le_refl _) _).alloc (by simp) _)
  have hz0 : Arr W w.heap.size 4 (fnOf p) := by subst hW; exact (Arr.new w 4 (fnOf p) 24 _ rfl).alloc (by simp) _
  have hv0 := hv.below hb0
  have hs0 := hb0.size
  have hsz0 : w.heap.size + 2 ≤ W.heap.size := by subst hW; simp
  clear hW hv
  refine (rreach_full m v l hl _ hv0).mono ?_
  rw [Hk.out]
  rintro e w1 ⟨rfl, hb1⟩
  have hb2 := hb0.trans (hb1.mono hs0)
  have hz1 := hz0.below hb1 (by omega)
  have hsz1 := hb1.size
  have hlt1 : w.heap.size < w1.heap.size := by omega
  obtain ⟨c0, c1, c2, c3⟩ := hz1.dg
  clear hb0 hb1 hv0 hl
  have hq := dg_eql k p
  go_wp2
  go_ret
  exact ⟨rfl, hb2.alloc hb2.size _⟩
end Go.Proofs.YtpodfmnnabepaaaDoor
