/- Texts of this claim, merged: Q20 Q21. Conditions: those written in each. -/
import Derived.Test.YtpodfmnnabepaaaDoorM5
namespace Go.Proofs.YtpodfmnnabepaaaDoor
open Go.RowKit
open Ot (Dg)
theorem SigAt.shape {w : World} {v : Value} {l : List Dg} (h : SigAt w v l) : ∃ A c, v = .slice A l.length c := by obtain ⟨A, c, h, _⟩ := h; exact ⟨A, c, h⟩
theorem PathAt.shape {w : World} {v : Value} {l : List Dg} (h : PathAt w v l) : ∃ A c, v = .slice A l.length c := by obtain ⟨A, c, h, _⟩ := h; exact ⟨A, c, h⟩
/-- What small's call comes to. -/
def SmPost (bs : List Dg) (L : List Sg) (w : World) (e : Ending) (w' : World) : Prop := ∃ r : Bool, e = .returned (.bool r) ∧ (r = true → bs.length ≤ 8 ∧ L.length ≤ 8) ∧ Below w.heap.size w w'
set_option maxRecDepth 100000 in
set_option maxHeartbeats 4000000 in
theorem small_any (bs : List Dg) (need : Int) (m : Dg) (L : List Sg) (bv lv : Value) (w : World) (hbs : SigAt w bv bs) (hv : SgsAt w lv L) :
    Calls Tryd.prog 38 #[qaskV bv need m lv] w (SmPost bs L w) := by
  obtain ⟨A, c, rfl, hlen, _⟩ := id hbs
  obtain ⟨B, d, rfl, hlL, hcs⟩ := id hv
  have Hcs := Lib.hid hcs; clear hcs hbs hv
  unfold qaskV
  generalize hW : w.alloc (.cells #[.slice A bs.length c, .int .i64 need, .int .u32 m.a.toNat, .int .u32 m.b.toNat, .int .u32 m.c.toNat, .int .u32 m.d.toNat, .slice B L.length d] 52) = W
  have hb0 : Below w.heap.size w W := by subst hW; exact (Below.refl _ _).alloc (Nat.le_refl _) _
  have p0 : W.cell? ⟨w.heap.size, 0, none⟩ = some (.slice A bs.length c) := by subst hW; exact World.cell?_alloc_new _ _ _ 0
  have p6 : W.cell? ⟨w.heap.size, 6, none⟩ = some (.slice B L.length d) := by subst hW; exact World.cell?_alloc_new _ _ _ 6
  have Hlen := Lib.hid hlen; have HlL := Lib.hid hlL; have Hb0 := Lib.hid hb0
  clear hlen hlL hb0
  go_enter Tryd.func38, Tryd.ntmps38
  go_wp2_with fail
  clear hW
  go_loop [3] (fun i => ∃ k : Nat, k ≤ L.length ∧ k ≤ 9 ∧ i = .int .i64 k) (fun i => 9 - (intOf i).toNat)
  case atStart => exact ⟨0, by omega, by omega, rfl⟩
  case round =>
    obtain ⟨k, hk, hk9, rfl⟩ := hrel
    by_cases hlt : k < L.length
    · have hk1 : (k : Int) < L.length := by omega
      have hk0 : (0 : Int) ≤ (k : Int) := by omega
      have hd : decide ((k : Int) < L.length) = true := by simp; omega
      by_cases h8 : k ≤ 8
      · have hd2 : decide ((k : Int) ≤ 8) = true := by simp; omega
        obtain ⟨b, off, rfl, hc⟩ := Hcs.out (by omega)
        obtain ⟨_, _, v, u, s5, s6, hv, hu⟩ := (hc k hlt).keep Hb0.out
        obtain ⟨A1, c1, rfl⟩ := hv.shape
        obtain ⟨A2, c2, rfl⟩ := hu.shape
        generalize (L.getD k zeroSg).one.length = n1 at *
        generalize (L.getD k zeroSg).path.length = n2 at *
        have Hc := Lib.hid hc; have Hlt := Lib.hid hlt; have H8 := Lib.hid h8
        clear hc hv hu hlt h8
        have q1 : IntKind.i64.wrap ((k : Int) + 1) = (k : Int) + 1 := IntWalk.i64_in _ (by omega)
        by_cases g1 : (40 : Int) < (n1 : Int)
        · have t1 := decide_eq_true g1
          go_wp2_with fail
          exact bodyPost_ret (v := .bool false) (by simp [results, Tryd.results38, go_sem]) rfl ⟨false, rfl, by simp, Hb0.out⟩
        · have t1 := decide_eq_false g1
          by_cases g2 : (8 : Int) < (n2 : Int)
          · have t2 := decide_eq_true g2
            go_wp2_with fail
            exact bodyPost_ret (v := .bool false) (by simp [results, Tryd.results38, go_sem]) rfl ⟨false, rfl, by simp, Hb0.out⟩
          · have t2 := decide_eq_false g2
            go_wp2_with fail
            refine ⟨⟨k + 1, Hlt.out, by have := H8.out; omega, by simp⟩, ?_⟩
            have := H8.out
            simp [intOf]; omega
      · have hd2 : decide ((k : Int) ≤ 8) = false := by simp; omega
        have g2 : decide ((L.length : Int) ≤ 8) = false := by simp; omega
        by_cases g1 : (bs.length : Int) ≤ 8
        · have t1 := decide_eq_true g1
          go_wp2_with fail
          exact bodyPost_ret (v := .bool false) (by simp [results, Tryd.results38, go_sem]) rfl ⟨false, rfl, by simp, Hb0.out⟩
        · have t1 := decide_eq_false g1
          go_wp2_with fail
          exact bodyPost_ret (v := .bool false) (by simp [results, Tryd.results38, go_sem]) rfl ⟨false, rfl, by simp, Hb0.out⟩
    · obtain rfl : k = L.length := by omega
      have hd : decide ((L.length : Int) < L.length) = false := by simp
      by_cases g1 : (bs.length : Int) ≤ 8
      · have t1 := decide_eq_true g1
        by_cases g2 : (L.length : Int) ≤ 8
        · have t2 := decide_eq_true g2
          go_wp2_with fail
          exact bodyPost_ret (v := .bool true) (by simp [results, Tryd.results38, go_sem]) rfl ⟨true, rfl, fun _ => by omega, Hb0.out⟩
        · have t2 := decide_eq_false g2
          go_wp2_with fail
          exact bodyPost_ret (v := .bool false) (by simp [results, Tryd.results38, go_sem]) rfl ⟨false, rfl, by simp, Hb0.out⟩
      · have t1 := decide_eq_false g1
        go_wp2_with fail
        exact bodyPost_ret (v := .bool false) (by simp [results, Tryd.results38, go_sem]) rfl ⟨false, rfl, by simp, Hb0.out⟩
set_option maxRecDepth 100000 in
set_option maxHeartbeats 4000000 in
theorem qints_any (v u : Value) (l : List Nat) (w : World) (hv : IntsAt w v l) (hu : IntsAt w u l) : Calls Tryd.prog 39 #[v, u] w fun e w' => e = .returned (.bool true) ∧ Below w.heap.size w w' := by
  obtain ⟨A, c, rfl, hl, hA⟩ := hv
  obtain ⟨B, d, rfl, _, hB⟩ := hu
  have HA := Lib.hid hA; have HB := Lib.hid hB; have Hl := Lib.hid hl; clear hA hB hl
  have t0 : ((l.length : Int) == (l.length : Int)) = true := by simp
  go_enter Tryd.func39, Tryd.ntmps39
  go_wp2_with fail
  go_loopw [5] (fun i wr => ∃ k : Nat, k ≤ l.length ∧ i = .int .i64 k ∧ Below w.heap.size w wr) (fun i _ => l.length - (intOf i).toNat)
  case atStart => exact ⟨0, by omega, rfl, Below.refl _ _⟩
  case round =>
    obtain ⟨k, hk, rfl, hb⟩ := hrel
    by_cases hlt : k < l.length
    · obtain ⟨g, rfl, hg⟩ := HA.out (by omega)
      obtain ⟨g', rfl, hg'⟩ := HB.out (by omega)
      have x0 := cell_keep (hg k hlt) hb
      have y0 := cell_keep (hg' k hlt) hb
      generalize l.getD k 0 = n at *
      have hk1 : (k : Int) < l.length := by omega
      have hk0 : (0 : Int) ≤ (k : Int) := by omega
      have hd : decide ((k : Int) < l.length) = true := by simp; omega
      have hnn : ((n : Int) == (n : Int)) = true := by simp
      have Hg := Lib.hid hg; have Hg' := Lib.hid hg'; have Hlt := Lib.hid hlt
      have q1 : IntKind.i64.wrap ((k : Int) + 1) = (k : Int) + 1 := IntWalk.i64_in _ (by have := Hl.out; omega)
      clear hg hg' hlt
      go_wp2_with fail
      go_quiet (fail)
      go_wp2_with fail
      refine ⟨⟨k + 1, Hlt.out, by simp, pw_drewN hb _⟩, ?_⟩
      have := Hlt.out
      simp [intOf]; omega
    · obtain rfl : k = l.length := by omega
      have hd : decide ((l.length : Int) < l.length) = false := by simp
      go_wp2_with fail
      exact bodyPost_ret (v := .bool true) (by simp [results, Tryd.results39, go_sem]) rfl ⟨rfl, hb⟩
end Go.Proofs.YtpodfmnnabepaaaDoor

namespace Go.Proofs.YtpodfmnnabepaaaDoor
open Go.RowKit
open Ot (Dg)
/-- An Ask in memory. -/
structure AskB (W : World) (P : Nat) (bs : List Dg) (need : Int) (m : Dg) (L : List Sg) (bv lv : Value) : Prop where
  c0 : W.cell? ⟨P, 0, none⟩ = some bv
  c1 : W.cell? ⟨P, 1, none⟩ = some (.int .i64 need)
  c2 : W.cell? ⟨P, 2, none⟩ = some (.int .u32 m.a.toNat)
  c3 : W.cell? ⟨P, 3, none⟩ = some (.int .u32 m.b.toNat)
  c4 : W.cell? ⟨P, 4, none⟩ = some (.int .u32 m.c.toNat)
  c5 : W.cell? ⟨P, 5, none⟩ = some (.int .u32 m.d.toNat)
  c6 : W.cell? ⟨P, 6, none⟩ = some lv
  hbs : SigAt W bv bs
  hL : SgsAt W lv L
  ht : Tn W
theorem AskB.keep {W W' : World} {P : Nat} {bs : List Dg} {need : Int} {m : Dg} {L : List Sg} {bv lv : Value} (h : AskB W P bs need m L bv lv) (hb : Below W.heap.size W W') : AskB W' P bs need m L bv lv :=
  ⟨cell_keep h.c0 hb, cell_keep h.c1 hb, cell_keep h.c2 hb, cell_keep h.c3 hb, cell_keep h.c4 hb, cell_keep h.c5 hb, cell_keep h.c6 hb, h.hbs.below hb, h.hL.keep hb, h.ht.below hb⟩
theorem AskB.new {w : World} {bs : List Dg} {need : Int} {m : Dg} {L : List Sg} {bv lv : Value} (ht : Tn w) (hbs : SigAt w bv bs) (hv : SgsAt w lv L) :
    AskB (w.alloc (.cells #[bv, .int .i64 need, .int .u32 m.a.toNat, .int .u32 m.b.toNat, .int .u32 m.c.toNat, .int .u32 m.d.toNat, lv] 52)) w.heap.size bs need m L bv lv := by
  have k := fun j => World.cell?_alloc_new w #[bv, .int .i64 need, .int .u32 m.a.toNat, .int .u32 m.b.toNat, .int .u32 m.c.toNat, .int .u32 m.d.toNat, lv] 52 j
  have hb : Below w.heap.size w (w.alloc (.cells #[bv, .int .i64 need, .int .u32 m.a.toNat, .int .u32 m.b.toNat, .int .u32 m.c.toNat, .int .u32 m.d.toNat, lv] 52)) := (Below.refl _ _).alloc (Nat.le_refl _) _
  exact ⟨k 0, k 1, k 2, k 3, k 4, k 5, k 6, hbs.below hb, hv.keep hb, ht.below hb⟩
/-- Is the builder of a place named? -/
def nmdN (bs : List Dg) (L : List Sg) (i : Nat) : Bool := L.any fun s => decide (s.b = bs.getD i Ot.zeroD)
def nmdP (L : List Sg) (x : Dg) : Bool := L.any fun s => decide (s.b = x)
theorem who_le_named (bs : List Dg) (m : Dg) (L : List Sg) : (whoN bs m L).length ≤ (Qu.places (nmdN bs L) bs.length).length := by
  refine Qu.places_mono fun i _ h => ?_
  simp only [agN, nmdN, List.any_eq_true, sgOk, Bool.and_eq_true] at *
  obtain ⟨s, h1, h2, _⟩ := h
  exact ⟨s, h1, h2⟩
set_option maxRecDepth 100000 in
set_option maxHeartbeats 8000000 in
theorem lfew_any (bs : List Dg) (need : Int) (m : Dg) (L : List Sg) (bv lv : Value) (w : World) (ht : Tn w) (hbs : SigAt w bv bs) (hcap : Capd bv) (hv : SgsAt w lv L) (_ : Capd lv) (_ : -9223372036854775808 ≤ need) (_ : need ≤ 9223372036854775807) :
    Calls Tryd.prog 12 #[qaskV bv need m lv] w fun e w' => e = .returned (.bool true) ∧ Below w.heap.size w w' := by
  have hA0 := AskB.new (need := need) (m := m) ht hbs hv
  have hb0 : Below w.heap.size w (w.alloc (.cells #[bv, .int .i64 need, .int .u32 m.a.toNat, .int .u32 m.b.toNat, .int .u32 m.c.toNat, .int .u32 m.d.toNat, lv] 52)) := (Below.refl _ _).alloc (Nat.le_refl _) _
  obtain ⟨A, c, rfl, hlen, _⟩ := id hbs
  obtain ⟨B, d, rfl, hlL, _⟩ := id hv
  have Hlen := Lib.hid hlen; have HlL := Lib.hid hlL
  clear hlen hlL hbs hv ht
  unfold qaskV
  generalize hW : w.alloc (.cells #[.slice A bs.length c, .int .i64 need, .int .u32 m.a.toNat, .int .u32 m.b.toNat, .int .u32 m.c.toNat, .int .u32 m.d.toNat, .slice B L.length d] 52) = W at *
  have Hb0 := Lib.hid hb0; have HA0 := Lib.hid hA0
  clear hb0
  obtain ⟨c0, c1, c2, c3, c4, c5, c6, _, _, _⟩ := hA0
  go_enter Tryd.func12, Tryd.ntmps12
  go_wp2_with fail
  clear hW c0 c1 c2 c3 c4 c5 c6
  refine (small_any bs need m L _ _ W HA0.out.hbs HA0.out.hL).mono ?_
  rintro e w1 ⟨r, rfl, hr, hb1⟩
  have HA1 := Lib.hid (HA0.out.keep hb1)
  have Hb1 := Lib.hid (Hb0.out.trans (hb1.mono Hb0.out.size))
  clear HA0 Hb0 hb1
  cases r with
  | false =>
    go_wp2_with fail
    refine (qawake_any _ HA1.out.ht).mono ?_
    rintro e w2 ⟨rfl, hb2⟩
    go_wp2_with fail
    exact bodyPost_ret (v := .bool true) (by simp [results, Tryd.results12, go_sem]) rfl ⟨rfl, Hb1.out.trans (hb2.mono Hb1.out.size)⟩
  | true =>
    obtain ⟨hb8, hL8⟩ := hr rfl
    clear hr
    go_wp2_with fail
    go_loopw [3, 4] (fun n i wr => ∃ k : Nat, k ≤ bs.length ∧ i = .int .i64 k ∧ n = .int .i64 ((Qu.places (nmdN bs L) k).length : Nat) ∧ Below w1.heap.size w1 wr) (fun _ i _ => bs.length - (intOf i).toNat)
    case atStart => exact ⟨0, by omega, rfl, rfl, Below.refl _ _⟩
    case round =>
      obtain ⟨k, hk, rfl, rfl, hb⟩ := hrel
      have hA := HA1.out.keep hb
      have hpl := Qu.places_le (nmdN bs L) k
      have hps := Qu.places_succ (nmdN bs L) k
      by_cases hlt : k < bs.length
      · have hk1 : (k : Int) < bs.length := by omega
        have hk0 : (0 : Int) ≤ (k : Int) := by omega
        have hd : decide ((k : Int) < bs.length) = true := by simp; omega
        have hnm : nmdN bs L k = nmdP L (bs.getD k Ot.zeroD) := rfl
        obtain ⟨A', c', e, _, hcs⟩ := hA.hbs
        cases e
        obtain ⟨b, off, rfl, hbl, hc⟩ := hcs (by omega)
        have hx := hc k hlt
        generalize bs.getD k Ot.zeroD = x at *
        have HA := Lib.hid hA; have Hps := Lib.hid hps; have Hpl := Lib.hid hpl; have Hnm := Lib.hid hnm; have Hx := Lib.hid hx; have Hb := Lib.hid hb; have Hlt := Lib.hid hlt
        obtain ⟨c0, c1, c2, c3, c4, c5, c6, _, _, _⟩ := hA
        clear hps hpl hnm hx hb hcs hc hlt hk
        go_wp2_with fail
        clear c0 c1 c2 c3 c4 c5 c6
        generalize hpk : (Qu.places (nmdN bs L) k).length = pk at *
        go_loopw [5, 6] (fun nm i wi => ∃ j : Nat, j ≤ L.length ∧ i = .int .i64 j ∧ nm = .bool (nmdP (L.take j) x) ∧ Below wr.heap.size wr wi) (fun _ i _ => L.length - (intOf i).toNat)
        case atStart => exact ⟨0, by omega, rfl, rfl, Below.refl _ _⟩
        case round =>
          obtain ⟨j, hj, rfl, rfl, hbi⟩ := hrel
          have hAi := HA.out.keep hbi
          by_cases hjl : j < L.length
          · have hj1 : (j : Int) < L.length := by omega
            have hj0 : (0 : Int) ≤ (j : Int) := by omega
            have hd2 : decide ((j : Int) < L.length) = true := by simp; omega
            obtain ⟨B', d', e, _, hcs⟩ := hAi.hL
            cases e
            obtain ⟨g, o, rfl, hcg⟩ := hcs (by omega)
            obtain ⟨⟨s0, s1, s2, s3⟩, _⟩ := hcg j hjl
            obtain ⟨x0, x1, x2, x3⟩ := Hx.out.below hbi hbl
            have hts : nmdP (L.take (j + 1)) x = (nmdP (L.take j) x || decide ((L.getD j zeroSg).b = x)) := by
              rw [nmdP, nmdP, take_succ_s L j hjl, List.any_append]; simp
            generalize (L.getD j zeroSg).b = y at *
            have hq := dg_eql y x
            have q1 : IntKind.i64.wrap ((j : Int) + 1) = (j : Int) + 1 := IntWalk.i64_in _ (by omega)
            have Hts := Lib.hid hts; have Hjl := Lib.hid hjl; have Hbi := Lib.hid hbi
            obtain ⟨c0, c1, c2, c3, c4, c5, c6, _, _, _⟩ := hAi
            clear hts hcs hcg hjl hj
            generalize nmdP (L.take j) x = nj at *
            cases nj with
            | true =>
              clear hq
              go_wp2_with fail
              go_quiet (fail)
              go_wp2_with fail
              refine ⟨⟨j + 1, Hjl.out, by simp, by rw [Hts.out]; simp, pw_drewN hbi _⟩, ?_⟩
              have := Hjl.out
              simp [intOf]; omega
            | false =>
              by_cases he : y = x
              · have hde : decide (y = x) = true := by simp [he]
                rw [hde] at hq
                have Hde := Lib.hid hde; clear he hde
                go_wp2_with fail
                go_quiet (fail)
                go_wp2_with fail
                refine ⟨⟨j + 1, Hjl.out, by simp, by rw [Hts.out, Hde.out]; simp, pw_drewN hbi _⟩, ?_⟩
                have := Hjl.out
                simp [intOf]; omega
              · have hde : decide (y = x) = false := by simp [he]
                rw [hde] at hq
                have Hde := Lib.hid hde; clear he hde
                go_wp2_with fail
                go_quiet (fail)
                go_wp2_with fail
                refine ⟨⟨j + 1, Hjl.out, by simp, by rw [Hts.out, Hde.out]; simp, pw_drewN hbi _⟩, ?_⟩
                have := Hjl.out
                simp [intOf]; omega
          · obtain rfl : j = L.length := by omega
            have hd2 : decide ((L.length : Int) < L.length) = false := by simp
            rw [List.take_length]
            have hb2 := Hb.out.trans (hbi.mono Hb.out.size)
            have hnm := Hnm.out
            have hps := Hps.out
            have q1 : IntKind.i64.wrap ((k : Int) + 1) = (k : Int) + 1 := IntWalk.i64_in _ (by have := Hlt.out; omega)
            have q2 : IntKind.i64.wrap ((pk : Int) + 1) = (pk : Int) + 1 := IntWalk.i64_in _ (by have := Hlt.out; have := Hpl.out; omega)
            obtain ⟨c0, c1, c2, c3, c4, c5, c6, _, _, _⟩ := hAi
            rw [← hnm]
            by_cases hn : nmdN bs L k = true
            · rw [hn]
              rw [if_pos hn] at hps
              have Hps2 := Lib.hid hps; have Hpk := Lib.hid hpk
              clear hps hnm hn hpk
              go_wp2_with fail
              refine ⟨⟨k + 1, Hlt.out, by simp, ?_, hb2⟩, ?_⟩
              · rw [Hps2.out, List.length_append, Hpk.out]; rfl
              · have := Hlt.out
                simp [intOf]; omega
            · rw [if_neg hn] at hps
              have hn' : nmdN bs L k = false := by simpa using hn
              rw [hn']
              have Hps2 := Lib.hid hps; have Hpk := Lib.hid hpk
              clear hps hnm hn hn' hpk
              go_wp2_with fail
              refine ⟨⟨k + 1, Hlt.out, by simp, ?_, hb2⟩, ?_⟩
              · rw [Hps2.out, Hpk.out]
              · have := Hlt.out
                simp [intOf]; omega
      · obtain rfl : k = bs.length := by omega
        have hd : decide ((bs.length : Int) < bs.length) = false := by simp
        have hwn := who_le_named bs m L
        generalize hN : (Qu.places (nmdN bs L) bs.length).length = N at *
        have HN := Lib.hid hN; have Hwn := Lib.hid hwn; have HA := Lib.hid hA
        have hb2 := Hb1.out.trans (hb.mono Hb1.out.size)
        have Hb2 := Lib.hid hb2
        obtain ⟨c0, c1, c2, c3, c4, c5, c6, _, _, _⟩ := hA
        clear hN hwn hb2 hb hps
        go_wp2_with fail
        clear c0 c1 c2 c3 c4 c5 c6
        refine (qawake_any _ HA.out.ht).mono ?_
        rintro e w2 ⟨rfl, hb3⟩
        have HA2 := Lib.hid (HA.out.keep hb3); have Hb3 := Lib.hid (Hb2.out.trans (hb3.mono Hb2.out.size))
        clear HA Hb2 hb3
        have hW2 : ∃ c2, decide (((whoN bs m L).length : Int) ≤ (N : Int)) = c2 ∧ c2 = true := ⟨_, rfl, by have := Hwn.out; simp; omega⟩
        obtain ⟨c2', hc2, rfl⟩ := hW2
        obtain ⟨c0, c1, c2, c3, c4, c5, c6, _, _, _⟩ := HA2.out
        by_cases hN : need ≤ (N : Int)
        · have hNd := decide_eq_true hN
          go_wp2_with fail
          clear c0 c1 c2 c3 c4 c5 c6
          refine (who_any bs need m L _ _ _ HA2.out.ht HA2.out.hbs HA2.out.hL hcap (by omega)).mono ?_
          rintro e w3 ⟨v, rfl, hb4, hown⟩
          obtain ⟨A3, c3, rfl⟩ := own_slice hown
          generalize (whoN bs m L).length = q at *
          have hqn : q ≤ N := Hwn.out
          go_wp2_with fail
          exact bodyPost_ret (v := .bool true) (by simp [results, Tryd.results12, go_sem]) rfl ⟨rfl, Hb3.out.trans (hb4.mono Hb3.out.size)⟩
        · have hNd := decide_eq_false hN
          go_wp2_with fail
          clear c0 c1 c2 c3 c4 c5 c6
          refine (qholds_any bs need m L _ _ _ HA2.out.ht HA2.out.hbs HA2.out.hL hcap (by omega)).mono ?_
          have hh : holdsN bs need m L = false := by
            have := Hwn.out
            have h2 : decide (need ≤ ((whoN bs m L).length : Int)) = false := by simp; omega
            rw [holdsN, h2, Bool.and_false]
          rw [hh]
          rintro e w3 ⟨rfl, hb4⟩
          have HA3 := Lib.hid (HA2.out.keep hb4); have Hb4 := Lib.hid (Hb3.out.trans (hb4.mono Hb3.out.size))
          obtain ⟨c0, c1, c2, c3, c4, c5, c6, _, _, _⟩ := HA3.out
          clear hb4
          go_wp2_with fail
          clear c0 c1 c2 c3 c4 c5 c6
          refine (who_any bs need m L _ _ _ HA3.out.ht HA3.out.hbs HA3.out.hL hcap (by omega)).mono ?_
          rintro e w4 ⟨v, rfl, hb5, hown⟩
          obtain ⟨A3, c3, rfl⟩ := own_slice hown
          generalize (whoN bs m L).length = q at *
          have hqn : q ≤ N := Hwn.out
          go_wp2_with fail
          exact bodyPost_ret (v := .bool true) (by simp [results, Tryd.results12, go_sem]) rfl ⟨rfl, Hb4.out.trans (hb5.mono Hb4.out.size)⟩
end Go.Proofs.YtpodfmnnabepaaaDoor
