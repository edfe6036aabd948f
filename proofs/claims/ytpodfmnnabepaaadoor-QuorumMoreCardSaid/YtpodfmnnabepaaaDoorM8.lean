/- Texts of this claim, merged: L5 Q28. Conditions: those written in each. -/
import Derived.Test.YtpodfmnnabepaaaDoorM5
import Derived.Test.YtpodfmnnabepaaaDoorM6
namespace Go.Proofs.YtpodfmnnabepaaaDoor
open Go Go.ChangeShapes Go.WideShapes Go.ChangeAt Go.RowKit Go.Deep Go.Joins
open Ot (Dg)
/-- A slice of booleans. -/
def BoolsAt (w : World) (v : Value) (l : List Bool) : Prop := ∃ A c, v = .slice A l.length c ∧ l.length ≤ 9223372036854775807 ∧ (0 < l.length → ∃ b off, A = some ⟨b, off, none⟩ ∧ ∀ i, i < l.length → w.cell? ⟨b, off + i, none⟩ = some (.bool (l.getD i false)))
theorem BoolsAt.keep {w w' : World} {v : Value} {l : List Bool} (h : BoolsAt w v l) (hb : Below w.heap.size w w') : BoolsAt w' v l := by
  obtain ⟨A, c, rfl, hl, h⟩ := h
  refine ⟨A, c, rfl, hl, fun hp => ?_⟩
  obtain ⟨b, off, rfl, hc⟩ := h hp
  exact ⟨b, off, rfl, fun i hi => cell_keep (hc i hi) hb⟩
set_option maxRecDepth 100000 in
theorem open_bools {H : Type} {enc : TypeId × Value → H} {W : World} {base : Nat} {v : Value} {d : DataW H} {p : List MemPlace} (hv : Value.okWide Tryd.prog W .any base 63 v)
    (h : DataW.Trod enc Tryd.prog W 0 (fun _ => true) true 63 v d p) : ∃ l : List Bool, BoolsAt W v l := by
  obtain ⟨a, len, cap, rfl⟩ := okWide_slice Tryd.underlying63 hv
  obtain ⟨fuel, h⟩ := h
  have h' : DataW.trod enc Tryd.prog W 0 (fun _ => true) true fuel 63 [.slice a len cap] = some (d, p) := by simpa [Value.cells] using h
  have c4 : Tryd.prog.cellsOf 4 = 1 := by kernel_rfl
  rcases open_slice1 Tryd.underlying63 c4 h' with ⟨hcs, _⟩ | ⟨a', len', cap', m, n, V, D, Pl, hcs, _, hl, hm, hmm, _, hx⟩
  · simp at hcs
    obtain ⟨rfl, rfl, rfl⟩ := hcs
    exact ⟨[], none, 0, rfl, by simp, fun h => by simp at h⟩
  · simp at hcs
    obtain ⟨rfl, rfl, rfl⟩ := hcs
    have hlm : len ≤ m := by rw [hmm]; split <;> omega
    have hmax : cap ≤ 9223372036854775807 := by simpa [maxLen] using hm
    have each : ∀ i, ∃ b : Bool, i < len → W.cell? (a'.add i) = some (.bool b) := fun i => by
      by_cases hi : i < len
      · obtain ⟨h1, h2⟩ := hx i (by omega)
        obtain ⟨b, e, _⟩ := DataW.trod_bool Tryd.underlying4 h2
        simp at e
        exact ⟨b, fun _ => by rw [h1, e]⟩
      · exact ⟨false, fun h => absurd h hi⟩
    let f : Nat → Bool := fun i => Classical.choose (each i)
    have hf : ∀ i, i < len → W.cell? (a'.add i) = some (.bool (f i)) := fun i => Classical.choose_spec (each i)
    generalize f = g at hf
    have hlen : ((List.range len).map g).length = len := by simp
    refine ⟨(List.range len).map g, some a', cap, by rw [hlen], by rw [hlen]; omega, fun hp => ?_⟩
    rw [hlen] at hp ⊢
    obtain ⟨b, off, sp⟩ := a'
    have hspot : sp = none := by
      have := World.cell?_spot (hf 0 hp)
      simpa [Addr.add] using this
    subst hspot
    have hadd : ∀ i, (⟨b, off, none⟩ : Addr).add i = ⟨b, off + i, none⟩ := fun i => by
      unfold Addr.add
      split <;> simp_all
    refine ⟨b, off, rfl, fun i hi => ?_⟩
    have e : ((List.range len).map g).getD i false = g i := by
      rw [List.getD_eq_getElem?_getD, List.getElem?_map, List.getElem?_range hi]; rfl
    rw [e, ← hadd]
    exact hf i hi
set_option maxRecDepth 100000 in
theorem open_sgs {H : Type} {enc : TypeId × Value → H} {W : World} {base : Nat} {v : Value} {d : DataW H} {p : List MemPlace} (hv : Value.okWide Tryd.prog W .any base 50 v)
    (h : DataW.Trod enc Tryd.prog W 0 (fun _ => true) true 50 v d p) : ∃ L : List Sg, SgsAt W v L ∧ Capd v := by
  obtain ⟨a, len, cap, rfl⟩ := okWide_slice Tryd.underlying50 hv
  obtain ⟨fuel, h⟩ := h
  exact sgs_of_trod (by simpa [Value.cells] using h)
set_option maxRecDepth 100000 in
theorem open_u8 {H : Type} {enc : TypeId × Value → H} {W : World} {base : Nat} {v : Value} {d : DataW H} {p : List MemPlace} (hv : Value.okWide Tryd.prog W .any base 5 v)
    (h : DataW.Trod enc Tryd.prog W 0 (fun _ => true) true 5 v d p) : ∃ x : UInt8, v = .int .u8 (x.toNat : Nat) := by
  obtain ⟨n, rfl⟩ := okWide_int Tryd.underlying5 hv
  obtain ⟨fuel, h⟩ := h
  obtain ⟨n', e, _, hw⟩ := DataW.trod_int Tryd.underlying5 (show DataW.trod enc Tryd.prog W 0 (fun _ => true) true fuel 5 [.int .u8 n] = some (d, p) by simpa [Value.cells] using h)
  simp at e
  subst e
  have hr : 0 ≤ n ∧ n ≤ 255 := by simpa [Lit.wf, IntKind.min, IntKind.max, IntKind.signed, IntKind.bits] using hw
  refine ⟨UInt8.ofNat n.toNat, ?_⟩
  rw [UInt8.toNat_ofNat']
  congr 1; omega
end Go.Proofs.YtpodfmnnabepaaaDoor

namespace Go.Proofs.YtpodfmnnabepaaaDoor
open Go.RowKit
open Ot (Dg)
theorem places_ext {q : Nat → Bool} {k : Nat} : ∀ {n : Nat}, k ≤ n → (∀ i, k ≤ i → i < n → q i = false) → Qu.places q n = Qu.places q k
  | 0, h, _ => by obtain rfl : k = 0 := by omega
                  rfl
  | n + 1, h, hq => by
    by_cases e : k = n + 1
    · rw [e]
    · rw [Qu.places_succ, hq n (by omega) (by omega)]
      simp only [Bool.false_eq_true, if_false]
      exact places_ext (by omega) fun i h1 h2 => hq i h1 (by omega)
theorem whoN_lt (bs : List Dg) (m : Dg) (L : List Sg) : ∀ x ∈ whoN bs m L, x < bs.length := fun _ hx => (Qu.places_mem.1 hx).1
/-- Doesn't one lie? -/
def honB (ls : List Bool) (x : Nat) : Bool := decide ((ls.length : Int) ≤ (x : Int)) || !(ls.getD x false)
theorem honest_any (bs : List Dg) (m : Dg) (L : List Sg) (ls : List Bool) {k : Nat} (hk : k ≤ bs.length) (hk2 : k = bs.length ∨ ls.length ≤ k) (h : (Qu.places (fun i => ls.getD i false) k).length < (whoN bs m L).length) : (whoN bs m L).any (honB ls) = true := by
  have he : Qu.places (fun i => ls.getD i false) bs.length = Qu.places (fun i => ls.getD i false) k := by
    rcases hk2 with rfl | hk2
    · rfl
    · exact places_ext hk fun i h1 _ => by rw [List.getD_eq_getElem?_getD, List.getElem?_eq_none (by omega)]; rfl
  rw [← he] at h
  obtain ⟨i, h1, h2⟩ := Qu.places_honest (p := agN bs m L) h
  rw [List.any_eq_true]
  exact ⟨i, h1, by simp only [honB]; rw [h2]; simp⟩
theorem take_succ_n (l : List Nat) (k : Nat) (h : k < l.length) : l.take (k + 1) = l.take k ++ [l.getD k 0] := by
  rw [List.take_add_one, List.getElem?_eq_getElem h, List.getD_eq_getElem?_getD, List.getElem?_eq_getElem h]; rfl
theorem getD_mem_n (l : List Nat) (k : Nat) (h : k < l.length) : l.getD k 0 ∈ l := by
  rw [List.getD_eq_getElem?_getD, List.getElem?_eq_getElem h]; exact List.getElem_mem h
set_option maxRecDepth 100000 in
set_option maxHeartbeats 8000000 in
theorem lhonest_any (bs : List Dg) (need : Int) (m : Dg) (L : List Sg) (bv lv : Value) (ls : List Bool) (bl : Value) (w : World) (ht : Tn w) (hbs : SigAt w bv bs) (hcap : Capd bv) (hv : SgsAt w lv L) (_ : Capd lv) (_ : -9223372036854775808 ≤ need) (_ : need ≤ 9223372036854775807) (hls : BoolsAt w bl ls) :
    Calls Tryd.prog 15 #[qaskV bv need m lv, bl] w fun e w' => e = .returned (.bool true) ∧ Below w.heap.size w w' := by
  have hA0 := AskB.new (need := need) (m := m) ht hbs hv
  have hb0 : Below w.heap.size w (w.alloc (.cells #[bv, .int .i64 need, .int .u32 m.a.toNat, .int .u32 m.b.toNat, .int .u32 m.c.toNat, .int .u32 m.d.toNat, lv] 52)) := (Below.refl _ _).alloc (Nat.le_refl _) _
  obtain ⟨A, c, rfl, hlen, _⟩ := id hbs
  obtain ⟨B, d, rfl, hlL, _⟩ := id hv
  obtain ⟨E, f, rfl, hll, _⟩ := id hls
  have hls0 := hls.keep hb0
  clear hlen hlL hbs hv ht hls
  unfold qaskV
  generalize hW : w.alloc (.cells #[.slice A bs.length c, .int .i64 need, .int .u32 m.a.toNat, .int .u32 m.b.toNat, .int .u32 m.c.toNat, .int .u32 m.d.toNat, .slice B L.length d] 52) = W at *
  have Hb0 := Lib.hid hb0; have HA0 := Lib.hid hA0; have HS0 := Lib.hid hls0; have Hll := Lib.hid hll
  clear hb0 hls0 hll
  obtain ⟨c0, c1, c2, c3, c4, c5, c6, _, _, _⟩ := hA0
  go_enter Tryd.func15, Tryd.ntmps15
  go_wp2_with fail
  clear hW c0 c1 c2 c3 c4 c5 c6
  refine (small_any bs need m L _ _ W HA0.out.hbs HA0.out.hL).mono ?_
  rintro e w1 ⟨r, rfl, hr, hb1⟩
  have HA1 := Lib.hid (HA0.out.keep hb1)
  have Hb1 := Lib.hid (Hb0.out.trans (hb1.mono Hb0.out.size))
  have HS1 := Lib.hid (HS0.out.keep hb1)
  clear HA0 Hb0 hb1 HS0
  cases r with
  | false =>
    go_wp2_with fail
    refine (qawake_any _ HA1.out.ht).mono ?_
    rintro e w2 ⟨rfl, hb2⟩
    go_wp2_with fail
    exact bodyPost_ret (v := .bool true) (by simp [results, Tryd.results15, go_sem]) rfl ⟨rfl, Hb1.out.trans (hb2.mono Hb1.out.size)⟩
  | true =>
    obtain ⟨hb8, hL8⟩ := hr rfl
    clear hr
    obtain ⟨c0, c1, c2, c3, c4, c5, c6, _, _, _⟩ := HA1.out
    go_wp2_with fail
    clear c0 c1 c2 c3 c4 c5 c6
    refine (qholds_any bs need m L _ _ _ HA1.out.ht HA1.out.hbs HA1.out.hL hcap (by omega)).mono ?_
    rintro e w2 ⟨rfl, hb2⟩
    have HA2 := Lib.hid (HA1.out.keep hb2)
    have Hb2 := Lib.hid (Hb1.out.trans (hb2.mono Hb1.out.size))
    have HS2 := Lib.hid (HS1.out.keep hb2)
    clear HA1 Hb1 hb2 HS1
    generalize hh : holdsN bs need m L = h
    have Hh := Lib.hid hh; clear hh
    cases h with
    | false =>
      go_wp2_with fail
      refine (qawake_any _ HA2.out.ht).mono ?_
      rintro e w3 ⟨rfl, hb3⟩
      go_wp2_with fail
      exact bodyPost_ret (v := .bool true) (by simp [results, Tryd.results15, go_sem]) rfl ⟨rfl, Hb2.out.trans (hb3.mono Hb2.out.size)⟩
    | true =>
      have hhs := Hh.out
      simp only [holdsN, Bool.and_eq_true, decide_eq_true_eq] at hhs
      obtain ⟨hrt, hnw⟩ := hhs
      have hn1 : 1 ≤ need ∧ need ≤ 8 := by
        simp only [rightP, Bool.and_eq_true, decide_eq_true_eq] at hrt
        omega
      have Hnw := Lib.hid hnw; have Hn1 := Lib.hid hn1
      clear hrt hnw hn1 Hh
      go_wp2_with fail
      go_loop [5, 6] (fun n i => ∃ k : Nat, k ≤ bs.length ∧ k ≤ ls.length ∧ i = .int .i64 k ∧ n = .int .i64 ((Qu.places (fun i => ls.getD i false) k).length : Nat)) (fun _ i => bs.length - (intOf i).toNat)
      case atStart => exact ⟨0, by omega, by omega, rfl, rfl⟩
      case round =>
        obtain ⟨k, hk, hkl, rfl, rfl⟩ := hrel
        have hpl := Qu.places_le (fun i => ls.getD i false) k
        by_cases hlt : k < bs.length ∧ k < ls.length
        · have hps := Qu.places_succ (fun i => ls.getD i false) k
          have hk1 : (k : Int) < ls.length := by omega
          have hk0 : (0 : Int) ≤ (k : Int) := by omega
          have hd : decide ((k : Int) < bs.length) = true := by simp; omega
          have hd2 : decide ((k : Int) < ls.length) = true := by simp; omega
          obtain ⟨E', f', e, _, hcs⟩ := HS2.out
          cases e
          obtain ⟨g, o, rfl, hc⟩ := hcs (by omega)
          have hx := hc k hlt.2
          clear hc hcs
          generalize hpk : (Qu.places (fun i => ls.getD i false) k).length = pk at *
          generalize hlk : ls.getD k false = x at *
          have q1 : IntKind.i64.wrap ((k : Int) + 1) = (k : Int) + 1 := IntWalk.i64_in _ (by omega)
          have q2 : IntKind.i64.wrap ((pk : Int) + 1) = (pk : Int) + 1 := IntWalk.i64_in _ (by omega)
          have Hps := Lib.hid hps; have Hlt := Lib.hid hlt; have Hpk := Lib.hid hpk; have Hlk := Lib.hid hlk
          obtain ⟨c0, c1, c2, c3, c4, c5, c6, _, _, _⟩ := HA2.out
          have hn1 : k < bs.length := hlt.1
          have hn2 : k < ls.length := hlt.2
          clear hps hlt hpk hpl hk hkl hlk
          cases x with
          | true =>
            go_wp2_with fail
            refine ⟨⟨k + 1, by have := Hlt.out; omega, by have := Hlt.out; omega, by simp, ?_⟩, ?_⟩
            · rw [Hps.out, if_pos (by first | rfl | exact Hlk.out), List.length_append, Hpk.out]; rfl
            · have := Hlt.out
              simp [intOf]; omega
          | false =>
            go_wp2_with fail
            refine ⟨⟨k + 1, by have := Hlt.out; omega, by have := Hlt.out; omega, by simp, ?_⟩, ?_⟩
            · rw [Hps.out, if_neg (by first | (intro h; cases h; done) | (rw [Hlk.out]; simp)), Hpk.out]
            · have := Hlt.out
              simp [intOf]; omega
        · have hex : k = bs.length ∨ ls.length ≤ k := by omega
          have hhon : (Qu.places (fun i => ls.getD i false) k).length < (whoN bs m L).length → (whoN bs m L).any (honB ls) = true := honest_any bs m L ls hk hex
          generalize hpk : (Qu.places (fun i => ls.getD i false) k).length = pk at *
          have Hhon := Lib.hid hhon
          clear hhon hpk
          have hnxt : (decide ((k : Int) < bs.length) = false ∧ ¬ k < bs.length) ∨ (decide ((k : Int) < bs.length) = true ∧ decide ((k : Int) < ls.length) = false ∧ k < bs.length ∧ ¬ k < ls.length) := by
            by_cases h1 : k < bs.length
            · exact .inr ⟨by simp; omega, by simp; omega, h1, by omega⟩
            · exact .inl ⟨by simp; omega, h1⟩
          obtain ⟨c0, c1, c2, c3, c4, c5, c6, _, _, _⟩ := HA2.out
          clear hlt hex
          rcases hnxt with ⟨hd, hn1⟩ | ⟨hd, hd2, hn1, hn2⟩
          all_goals go_wp2_with fail
          all_goals clear c0 c1 c2 c3 c4 c5 c6
          all_goals refine (who_any bs need m L _ _ _ HA2.out.ht HA2.out.hbs HA2.out.hL hcap (by omega)).mono ?_
          all_goals rintro e w3 ⟨v, rfl, hb3, hown⟩
          all_goals have HI3 := Lib.hid (own_intsAt hown)
          all_goals have HA3 := Lib.hid (HA2.out.keep hb3)
          all_goals have Hb3 := Lib.hid (Hb2.out.trans (hb3.mono Hb2.out.size))
          all_goals have HS3 := Lib.hid (HS2.out.keep hb3)
          all_goals have Hml := Lib.hid (whoN_lt bs m L)
          all_goals clear hown hb3 hd hn1 hk hkl
          all_goals try clear hd2 hn2
          all_goals clear HA2 Hb2 HS2
          all_goals generalize whoN bs m L = l at *
          all_goals obtain ⟨V, vc, rfl, hll, _⟩ := HI3.out
          all_goals have Hll2 := Lib.hid hll
          all_goals clear hll
          all_goals go_wp2_with fail
          all_goals go_loopw [8, 9] (fun h i wr => ∃ j : Nat, j ≤ l.length ∧ i = .int .i64 j ∧ h = .bool ((l.take j).any (honB ls)) ∧ Below w3.heap.size w3 wr) (fun _ i _ => l.length - (intOf i).toNat)
          case atStart => exact ⟨0, by omega, rfl, rfl, Below.refl _ _⟩
          case atStart => exact ⟨0, by omega, rfl, rfl, Below.refl _ _⟩
          all_goals obtain ⟨j, hj, rfl, rfl, hbj⟩ := hrel
          all_goals have HAj := Lib.hid (HA3.out.keep hbj)
          all_goals have HSj := Lib.hid (HS3.out.keep hbj)
          all_goals have HIj := Lib.hid (HI3.out.keep hbj)
          all_goals obtain ⟨c0, c1, c2, c3, c4, c5, c6, _, _, _⟩ := HAj.out
          all_goals
            by_cases hjl : j < l.length
            · have hj1 : (j : Int) < l.length := by omega
              have hj0 : (0 : Int) ≤ (j : Int) := by omega
              have hd : decide ((j : Int) < l.length) = true := decide_eq_true (by omega)
              obtain ⟨V', vc', e, _, hcs⟩ := HIj.out
              cases e
              obtain ⟨g, rfl, hc⟩ := hcs (by omega)
              have hx := hc j hjl
              have hts := take_succ_n l j hjl
              have hxb := Hml.out _ (getD_mem_n l j hjl)
              have hany : (l.take (j + 1)).any (honB ls) = ((l.take j).any (honB ls) || honB ls (l.getD j 0)) := by rw [hts, List.any_append]; simp
              have hhb : honB ls (l.getD j 0) = (decide ((ls.length : Int) ≤ (l.getD j 0 : Nat)) || !(ls.getD (l.getD j 0) false)) := rfl
              clear hc hcs hts
              generalize l.getD j 0 = x at *
              have q1 : IntKind.i64.wrap ((j : Int) + 1) = (j : Int) + 1 := IntWalk.i64_in _ (by have := Hll2.out; omega)
              have t1 : decide ((x : Int) < 0) = false := decide_eq_false (by omega)
              have t2 : decide ((bs.length : Int) ≤ (x : Int)) = false := decide_eq_false (by omega)
              have t2n : ¬ bs.length ≤ x := by omega
              have t2m : decide (bs.length ≤ x) = false := decide_eq_false t2n
              have Hany := Lib.hid hany; have Hhb := Lib.hid hhb; have Hjl := Lib.hid hjl
              clear hany hhb hxb hj
              generalize (l.take j).any (honB ls) = h0 at *
              cases h0 with
              | true =>
                go_wp2_with fail
                go_quiet (fail)
                go_wp2_with fail
                refine ⟨⟨j + 1, Hjl.out, by simp, by rw [Hany.out]; simp, pw_drewN hbj _⟩, ?_⟩
                have := Hjl.out
                simp [intOf]; omega
              | false =>
                by_cases g3 : (ls.length : Int) ≤ (x : Int)
                · have t3 := decide_eq_true g3
                  have t3n : ls.length ≤ x := by omega
                  have t3m := decide_eq_true t3n
                  go_wp2_with fail
                  go_quiet (fail)
                  go_wp2_with fail
                  refine ⟨⟨j + 1, Hjl.out, by simp, by rw [Hany.out, Hhb.out, decide_eq_true g3]; simp, pw_drewN hbj _⟩, ?_⟩
                  have := Hjl.out
                  simp [intOf]; omega
                · have t3 := decide_eq_false g3
                  have t3n : ¬ ls.length ≤ x := by omega
                  have t3m := decide_eq_false t3n
                  obtain ⟨E', f', e, _, hcs⟩ := HSj.out
                  cases e
                  obtain ⟨g2, o2, rfl, hc⟩ := hcs (by omega)
                  have hy := hc x (by omega)
                  have hx0 : (0 : Int) ≤ (x : Int) := by omega
                  have hx1 : (x : Int) < ls.length := by omega
                  clear hc hcs
                  generalize ls.getD x false = y at *
                  cases y with
                  | true =>
                    go_wp2_with fail
                    go_quiet (fail)
                    go_wp2_with fail
                    refine ⟨⟨j + 1, Hjl.out, by simp, by rw [Hany.out, Hhb.out, t3]; simp, pw_drewN hbj _⟩, ?_⟩
                    have := Hjl.out
                    simp [intOf]; omega
                  | false =>
                    go_wp2_with fail
                    go_quiet (fail)
                    go_wp2_with fail
                    refine ⟨⟨j + 1, Hjl.out, by simp, by rw [Hany.out, Hhb.out, t3]; simp, pw_drewN hbj _⟩, ?_⟩
                    have := Hjl.out
                    simp [intOf]; omega
            · obtain rfl : j = l.length := by omega
              have hd : decide ((l.length : Int) < l.length) = false := by simp
              rw [List.take_length]
              have hb4 := Hb3.out.trans (hbj.mono Hb3.out.size)
              have Hb4 := Lib.hid hb4
              clear hb4 hbj hj
              generalize hh : l.any (honB ls) = hon
              have Hh := Lib.hid hh
              clear hh
              clear c0 c1 c2 c3 c4 c5 c6
              go_wp2_with fail
              refine (qawake_any _ HAj.out.ht).mono ?_
              rintro e w5 ⟨rfl, hb5⟩
              have HA5 := Lib.hid (HAj.out.keep hb5); have Hb5 := Lib.hid (Hb4.out.trans (hb5.mono Hb4.out.size))
              obtain ⟨c0, c1, c2, c3, c4, c5, c6, _, _, _⟩ := HA5.out
              clear hb5 Hb4 HAj
              go_wp2_with fail
              clear c0 c1 c2 c3 c4 c5 c6
              refine (bad_any _ need _ (IntWalk.i64_in _ (by have := Hn1.out; omega))).mono ?_
              rintro e w6 ⟨rfl, hb6⟩
              by_cases g : need - 1 < (pk : Int)
              · have tg := decide_eq_true g
                go_wp2_with fail
                exact bodyPost_ret (v := .bool true) (by simp [results, Tryd.results15, go_sem]) rfl ⟨rfl, Hb5.out.trans (hb6.mono Hb5.out.size)⟩
              · have tg := decide_eq_false g
                have hon1 : hon = true := by rw [← Hh.out]; exact Hhon.out (by have := Hnw.out; omega)
                subst hon1
                go_wp2_with fail
                exact bodyPost_ret (v := .bool true) (by simp [results, Tryd.results15, go_sem]) rfl ⟨rfl, Hb5.out.trans (hb6.mono Hb5.out.size)⟩
end Go.Proofs.YtpodfmnnabepaaaDoor
