/- Walks: digest.Pair; the reference's Turn. -/
import Derived.Test.YtpodfmnnabepaaaDoorW2
import Derived.Test.YtpodfmnnabepaaaDoorR
import Derived.Test.YtpodfmnnabepaaaDoorPa
namespace Go.Proofs.YtpodfmnnabepaaaDoor
open Go.RowKit
open Ot (Dg)
abbrev dgv (d : Dg) : Value := .agg #[.int .u32 d.a.toNat, .int .u32 d.b.toNat, .int .u32 d.c.toNat, .int .u32 d.d.toNat]
def fnOf (d : Dg) (j : Nat) : UInt32 := if j = 0 then d.a else if j = 1 then d.b else if j = 2 then d.c else d.d
def dgOf (f : Nat → UInt32) : Dg := ⟨f 0, f 1, f 2, f 3⟩
def join2 (x y : Dg) (j : Nat) : UInt32 := if j < 4 then fnOf x j else fnOf y (j - 4)
def pair0 (x y : Dg) : Dg := dgOf (absorb (st0 2) (join2 x y) 2)
theorem pair_ex : ∃ p : Dg → Dg → Dg, p = pair0 := ⟨pair0, rfl⟩
/-- The digest of a pair: 'pair0', closed, so that nothing opens it unasked. -/
noncomputable def pair : Dg → Dg → Dg := Classical.choose pair_ex
theorem pair_eq (x y : Dg) : pair x y = pair0 x y := congrFun (congrFun (Classical.choose_spec pair_ex) x) y
theorem Tryd.info22 : (Tryd.prog.info? 22).map (fun i => (i.zero, i.size, i.bytes)) = some (some (.int .u32 0), 1, 4) := by kernel_rfl
theorem below_of_grown {w w' : World} (h : w.grownBy w' none) : Below w.heap.size w w' := ⟨h.os, h.tape, h.output, h.size, fun k hk => h.block k hk (by simp)⟩
theorem own_words {w : World} {base n : Nat} {e : TypeId} {v : Value} {f : Nat → UInt32} (h : w.ownsRow base e 1 v n (ws f n)) (hn : 0 < n) :
    ∃ g cap, v = .slice (some ⟨g, 0, none⟩) n cap ∧ n ≤ cap ∧ cap ≤ 9223372036854775807 ∧ base ≤ g ∧ ∀ j, j < n → w.cell? ⟨g, j, none⟩ = some (.int .u32 (f j).toNat) := by
  have hc := h
  rcases h.2 with ⟨rfl, h0⟩ | ⟨g, cap, cur, rfl, hb, hh, h1, h2, _⟩
  · omega
  · refine ⟨g, cap, rfl, h1, by simpa [maxLen] using h2, hb, fun j hj => ?_⟩
    have := hc.cells (g := g) rfl j (.int .u32 (f j).toNat) (by simp [ws, hj])
    rwa [show (⟨g, 0, none⟩ : Addr).add j = ⟨g, j, none⟩ from by unfold Addr.add; split <;> simp_all] at this
theorem ws_cell {w : World} {b n : Nat} {f : Nat → UInt32} (h : Arr w b n f) : ∀ j u, (ws f n)[j]? = some u → w.cell? ((⟨b, 0, none⟩ : Addr).add j) = some u := by
  intro j u hu
  have hj : j < n := by
    have := (List.getElem?_eq_some_iff.1 hu).1
    simpa [ws] using this
  rw [show (⟨b, 0, none⟩ : Addr).add j = ⟨b, j, none⟩ from by unfold Addr.add; split <;> simp_all, (h j hj).1]
  simpa [ws, hj] using hu
theorem ws_one {n : Nat} {f : Nat → UInt32} : ∀ u ∈ ws f n, u.oneCell' = true := by
  intro u hu
  simp only [ws, List.mem_map] at hu
  obtain ⟨j, _, rfl⟩ := hu
  rfl
theorem ws_length (n : Nat) (f : Nat → UInt32) : (ws f n).length = n := by simp [ws]
set_option maxRecDepth 100000 in
set_option maxHeartbeats 400000 in
theorem pair_any (x y : Dg) (w : World) (ht : Tn w) :
    Calls Tryd.prog 63 #[dgv x, dgv y] w fun e w' => e = .returned (dgv (pair x y)) ∧ Below w.heap.size w w' := by
  obtain ⟨i0, hi, hz0, hz1, hz2⟩ := info_parts Tryd.info22
  go_enter Tryd.func63, Tryd.ntmps63
  go_wp2
  refine wp_region_head (fun w' => Arr w' w.heap.size 4 (fnOf x) ∧ Arr w' (w.heap.size + 1) 4 (fnOf y) ∧ Arr w' (w.heap.size + 1 + 1) 4 (fun _ => 0) ∧ Below w.heap.size w w' ∧ w.heap.size + 3 ≤ w'.heap.size) 2 (by kernel_rfl) (by kernel_rfl) ?_ ?_
  · refine ⟨?_, ?_, ?_, ((((Below.refl _ _).alloc (Nat.le_refl _) _).alloc (by simp <;> omega) _).alloc (by simp <;> omega) _).drew, by simp⟩
    · exact ((Arr.new w 4 (fnOf x) 24 _ rfl).alloc (by simp <;> omega) _).alloc (by simp <;> omega) _
    · exact (Arr.new' _ _ 4 (fnOf y) 24 _ (by simp) rfl).alloc (by simp <;> omega) _
    · exact Arr.new' _ _ 4 (fun _ => 0) 24 _ (by simp) rfl
  simp only [List.take_succ_cons, List.take_zero, List.drop_succ_cons, List.drop_zero]
  iterate 2 (refine wpHead_cons rfl ?_ (fun wx hx => ?_) ?_; rotate_left; (· go_simp; first | exact ⟨rfl, hx⟩ | exact rfl); go_frame)
  refine wpHead_nil ?_
  rintro wr ⟨hx, hy, hz, hb, hs⟩
  refine wpList_append_grows wr rfl (.tmp 5) (.tmp 6) 96 rfl 22 i0 (.int .u32 0) 1 4 Tryd.underlying96 hi hz0 hz1 hz2 rfl (by decide) (some ⟨w.heap.size, 0, none⟩) 4 4 (ws (fnOf x) 4) rfl (by simp) rfl (fun b hb' => by cases hb'; exact ws_cell hx)
    ⟨w.heap.size + 1, 0, none⟩ 4 4 (ws (fnOf y) 4) rfl rfl (ws_cell hy) ws_one (by decide) (by unfold maxLen; decide) (by decide) ?_
  intro v' w1 hown hg
  obtain ⟨g, cap, rfl, hc1, hc2, hgb, hcell⟩ := own_words (f := join2 x y) (n := 8) hown (by decide)
  have hbg := below_of_grown hg
  have hb1 : Below w.heap.size w w1 := hb.trans (hbg.mono (by omega))
  have ht1 : Tn w1 := ht.below hb1
  have hz1 : Arr w1 (w.heap.size + 1 + 1) 4 (fun _ => 0) := hz.below hbg (by omega)
  have hs1 := hbg.size
  clear hown hg hi hbg
  go_frame
  go_wp2_with (go_at_call 75; refine (take_any 2 g cap (join2 x y) w1 ht1 hcell hc1 hc2).mono ?_; rintro e w2 ⟨rfl, hb2⟩; have hz2 := hz1.below hb2 (hz1.lt (by decide)); have hd := fun j h => hz2.cell j h; have hf := fun j h => hz2.free j h)
  generalize he : absorb (st0 2) (join2 x y) 2 = f at *
  have He := Lib.hid he; clear he
  refine bodyPost_ret (v := st4 f) (by simp [results, Tryd.results63, go_sem, hd]) rfl ⟨?_, ?_⟩
  · rw [pair_eq]; unfold pair0; rw [He.out]; rfl
  · exact (hb1.trans (hb2.mono (by omega))).fill4 (by omega) _ _ _ _
/-- Doubled so often, what falls out put in below. -/
def dbl (x : Nat) : Nat → Nat
  | 0 => x
  | k + 1 => 2 * dbl x k % 4294967296 + dbl x k / 2147483648
theorem dbl_eq (x : Nat) (hx : x < 4294967296) : ∀ k, k ≤ 32 → dbl x k = x * 2 ^ k % 4294967296 + x / 2 ^ (32 - k)
  | 0, _ => by
    have h1 : x / 2 ^ (32 - 0) = 0 := Nat.div_eq_of_lt (by simpa using hx)
    rw [h1]; simp only [dbl, Nat.pow_zero, Nat.mul_one, Nat.add_zero]; omega
  | k + 1, hk => by
    have ih := dbl_eq x hx k (by omega)
    obtain ⟨m, hm⟩ : ∃ m, 31 = k + m := ⟨31 - k, by omega⟩
    have hpq : 2 ^ k * 2 ^ m = 2147483648 := by rw [← Nat.pow_add, ← hm]
    have e1 : 32 - k = m + 1 := by omega
    have e2 : 32 - (k + 1) = m := by omega
    rw [e1] at ih
    simp only [dbl, ih, e2]
    have hq : 0 < 2 ^ m := Nat.two_pow_pos m
    have hp : 0 < 2 ^ k := Nat.two_pow_pos k
    generalize hP : 2 ^ k = p at *
    generalize hQ : 2 ^ m = q at *
    have eP : 2 ^ (k + 1) = 2 * p := by rw [Nat.pow_succ, hP, Nat.mul_comm]
    have eQ : 2 ^ (m + 1) = 2 * q := by rw [Nat.pow_succ, hQ, Nat.mul_comm]
    rw [eP, eQ]
    -- x = (2 hi + b) q + lo
    have hx1 : x = (x / q) * q + x % q := by rw [Nat.mul_comm]; exact (Nat.div_add_mod x q).symm
    generalize hT : x / q = t at *
    generalize hL : x % q = lo at *
    have hlo : lo < q := by rw [← hL]; exact Nat.mod_lt _ hq
    have hhi : x / (2 * q) = t / 2 := by rw [Nat.mul_comm, ← Nat.div_div_eq_div_mul, hT]
    have hlp : lo * p + p ≤ 2147483648 := by
      have : (lo + 1) * p ≤ q * p := Nat.mul_le_mul_right _ hlo
      rw [Nat.add_mul, Nat.one_mul, Nat.mul_comm q p, hpq] at this; exact this
    have htp : t / 2 < p := by
      have h1 : t * q ≤ x := by omega
      have h2 : t < 2 * p := by
        refine Nat.lt_of_mul_lt_mul_right (a := q) ?_
        rw [Nat.mul_assoc, hpq]; omega
      omega
    have eqp : q * p = 2147483648 := by rw [Nat.mul_comm]; exact hpq
    have f1 : x * p = t * 2147483648 + lo * p := by
      conv => lhs; rw [hx1]
      rw [Nat.add_mul, Nat.mul_assoc, eqp]
    have f2 : x * (2 * p) = t * 4294967296 + 2 * (lo * p) := by
      rw [Nat.mul_left_comm, f1]; omega
    rw [f1, f2, hhi]
    clear ih f1 f2 hx1 e1 e2 eP eQ hT hL hhi
    generalize lo * p = z at *
    obtain ⟨h, c, rfl, hc⟩ : ∃ h c, t = 2 * h + c ∧ c < 2 := ⟨t / 2, t % 2, by omega, by omega⟩
    have g0 : (2 * h + c) / 2 = h := by omega
    rw [g0] at *
    have g1 : ((2 * h + c) * 2147483648 + z) % 4294967296 = c * 2147483648 + z := by
      rw [show (2 * h + c) * 2147483648 + z = (c * 2147483648 + z) + 4294967296 * h from by omega, Nat.add_mul_mod_self_left, Nat.mod_eq_of_lt (by omega)]
    have g2 : ((2 * h + c) * 4294967296 + 2 * z) % 4294967296 = 2 * z := by
      rw [show (2 * h + c) * 4294967296 + 2 * z = 2 * z + 4294967296 * (2 * h + c) from by omega, Nat.add_mul_mod_self_left, Nat.mod_eq_of_lt (by omega)]
    rw [g1, g2]
    have g4 : (c * 2147483648 + z + h) / 2147483648 = c := by
      rw [show c * 2147483648 + z + h = (z + h) + 2147483648 * c from by omega, Nat.add_mul_div_left _ _ (by decide), Nat.div_eq_of_lt (by omega), Nat.zero_add]
    have g5 : 2 * (c * 2147483648 + z + h) % 4294967296 = 2 * (z + h) := by
      rw [show 2 * (c * 2147483648 + z + h) = 2 * (z + h) + 4294967296 * c from by omega, Nat.add_mul_mod_self_left, Nat.mod_eq_of_lt (by omega)]
    rw [g4, g5]
    omega
theorem rot_dbl (x : UInt32) (k : Nat) (hk : k < 32) : (rot x k).toNat = dbl x.toNat k := by
  rw [dbl_eq _ x.toNat_lt k (by omega)]
  have h := rot_eq x k hk
  unfold rot at *
  rw [UInt32.toNat_ofNat'] at *
  refine Nat.mod_eq_of_lt ?_
  have hx := x.toNat_lt
  have hp : 2 ^ (32 - k) * 2 ^ k = 4294967296 := by rw [← Nat.pow_add, Nat.sub_add_cancel (by omega)]
  have hl : x.toNat / 2 ^ (32 - k) < 2 ^ k := by
    rw [Nat.div_lt_iff_lt_mul (Nat.two_pow_pos _), Nat.mul_comm, hp]; exact hx
  have e1 : x.toNat * 2 ^ k % 4294967296 = (x.toNat % 2 ^ (32 - k)) * 2 ^ k := by
    rw [← hp, Nat.mul_comm (2 ^ (32 - k)), Nat.mul_comm x.toNat, Nat.mul_mod_mul_left, Nat.mul_comm]
  rw [e1]
  have h3 : x.toNat % 2 ^ (32 - k) < 2 ^ (32 - k) := Nat.mod_lt _ (Nat.two_pow_pos _)
  have h4 : (x.toNat % 2 ^ (32 - k) + 1) * 2 ^ k ≤ 2 ^ (32 - k) * 2 ^ k := Nat.mul_le_mul_right _ h3
  rw [hp, Nat.add_mul, Nat.one_mul] at h4
  omega
theorem dbl_lt (x : Nat) (hx : x < 4294967296) : ∀ k, dbl x k < 4294967296
  | 0 => hx
  | k + 1 => by have := dbl_lt x hx k; simp only [dbl]; omega
/-- The reference's turn. -/
theorem rturn_any (x : UInt32) (n : Nat) (hn : n < 32) (w : World) :
    Calls Tryd.prog 86 #[.int .u32 x.toNat, .int .i64 n] w fun e w' => e = .returned (.int .u32 (rot x n).toNat) ∧ w = w' := by
  have hm : (n : Int) % 32 = n := by omega
  have hr := Lib.hid (rot_dbl x n hn)
  have hx := x.toNat_lt
  go_enter Tryd.func86, Tryd.ntmps86
  go_wp2
  go_loop [6, 7] (fun v i => ∃ k : Nat, k ≤ n ∧ i = .int .i64 k ∧ v = .int .u64 (dbl x.toNat k)) (fun _ i => n - (intOf i).toNat)
  case atStart => exact ⟨0, Nat.zero_le _, rfl, rfl⟩
  case round =>
    obtain ⟨k, hk, rfl, rfl⟩ := hrel
    have hd := dbl_lt x.toNat hx k
    by_cases hlt : k < n
    · have e : ((dbl x.toNat (k + 1) : Nat) : Int) = 2 * (dbl x.toNat k : Int) % 4294967296 + (dbl x.toNat k : Int) / 2147483648 := by simp only [dbl]; omega
      have E := Lib.hid e; clear e
      go_wp2
      go_round
      case rel => exact ⟨k + 1, by omega, by go_num, by rw [E.out]⟩
      case measure => simp [intOf]; omega
    · obtain rfl : k = n := by omega
      go_wp2
      go_ret
      refine ⟨?_, rfl⟩
      rw [hr.out]
      simp
end Go.Proofs.YtpodfmnnabepaaaDoor
