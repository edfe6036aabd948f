/- Texts of this claim, merged: V W1 W2 R Pa W3 W4 R2 W5 W6 W7 W8 W9 W10. Conditions: those written in each. -/
import Derived.Test.YtpodfmnnabepaaaDoorProg
import Derived.WalkKit
import Derived.WalkSpells
import Derived.WalkLawsBesides
import Derived.Lib.Hide
import Derived.Deep.RegionWith
import Derived.StillTailTactics
import Derived.Deep.QuietTactic
import Derived.BigQuiet
import Derived.Deep.RegionHeld3
import Derived.BigRegion
import Derived.Deep.DeepCutAuto
import Derived.WalkSmall
import Derived.StillTail
import Derived.KernelRfl
namespace Go.Proofs.YtpodfmnnabepaaaDoor
open Go.RowKit
def upd (f : Nat → UInt32) (i : Nat) (v : UInt32) (j : Nat) : UInt32 := if j = i then v else f j
/-- Block b holds the first n words of f from its head on. -/
def Arr (w : World) (b n : Nat) (f : Nat → UInt32) : Prop := ∀ j, j < n → w.cell? ⟨b,j,none⟩ = some (.int .u32 (f j).toNat) ∧ w.frozen? ⟨b,j,none⟩ = false
theorem Arr.cell {w : World} {b n : Nat} {f : Nat → UInt32} (h : Arr w b n f) (j : Nat) (hj : j < n) : w.cell? ⟨b,j,none⟩ = some (.int .u32 (f j).toNat) := (h j hj).1
theorem Arr.free {w : World} {b n : Nat} {f : Nat → UInt32} (h : Arr w b n f) (j : Nat) (hj : j < n) : w.frozen? ⟨b,j,none⟩ = false := (h j hj).2
theorem Arr.below {w w' : World} {b n B : Nat} {f : Nat → UInt32} (h : Arr w b n f) (hb : Below B w w') (hB : b < B) : Arr w' b n f :=
  fun j hj => ⟨(hb.cell (p := ⟨b, j, none⟩) hB).trans (h j hj).1, (hb.frozen (p := ⟨b, j, none⟩) hB).trans (h j hj).2⟩
theorem Arr.set {w : World} {b n : Nat} {f : Nat → UInt32} (h : Arr w b n f) (i : Nat) (hi : i < n) (v : UInt32) : Arr (w.setCell ⟨b,i,none⟩ (.int .u32 v.toNat)) b n (upd f i v) := by
  intro j hj
  refine ⟨?_, ?_⟩
  · unfold upd
    by_cases e : j = i
    · subst e; rw [if_pos rfl]; exact World.cell?_setCell_same _ _ _ (h j hj).1
    · rw [if_neg e, World.cell?_setCell_other _ _ _ _ (by simp only [ne_eq, Addr.mk.injEq, not_and]; omega)]; exact (h j hj).1
  · have := (h j hj).2
    simpa [World.frozen?_setCell] using this
theorem Arr.congr {w : World} {b n : Nat} {f g : Nat → UInt32} (h : Arr w b n f) (e : ∀ j, j < n → f j = g j) : Arr w b n g := fun j hj => by rw [← e j hj]; exact h j hj
theorem Arr.drew {w : World} {b n : Nat} {f : Nat → UInt32} (h : Arr w b n f) : Arr w.drew b n f := h
theorem Arr.set_other {w : World} {b n : Nat} {f : Nat → UInt32} (h : Arr w b n f) (a : Addr) (v : Value) (hne : a.block ≠ b) : Arr (w.setCell a v) b n f := by
  intro j hj
  refine ⟨?_, ?_⟩
  · rw [World.cell?_setCell_other _ _ _ _ (by intro e; exact hne (by rw [e]))]; exact (h j hj).1
  · rw [World.frozen?_setCell]; exact (h j hj).2
theorem Arr.lt {w : World} {b n : Nat} {f : Nat → UInt32} (h : Arr w b n f) (hn : 0 < n) : b < w.heap.size := World.block_lt_of_cell? w _ (h 0 hn).1
theorem Arr.alloc {w : World} {b n : Nat} {f : Nat → UInt32} (h : Arr w b n f) (hb : b < w.heap.size) (o : Obj) : Arr (w.alloc o) b n f :=
  fun j hj => ⟨(World.cell?_alloc_past o b j hb).trans (h j hj).1, (World.frozen?_alloc_past o b j hb).trans (h j hj).2⟩
/-- Words as the values of cells. -/
def ws (f : Nat → UInt32) (n : Nat) : List Value := (List.range n).map fun j => .int .u32 (f j).toNat
theorem Arr.new (w : World) (n : Nat) (f : Nat → UInt32) (t : TypeId) (c : Array Value) (hc : c.toList = ws f n) : Arr (w.alloc (.cells c t)) w.heap.size n f := by
  intro j hj
  refine ⟨?_, World.frozen?_alloc_new w c t j⟩
  rw [World.cell?_alloc_new, ← Array.getElem?_toList, hc]
  simp [ws, hj]
theorem Arr.new' (w : World) (b n : Nat) (f : Nat → UInt32) (t : TypeId) (c : Array Value) (hb : b = w.heap.size) (hc : c.toList = ws f n) : Arr (w.alloc (.cells c t)) b n f := by
  subst hb; exact Arr.new w n f t c hc
theorem Arr.fill4 {w : World} {b : Nat} {f : Nat → UInt32} (h : Arr w b 4 f) (g : Nat → UInt32) :
    Arr ((((w.setCell ⟨b,0,none⟩ (.int .u32 (g 0).toNat)).setCell ⟨b,1,none⟩ (.int .u32 (g 1).toNat)).setCell ⟨b,2,none⟩ (.int .u32 (g 2).toNat)).setCell ⟨b,3,none⟩ (.int .u32 (g 3).toNat)) b 4 g := by
  refine ((((h.set 0 (by omega) (g 0)).set 1 (by omega) (g 1)).set 2 (by omega) (g 2)).set 3 (by omega) (g 3)).congr fun j hj => ?_
  unfold upd
  obtain rfl | rfl | rfl | rfl : j = 0 ∨ j = 1 ∨ j = 2 ∨ j = 3 := by omega
  all_goals simp
theorem Arr.fill8 {w : World} {b : Nat} {f : Nat → UInt32} (h : Arr w b 8 f) (g : Nat → UInt32) :
    Arr ((((((((w.setCell ⟨b,0,none⟩ (.int .u32 (g 0).toNat)).setCell ⟨b,1,none⟩ (.int .u32 (g 1).toNat)).setCell ⟨b,2,none⟩ (.int .u32 (g 2).toNat)).setCell ⟨b,3,none⟩ (.int .u32 (g 3).toNat)).setCell ⟨b,4,none⟩ (.int .u32 (g 4).toNat)).setCell ⟨b,5,none⟩ (.int .u32 (g 5).toNat)).setCell ⟨b,6,none⟩ (.int .u32 (g 6).toNat)).setCell ⟨b,7,none⟩ (.int .u32 (g 7).toNat)) b 8 g := by
  refine ((((((((h.set 0 (by omega) (g 0)).set 1 (by omega) (g 1)).set 2 (by omega) (g 2)).set 3 (by omega) (g 3)).set 4 (by omega) (g 4)).set 5 (by omega) (g 5)).set 6 (by omega) (g 6)).set 7 (by omega) (g 7)).congr fun j hj => ?_
  unfold upd
  obtain rfl | rfl | rfl | rfl | rfl | rfl | rfl | rfl : j = 0 ∨ j = 1 ∨ j = 2 ∨ j = 3 ∨ j = 4 ∨ j = 5 ∨ j = 6 ∨ j = 7 := by omega
  all_goals simp
/-- Four, and eight, stores into a block from B on. -/
theorem _root_.Go.RowKit.Below.fill4 {B : Nat} {a w : World} (h : Below B a w) {b : Nat} (hp : B ≤ b) (v0 v1 v2 v3 : Value) : Below B a ((((w.setCell ⟨b,0,none⟩ v0).setCell ⟨b,1,none⟩ v1).setCell ⟨b,2,none⟩ v2).setCell ⟨b,3,none⟩ v3) :=
  (((h.setCell hp _).setCell hp _).setCell hp _).setCell hp _
theorem _root_.Go.RowKit.Below.fill8 {B : Nat} {a w : World} (h : Below B a w) {b : Nat} (hp : B ≤ b) (v0 v1 v2 v3 v4 v5 v6 v7 : Value) : Below B a ((((((((w.setCell ⟨b,0,none⟩ v0).setCell ⟨b,1,none⟩ v1).setCell ⟨b,2,none⟩ v2).setCell ⟨b,3,none⟩ v3).setCell ⟨b,4,none⟩ v4).setCell ⟨b,5,none⟩ v5).setCell ⟨b,6,none⟩ v6).setCell ⟨b,7,none⟩ v7) :=
  (((((((h.setCell hp _).setCell hp _).setCell hp _).setCell hp _).setCell hp _).setCell hp _).setCell hp _).setCell hp _
def Tn (w : World) : Prop := (w.cell? ⟨0,0,none⟩ = some (.int .i64 7) ∧ w.cell? ⟨0,1,none⟩ = some (.int .i64 9)) ∧ w.cell? ⟨0,2,none⟩ = some (.int .i64 13) ∧ w.cell? ⟨0,3,none⟩ = some (.int .i64 18)
theorem Tn.below {w w' : World} (h : Tn w) (hb : Below w.heap.size w w') : Tn w' :=
  ⟨⟨(hb.cell (World.block_lt_of_cell? w _ h.1.1)).trans h.1.1, (hb.cell (World.block_lt_of_cell? w _ h.1.2)).trans h.1.2⟩, (hb.cell (World.block_lt_of_cell? w _ h.2.1)).trans h.2.1, (hb.cell (World.block_lt_of_cell? w _ h.2.2)).trans h.2.2⟩
theorem Tn.drew {w : World} (h : Tn w) : Tn w.drew := h
theorem Tn.pos {w : World} (h : Tn w) : 0 < w.heap.size := World.block_lt_of_cell? w _ h.1.1
def rot (x : UInt32) (n : Nat) : UInt32 := UInt32.ofNat (x.toNat * 2 ^ n % 4294967296 + x.toNat / 2 ^ (32 - n))
theorem still_tail_drew {P : Program} {id : Nat} {Q : Exit → Act → World → Prop} {a : Act} {w : World} {l : List Oper} (n : Nat) (hm : P.follows .mixedOrders = true) (hB : Region.lexTailB .any l.toArray n = true)
    (h : wpStill P l.toArray w.drew (fun a' => wpList P l.toArray Q (l.drop n) a' w.drew) (l.take n) a) : (Code.region id l.toArray true).wp P Q a w :=
  wp_region_still_tail n hm hB h
def addW (a b : UInt32) : UInt32 := a + b
def xorW (a b : UInt32) : UInt32 := a ^^^ b
theorem addW_eq (a b : UInt32) : ((a.toNat : Int) + (b.toNat : Int)) % 4294967296 = ((addW a b).toNat : Int) := by
  unfold addW; rw [UInt32.toNat_add]; omega
theorem wraps_u32 (n : Int) (h₀ : 0 ≤ n) (h₁ : n < 2 ^ 32) : IntKind.u32.wrap n = n := by rw [IntKind.wrap_u32]; omega
theorem xorW_eq (a b : UInt32) : bits BinOp.xor IntKind.u32 (a.toNat : Int) (b.toNat : Int) = ((xorW a b).toNat : Int) := by
  have ha := a.toNat_lt; have hb := b.toNat_lt
  have hx : a.toNat ^^^ b.toNat < 2 ^ 32 := Nat.xor_lt_two_pow (by omega) (by omega)
  have h1 : (BitVec.ofInt 32 (a.toNat : Int)).toNat = a.toNat := by
    rw [BitVec.ofInt_natCast, BitVec.toNat_ofNat]; exact Nat.mod_eq_of_lt (by omega)
  have h2 : (BitVec.ofInt 32 (b.toNat : Int)).toNat = b.toNat := by
    rw [BitVec.ofInt_natCast, BitVec.toNat_ofNat]; exact Nat.mod_eq_of_lt (by omega)
  unfold xorW
  show IntKind.u32.wrap ((BitVec.ofInt 32 (a.toNat : Int) ^^^ BitVec.ofInt 32 (b.toNat : Int)).toNat : Int) = _
  rw [BitVec.toNat_xor, h1, h2, UInt32.toNat_xor, wraps_u32 _ (by omega) (by omega)]
/-- The place of a word that is turned: as math/bits has it. -/
theorem rot_eq (x : UInt32) (k : Nat) (hk : k < 32) : bits BinOp.or IntKind.u32 ((x.toNat : Int) * 2 ^ k % 4294967296) ((x.toNat : Int) / 2 ^ (32 - k)) = ((rot x k).toNat : Int) := by
  have hx := x.toNat_lt
  have hp : 2 ^ (32 - k) * 2 ^ k = 4294967296 := by rw [← Nat.pow_add, Nat.sub_add_cancel (by omega)]
  have hl : x.toNat / 2 ^ (32 - k) < 2 ^ k := by
    rw [Nat.div_lt_iff_lt_mul (Nat.two_pow_pos _), Nat.mul_comm, hp]; exact hx
  have e1 : x.toNat * 2 ^ k % 4294967296 = (x.toNat % 2 ^ (32 - k)) * 2 ^ k := by
    rw [← hp, Nat.mul_comm (2 ^ (32 - k)), Nat.mul_comm x.toNat, Nat.mul_mod_mul_left, Nat.mul_comm]
  have ha : x.toNat * 2 ^ k % 4294967296 < 2 ^ 32 := Nat.mod_lt _ (by decide)
  have hb : x.toNat / 2 ^ (32 - k) < 2 ^ 32 := Nat.lt_of_le_of_lt (Nat.div_le_self _ _) hx
  have h := (bits_nat .u32 32 (Nat.le_refl _) wraps_u32 (x.toNat * 2 ^ k % 4294967296) (x.toNat / 2 ^ (32 - k)) ha hb).2
  have c1 : ((x.toNat * 2 ^ k % 4294967296 : Nat) : Int) = (x.toNat : Int) * 2 ^ k % 4294967296 := by simp
  have c2 : ((x.toNat / 2 ^ (32 - k) : Nat) : Int) = (x.toNat : Int) / 2 ^ (32 - k) := by simp
  rw [c1, c2] at h
  rw [h, e1]
  have hor : (x.toNat % 2 ^ (32 - k)) * 2 ^ k ||| x.toNat / 2 ^ (32 - k) = (x.toNat % 2 ^ (32 - k)) * 2 ^ k + x.toNat / 2 ^ (32 - k) := by
    rw [Nat.mul_comm, ← Nat.two_pow_add_eq_or_of_lt hl]
  rw [hor, ← e1]
  have hlt : x.toNat * 2 ^ k % 4294967296 + x.toNat / 2 ^ (32 - k) < 4294967296 := by
    rw [e1]
    have : x.toNat % 2 ^ (32 - k) < 2 ^ (32 - k) := Nat.mod_lt _ (Nat.two_pow_pos _)
    calc (x.toNat % 2 ^ (32 - k)) * 2 ^ k + x.toNat / 2 ^ (32 - k) < (x.toNat % 2 ^ (32 - k)) * 2 ^ k + 2 ^ k := by omega
      _ = (x.toNat % 2 ^ (32 - k) + 1) * 2 ^ k := by rw [Nat.add_mul, Nat.one_mul]
      _ ≤ 2 ^ (32 - k) * 2 ^ k := Nat.mul_le_mul_right _ (by omega)
      _ = 4294967296 := hp
  unfold rot
  rw [UInt32.toNat_ofNat', Nat.mod_eq_of_lt hlt]
end Go.Proofs.YtpodfmnnabepaaaDoor

namespace Go.Proofs.YtpodfmnnabepaaaDoor
open Go.RowKit
theorem rotl_any (x : UInt32) (k : Nat) (hk1 : k < 32) (w : World) :
    Calls Tryd.prog 92 #[.int .u32 x.toNat, .int .i64 k] w fun e w' => e = .returned (.int .u32 (rot x k).toNat) ∧ w = w' := by
  have hb : bits BinOp.and IntKind.u64 k 31 = k := by
    have := bits_mask .u64 64 (Nat.le_refl _) (fun n h0 h1 => by rw [IntKind.wrap_u64]; omega) 5 (by decide) (k : Int) (by omega) (by omega)
    rw [show ((2 : Int) ^ 5 - 1) = 31 from rfl] at this
    rw [this]; omega
  have hx := x.toNat_lt
  have h1 : ((x.toNat : Int)) < 4294967296 := by omega
  have hr := Lib.hid (rot_eq x k hk1)
  go_enter Tryd.func92, Tryd.ntmps92
  go_wp2
  go_ret
  refine ⟨?_, rfl⟩
  rw [← hr.out]
  simp
theorem turn_any (x : UInt32) (k : Nat) (hk1 : k < 32) (w : World) :
    Calls Tryd.prog 91 #[.int .u32 x.toNat, .int .i64 k] w fun e w' => e = .returned (.int .u32 (rot x k).toNat) ∧ w = w' := by
  have hm : (k : Int) % 32 = k := by omega
  go_enter Tryd.func91, Tryd.ntmps91
  go_wp2_with (go_at_call 92; refine (rotl_any x k hk1 _).mono ?_; rintro e w' ⟨rfl, rfl⟩)
  go_ret
  exact ⟨rfl, rfl⟩
def tn (i : Nat) : Nat := match i with | 0 => 7 | 1 => 9 | 2 => 13 | _ => 18
theorem tn_lt (i : Nat) : tn i < 32 := by unfold tn; split <;> decide
theorem tn_at (j : Nat) (hj : j < 4) : ∀ w, (Instr.index 106 (.agg #[.int .i64 7, .int .i64 9, .int .i64 13, .int .i64 18]) (.int .i64 j)).run Tryd.prog w = .ok (.int .i64 (tn j)) w := by
  intro w
  obtain rfl | rfl | rfl | rfl : j = 0 ∨ j = 1 ∨ j = 2 ∨ j = 3 := by omega
  all_goals kernel_rfl
def gold (k : Nat) : UInt32 := UInt32.ofNat (2654435769 * (k + 1))
theorem gold_eq (k : Nat) : 2654435769 * ((k : Int) + 1) % 4294967296 = ((gold k).toNat : Int) := by
  unfold gold; rw [UInt32.toNat_ofNat']; omega
def mstep (g : Nat → UInt32) (j : Nat) : Nat → UInt32 := upd (upd g j (addW (g j) (g (j+4)))) (j+4) (rot (xorW (g (j+4)) (addW (g j) (g (j+4)))) (tn j))
def minner (g : Nat → UInt32) : Nat → (Nat → UInt32)
  | 0 => g
  | j+1 => mstep (minner g j) j
def mturn (h : Nat → UInt32) (j : Nat) : UInt32 := h ((j+3)%8)
def mround (g : Nat → UInt32) (k : Nat) : Nat → UInt32 := mturn (minner (upd g 0 (addW (g 0) (gold k))) 4)
def mrounds (g : Nat → UInt32) : Nat → (Nat → UInt32)
  | 0 => g
  | k+1 => mround (mrounds g k) k
def mix (g : Nat → UInt32) : Nat → UInt32 := mrounds g 8
abbrev st8 (f : Nat → UInt32) : Value := .agg #[.int .u32 (f 0).toNat, .int .u32 (f 1).toNat, .int .u32 (f 2).toNat, .int .u32 (f 3).toNat, .int .u32 (f 4).toNat, .int .u32 (f 5).toNat, .int .u32 (f 6).toNat, .int .u32 (f 7).toNat]
set_option maxRecDepth 100000 in
theorem mix_any (f : Nat → UInt32) (w : World) (ht : Tn w) :
    Calls Tryd.prog 84 #[st8 f] w fun e w' => e = .returned (st8 (mix f)) ∧ Below w.heap.size w w' := by
  have hpos := ht.pos
  go_enter Tryd.func84, Tryd.ntmps84
  go_wp2
  go_loopw [3, 8] (fun _ i wr => ∃ k : Nat, k ≤ 8 ∧ i = .int .u32 k ∧ Arr wr w.heap.size 8 (mrounds f k) ∧ Arr wr (w.heap.size+1) 8 (fun _ => 0) ∧ Below w.heap.size w wr ∧ w.heap.size + 2 ≤ wr.heap.size) (fun u i wr => 8 - (intOf i).toNat)
  case atStart =>
    refine ⟨0, by omega, rfl, ?_, ?_, (((Below.refl _ _).alloc (Nat.le_refl _) _).alloc (by simp) _), by simp⟩
    · exact (Arr.new w 8 f 85 _ rfl).alloc (by simp) _
    · exact Arr.new' _ _ 8 (fun _ => 0) 85 _ (by simp) rfl
  case round =>
    obtain ⟨k, hk, rfl, ha, hz, hb, hs⟩ := hrel
    generalize hg : mrounds f k = g at *
    have Hg := Lib.hid hg; clear hg
    have htr := ht.below hb
    obtain ⟨⟨t0, t1⟩, t2, t3⟩ := htr
    by_cases hlt : k < 8
    · have hd : decide ((k : Int) < 8) = true := by simp; omega
      have hgo := gold_eq k
      have had := addW_eq (g 0) (gold k)
      have c0 := ha.cell 0 (by omega)
      have f0 := ha.free 0 (by omega)
      go_wp2
      simp only [hgo, had]
      clear hgo had
      go_loopw [4, 5, 19] (fun _ _ i wr' => ∃ j : Nat, j ≤ 4 ∧ i = .int .i64 j ∧ Arr wr' w.heap.size 8 (minner (upd g 0 (addW (g 0) (gold k))) j) ∧ Arr wr' (w.heap.size+1) 8 (fun _ => 0) ∧ Below w.heap.size w wr' ∧ w.heap.size + 2 ≤ wr'.heap.size) (fun _ _ i wr => 4 - (intOf i).toNat)
      case atStart =>
        refine ⟨0, by omega, rfl, ?_, ?_, ?_, ?_⟩
        · have := ha.set 0 (by omega) (addW (g 0) (gold k)); exact this
        · exact hz.set_other _ _ (by simp)
        · exact hb.setCell (by simp) _
        · simpa using hs
      case round =>
        obtain ⟨j, hj, rfl, ha', hz', hb', hs'⟩ := hrel
        clear t0 t1 t2 t3 ha c0 f0 hz
        generalize hg' : minner (upd g 0 (addW (g 0) (gold k))) j = g' at *
        have Hg' := Lib.hid hg'; clear hg'
        by_cases hlt4 : j < 4
        · have hix := tn_at j hlt4
          have c0 := ha'.cell j (by omega)
          have c1 := ha'.cell (j+4) (by omega)
          have f0 := ha'.free j (by omega)
          have f1 := ha'.free (j+4) (by omega)
          have e1 := addW_eq (g' j) (g' (j+4))
          have e2 := xorW_eq (g' (j+4)) (addW (g' j) (g' (j+4)))
          go_wp2
          go_region
          go_wp2
          have s1 : IntKind.i64.wrap ((j : Int) + 4) = (j : Int) + 4 := IntWalk.i64_in _ (by omega)
          have s2 : (0 : Int) ≤ (j : Int) + 4 := by omega
          have s3 : ((j : Int) + 4).toNat = j + 4 := by omega
          have s4 : (j : Int) + 4 < 8 := by omega
          have s5 : (j : Int) < 8 := by omega
          refine still_tail_drew 12 (by kernel_rfl) (by kernel_rfl) ?_
          simp only [List.take_succ_cons, List.take_zero, List.drop_succ_cons, List.drop_zero]
          iterate 11 still_step
          still_call ((turn_any (xorW (g' (j+4)) (addW (g' j) (g' (j+4)))) (tn j) (tn_lt j) _).mono fun _ _ h => ⟨h.1, h.2.symm⟩)
          refine wpStill_nil ?_
          go_wp2
          go_roundw
          case rel =>
            refine ⟨j + 1, by omega, by go_num, ?_, ?_, ?_, ?_⟩
            · have h1 := ((ha'.set j (by omega) (addW (g' j) (g' (j+4)))).set (j+4) (by omega) (rot (xorW (g' (j+4)) (addW (g' j) (g' (j+4)))) (tn j))).drew.drew
              have e : minner (upd g 0 (addW (g 0) (gold k))) (j + 1) = upd (upd g' j (addW (g' j) (g' (j+4)))) (j+4) (rot (xorW (g' (j+4)) (addW (g' j) (g' (j+4)))) (tn j)) := by
                rw [← Hg'.out]; rfl
              rw [e]; exact h1
            · exact ((hz'.set_other _ _ (by simp)).set_other _ _ (by simp)).drew.drew
            · exact ((hb'.setCell (by simp) _).setCell (by simp) _).drew.drew
            · simpa using hs'
          case measure => simp [intOf]; omega
        · obtain rfl : j = 4 := by omega
          have hd4 : decide (((4:Nat) : Int) < 4) = false := by decide
          have c0 := ha'.cell 0 (by omega)
          have c1 := ha'.cell 1 (by omega)
          have c2 := ha'.cell 2 (by omega)
          have c3 := ha'.cell 3 (by omega)
          have c4 := ha'.cell 4 (by omega)
          have c5 := ha'.cell 5 (by omega)
          have c6 := ha'.cell 6 (by omega)
          have c7 := ha'.cell 7 (by omega)
          go_wp2
          clear c0 c1 c2 c3 c4 c5 c6 c7
          obtain ⟨wq, rfl⟩ : ∃ wq : World, wq = wr := ⟨_, rfl⟩
          go_loopw [7, 47] (fun _ i wr' => ∃ j : Nat, j ≤ 8 ∧ i = .int .i64 j ∧ Arr wr' w.heap.size 8 (fun i => if i < j then g' ((i+3)%8) else g' i) ∧ Arr wr' wq.heap.size 8 g' ∧ Arr wr' (w.heap.size+1) 8 (fun _ => 0) ∧ Below w.heap.size w wr' ∧ wq.heap.size + 1 ≤ wr'.heap.size) (fun _ i wr => 8 - (intOf i).toNat)
          case atStart =>
            refine ⟨0, by omega, rfl, ?_, ?_, ?_, ?_, ?_⟩
            · exact (ha'.alloc (by omega) _).congr (fun j _ => by simp only [Nat.not_lt_zero, if_false])
            · exact Arr.new wq 8 g' 85 _ rfl
            · exact hz'.alloc (by omega) _
            · exact hb'.alloc (by omega) _
            · simp
          case round =>
            obtain ⟨j, hj8, rfl, h1, h2, h3, h4, h5⟩ := hrel
            clear ha' hz' hb'
            by_cases hlt8 : j < 8
            · have c0 := h2.cell ((j+3)%8) (by omega)
              have f0 := h1.free j (by omega)
              have c1 := h1.cell j (by omega)
              rw [if_neg (Nat.lt_irrefl _)] at c1
              have hne : wq.heap.size ≠ w.heap.size := by omega
              go_wp2
              go_roundw
              case rel =>
                refine ⟨j + 1, by omega, by go_num, ?_, ?_, ?_, ?_, ?_⟩
                · refine (h1.set j (by omega) (g' ((j+3)%8))).congr (fun i _ => ?_)
                  unfold upd
                  by_cases e : i = j
                  · subst e; rw [if_pos rfl, if_pos (by omega)]
                  · rw [if_neg e]
                    show (if i < j then g' ((i + 3) % 8) else g' i) = _
                    by_cases e' : i < j
                    · rw [if_pos e', if_pos (by omega)]
                    · rw [if_neg e', if_neg (by omega)]
                · exact (h2.set_other _ _ (by simp; omega))
                · exact (h3.set_other _ _ (by simp))
                · exact h4.setCell (by simp) _
                · simpa using h5
              case measure => simp [intOf]; omega
            · obtain rfl : j = 8 := by omega
              go_wp2
              go_roundw
              case rel =>
                refine ⟨k + 1, by omega, by go_num, ?_, h3, h4, by omega⟩
                refine h1.congr (fun i hi => ?_)
                rw [if_pos hi]
                show g' ((i + 3) % 8) = mturn (minner (upd (mrounds f k) 0 (addW (mrounds f k 0) (gold k))) 4) i
                rw [Hg.out, Hg'.out]; rfl
              case measure => simp [intOf]; omega
    · obtain rfl : k = 8 := by omega
      have hc := fun j h => ha.cell j h
      have hd := fun j h => hz.cell j h
      have hf := fun j h => hz.free j h
      go_wp2
      refine bodyPost_ret (v := st8 g) (by simp [results, Tryd.results84, go_sem, hd]) rfl ⟨by rw [← Hg.out]; rfl, ?_⟩
      exact (((((((hb.setCell (by simp) _).setCell (by simp) _).setCell (by simp) _).setCell (by simp) _).setCell (by simp) _).setCell (by simp) _).setCell (by simp) _).setCell (by simp) _
end Go.Proofs.YtpodfmnnabepaaaDoor

namespace Go.Proofs.YtpodfmnnabepaaaDoor
open Go.RowKit
def xor4 (s g : Nat → UInt32) (n j : Nat) : UInt32 := if j < n then xorW (s j) (g j) else s j
def st0 (v : UInt32) (j : Nat) : UInt32 := if j = 0 then v else 0
def absorb (s : Nat → UInt32) (g : Nat → UInt32) : Nat → (Nat → UInt32)
  | 0 => s
  | k+1 => mix (xor4 (absorb s g k) (fun j => g (4*k+j)) 4)
abbrev st4 (f : Nat → UInt32) : Value := .agg #[.int .u32 (f 0).toNat, .int .u32 (f 1).toNat, .int .u32 (f 2).toNat, .int .u32 (f 3).toNat]
def lenOf (l : Value) : Nat := match l with | .slice _ n _ => n | _ => 0
/-- What is left of eight words behind k blocks. -/
def tailOf (b k : Nat) (l : Value) : Prop := ∃ A n C, l = .slice A n C ∧ n + 4 * k = 8 ∧ (k < 2 → A = some ⟨b, 4 * k, none⟩ ∧ n ≤ C ∧ C ≤ 9223372036854775807)
set_option maxRecDepth 100000 in
set_option maxHeartbeats 4000000 in
theorem take_any (v : UInt32) (b c : Nat) (g : Nat → UInt32) (w : World) (ht : Tn w) (hg : ∀ j, j < 8 → w.cell? ⟨b, j, none⟩ = some (.int .u32 (g j).toNat)) (hc : 8 ≤ c) (hc1 : c ≤ 9223372036854775807) :
    Calls Tryd.prog 75 #[.int .u32 v.toNat, .slice (some ⟨b, 0, none⟩) 8 c] w fun e w' => e = .returned (st4 (absorb (st0 v) g 2)) ∧ Below w.heap.size w w' := by
  have hbl : b < w.heap.size := World.block_lt_of_cell? w _ (hg 0 (by omega))
  go_enter Tryd.func75, Tryd.ntmps75
  go_wp2
  go_loopw [1] (fun l wr => ∃ k : Nat, k ≤ 2 ∧ tailOf b k l ∧ Arr wr (w.heap.size + 1) 8 (absorb (st0 v) g k) ∧ Arr wr w.heap.size 4 (fun _ => 0) ∧ Below w.heap.size w wr ∧ w.heap.size + 2 ≤ wr.heap.size) (fun l _ => lenOf l)
  case atStart =>
    refine ⟨0, by omega, ⟨_, 8, c, rfl, rfl, fun _ => ⟨rfl, hc, hc1⟩⟩, ?_, ?_, ?_, ?_⟩
    · exact (Arr.new' _ _ 8 (st0 v) 85 _ (by simp) rfl)
    · exact (Arr.new w 4 (fun _ => 0) 24 _ rfl).alloc (by simp) _
    · exact ((Below.refl _ _).alloc (Nat.le_refl _) _).alloc (by simp) _
    · simp
  case round =>
    obtain ⟨k, hk, ⟨A, n, C, rfl, hn, hA⟩, ha, hz, hb, hs⟩ := hrel
    by_cases hk2 : k < 2
    · obtain ⟨rfl, hC, hC1⟩ := hA hk2
      have hcell : ∀ j, j < 4 → wr.cell? ⟨b, 4 * k + j, none⟩ = some (.int .u32 (g (4 * k + j)).toNat) := fun j hj => (hb.cell (p := ⟨b, 4 * k + j, none⟩) hbl).trans (hg _ (by omega))
      generalize hs0 : absorb (st0 v) g k = s at *
      have Hs0 := Lib.hid hs0; clear hs0
      generalize ho : 4 * k = o at *
      have Hn := Lib.hid hn; clear hn
      have hn4 : 4 ≤ n := by have := Hn.out; omega
      have hn8 : n ≤ 8 := by have := Hn.out; omega
      have hol : o ≤ 4 := by omega
      have Ho := Lib.hid ho; clear ho
      have hd : decide (4 ≤ (n : Int)) = true := by simp; omega
      have hlt : ((4 : Int) ≤ (C : Int)) := by omega
      go_wp2
      obtain ⟨wo, rfl⟩ : ∃ wo : World, wo = wr := ⟨_, rfl⟩
      clear hA
      have Hcell := Lib.hid hcell; clear hcell
      go_loopw [6, 7, 16] (fun _ _ i wr => ∃ j : Nat, j ≤ 4 ∧ i = .int .i64 j ∧ Arr wr (w.heap.size + 1) 8 (xor4 s (fun j => g (o+j)) j) ∧ Below (w.heap.size + 1) wo wr ∧ wo.heap.size ≤ wr.heap.size) (fun _ _ i _ => 4 - (intOf i).toNat)
      case atStart => exact ⟨0, by omega, rfl, ha.congr (fun j _ => by simp [xor4]), Below.refl _ _, Nat.le_refl _⟩
      case round =>
        obtain ⟨j, hj, rfl, ha', hb', hs'⟩ := hrel
        by_cases hj4 : j < 4
        · have c0 := ha'.cell j (by omega)
          have f0 := ha'.free j (by omega)
          have c1 := (hb'.cell (p := ⟨b, o + j, none⟩) (by simp; omega)).trans (Hcell.out j hj4)
          have e1 := xorW_eq (s j) (g (o + j))
          have e0 : xor4 s (fun j => g (o+j)) j j = s j := by simp [xor4]
          rw [e0] at c0; clear e0
          go_wp2
          go_roundw
          case rel =>
            refine ⟨j + 1, by omega, by go_num, ?_, ?_, ?_⟩
            · refine (ha'.set j (by omega) (xorW (s j) (g (o + j)))).congr (fun i _ => ?_)
              unfold upd xor4
              by_cases e : i = j
              · subst e; rw [if_pos rfl, if_pos (by omega)]
              · rw [if_neg e]
                by_cases e' : i < j
                · rw [if_pos e', if_pos (by omega)]
                · rw [if_neg e', if_neg (by omega)]
            · exact hb'.setCell (by simp) _
            · simpa using hs'
          case measure => simp [intOf]; omega
        · obtain rfl : j = 4 := by omega
          have hc := fun j h => ha'.cell j h
          have hf := fun j h => ha'.free j h
          generalize hs1 : xor4 s (fun j => g (o+j)) 4 = s1 at *
          have Hs1 := Lib.hid hs1; clear hs1
          have hb3 : Below w.heap.size w wr := hb.trans (hb'.mono (by omega))
          have htq : Tn wr := ht.below hb3
          have hz1 : Arr wr w.heap.size 4 (fun _ => 0) := hz.below hb' (by omega)
          by_cases hCn : C = 4
          · subst hCn
            have en' : n = 4 := by omega
            go_wp2_with fail
            go_region_with (go_at_call 84; refine (mix_any s1 _ (by exact htq)).mono ?_; rintro e w1 ⟨rfl, hb1⟩; have ha1 := Arr.below (Arr.drew ha') hb1 (by simp only [World.drew]; omega); have hc1 := fun j h => ha1.cell j h; have hf1 := fun j h => ha1.free j h)
            all_goals
              dsimp only [List.getElem?_toArray, List.getElem?_cons_succ, List.getElem?_cons_zero, List.getElem_toArray, List.getElem_cons_succ, List.getElem_cons_zero]
              go_frame
              go_wp2
              have hb2 : Below w.heap.size w w1 := hb3.drew.trans (hb1.mono (by simp only [World.drew]; omega))
              have hs2 : wr.heap.size ≤ w1.heap.size := hb1.size
              have hz2 := Arr.below (Arr.drew hz1) hb1 (by simp only [World.drew]; omega)
              go_roundw
              case rel =>
                have en := Hn.out
                have eo := Ho.out
                refine ⟨k + 1, by omega, ⟨_, _, _, rfl, by omega, fun h => ?_⟩, ?_, ?_, ?_, ?_⟩
                · omega
                · have e : absorb (st0 v) g (k + 1) = mix s1 := by
                    show mix (xor4 (absorb (st0 v) g k) (fun j => g (4*k+j)) 4) = _
                    rw [Hs0.out, eo, Hs1.out]
                  rw [e]; exact ha1.fill8 (mix s1)
                · exact (((((((hz2.set_other _ _ (by simp)).set_other _ _ (by simp)).set_other _ _ (by simp)).set_other _ _ (by simp)).set_other _ _ (by simp)).set_other _ _ (by simp)).set_other _ _ (by simp)).set_other _ _ (by simp)
                · exact hb2.fill8 (by simp) _ _ _ _ _ _ _ _
                · simp; omega
              case measure => simp [lenOf]; omega
          · have hlt' : ¬ ((C : Int) = 4) := by omega
            go_wp2_with fail
            go_region_with (go_at_call 84; refine (mix_any s1 _ (by exact htq)).mono ?_; rintro e w1 ⟨rfl, hb1⟩; have ha1 := Arr.below (Arr.drew ha') hb1 (by simp only [World.drew]; omega); have hc1 := fun j h => ha1.cell j h; have hf1 := fun j h => ha1.free j h)
            all_goals
              dsimp only [List.getElem?_toArray, List.getElem?_cons_succ, List.getElem?_cons_zero, List.getElem_toArray, List.getElem_cons_succ, List.getElem_cons_zero]
              go_frame
              go_wp2
              have hb2 : Below w.heap.size w w1 := hb3.drew.trans (hb1.mono (by simp only [World.drew]; omega))
              have hs2 : wr.heap.size ≤ w1.heap.size := hb1.size
              have hz2 := Arr.below (Arr.drew hz1) hb1 (by simp only [World.drew]; omega)
              go_roundw
              case rel =>
                have en := Hn.out
                have eo := Ho.out
                refine ⟨k + 1, by omega, ⟨_, _, _, rfl, by omega, fun h => ?_⟩, ?_, ?_, ?_, ?_⟩
                · exact ⟨by rw [show 4 * (k + 1) = o + 4 from by omega], by omega, by omega⟩
                · have e : absorb (st0 v) g (k + 1) = mix s1 := by
                    show mix (xor4 (absorb (st0 v) g k) (fun j => g (4*k+j)) 4) = _
                    rw [Hs0.out, eo, Hs1.out]
                  rw [e]; exact ha1.fill8 (mix s1)
                · exact (((((((hz2.set_other _ _ (by simp)).set_other _ _ (by simp)).set_other _ _ (by simp)).set_other _ _ (by simp)).set_other _ _ (by simp)).set_other _ _ (by simp)).set_other _ _ (by simp)).set_other _ _ (by simp)
                · exact hb2.fill8 (by simp) _ _ _ _ _ _ _ _
                · simp; omega
              case measure => simp [lenOf]; omega
    · obtain rfl : k = 2 := by omega
      obtain rfl : n = 0 := by omega
      have hc := fun j h => ha.cell j h
      have hd := fun j h => hz.cell j h
      have hf := fun j h => hz.free j h
      clear hA
      have hat : ∀ (wx : World), (Instr.arrayAt 24 (Value.slice (some ⟨w.heap.size + 1,0,none⟩) 4 8)).run Tryd.prog wx = .ok (.pointer (some ⟨w.heap.size+1,0,none⟩)) wx := fun _ => by kernel_rfl
      generalize he : absorb (st0 v) g 2 = f at *
      have He := Lib.hid he; clear he
      go_wp2
      refine bodyPost_ret (v := st4 f) (by simp [results, Tryd.results75, go_sem, hd]) rfl ⟨by rw [He.out], ?_⟩
      exact hb.fill4 (by simp) _ _ _ _
end Go.Proofs.YtpodfmnnabepaaaDoor

namespace Go
section
variable {P : Program} {ops : Array Oper} {S : World → Prop}

/-- What comes of an operation: the value v, and S is kept. -/
def Gives (P : Program) (S : World → Prop) (v : Value) : Result Next → Prop
  | .ok (.value u) w' => u = v ∧ S w'
  | .ok .skip w' => v = undef ∧ S w'
  | .ok (.enter f args) w' => Calls P f args w' (fun e w'' => e = .returned v ∧ S w'')
  | _ => False

/-- In every world that meets S the operation yields v and keeps S. -/
def YieldsS (P : Program) (ops : Array Oper) (S : World → Prop) (o : Oper) (v : Value) (a : Act) : Prop :=
  (Region.wanted o (yielded ops a.tmps) = true ∧ ∀ w, S w → Gives P S v ((execOp a.eval o).run P w)) ∨
  (Region.wanted o (yielded ops a.tmps) = false ∧ v = undef)

theorem YieldsS.of_same {o : Oper} {v : Value} {a a' : Act} (hy : YieldsS P ops S o v a) (he : execOp a'.eval o = execOp a.eval o)
    (hw : Region.wanted o (yielded ops a'.tmps) = Region.wanted o (yielded ops a.tmps)) : YieldsS P ops S o v a' := by
  unfold YieldsS at *
  rw [he, hw]
  exact hy

theorem YieldsS.wpOp {Q : Exit → Act → World → Prop} {i : Nat} {o : Oper} {v : Value} {a : Act} {w : World} (hi : ops[i]? = some o) (hy : YieldsS P ops S o v a) (hS : S w)
    {K : Act → World → Prop} (h : ∀ w', S w' → K (a.put o.dst v) w') : wpOp P ops Q i K a w := by
  unfold Go.wpOp
  simp only [hi]
  rcases hy with ⟨hw, hv⟩ | ⟨hw, rfl⟩
  · simp only [hw, if_true]
    refine .inl ?_
    have hg := hv w hS
    unfold Oper.wp
    generalize (execOp a.eval o).run P w = r at hg
    cases r with
    | ok n w' =>
      cases n <;> simp only [Gives] at hg
      case value u => obtain ⟨rfl, h2⟩ := hg; exact h w' h2
      case skip => obtain ⟨rfl, h2⟩ := hg; exact h w' h2
      case enter f args =>
        rw [Oper.upon_enter]
        refine hg.mono fun e w'' he => ?_
        obtain ⟨rfl, h2⟩ := he
        exact h w'' h2
    | halt x w' => exact hg.elim
  · simp only [hw, Bool.false_eq_true, if_false]; exact h w hS

/-- Every order of the head that the edges allow comes to L. -/
def AnyS (P : Program) (md : Region.Mode) (ops : Array Oper) (S : World → Prop) (n : Nat) (L : Array Bool → Act → Prop) : Nat → Array Bool → Act → Prop
  | 0, listed, a => L listed a
  | f + 1, listed, a =>
    Region.ready md ops listed ≠ [] ∧ ∀ i ∈ Region.ready md ops listed, i < n ∧ ∃ o v, ops[i]? = some o ∧ YieldsS P ops S o v a ∧ AnyS P md ops S n L f (listed.setIfInBounds i true) (a.put o.dst v)

variable {md : Region.Mode}

theorem wpAny_of_anyS {n g : Nat} {L : Array Bool → Act → Prop} {Q : Exit → Act → World → Prop} (hL : ∀ listed a w, S w → L listed a → wpAny P md ops Q g listed a w) :
    ∀ (f : Nat) (listed : Array Bool) (a : Act) (w : World), S w → AnyS P md ops S n L f listed a → wpAny P md ops Q (f + g) listed a w
  | 0, listed, a, w, hS, h => by rw [Nat.zero_add]; exact hL _ _ _ hS h
  | f + 1, listed, a, w, hS, h => by
    rw [show f + 1 + g = (f + g) + 1 by omega]
    refine ⟨fun h0 => absurd h0 h.1, fun i hi => ?_⟩
    obtain ⟨_, o, v, ho, hy, hn⟩ := h.2 i hi
    exact hy.wpOp ho hS fun w' hS' => wpAny_of_anyS hL f _ _ w' hS' hn

theorem YieldsS.keep {oi oj : Oper} {v : Value} {a : Act} (hsi : ∀ cs b, oi.op ≠ .select cs b) (h3 : ∀ d, oj.dst = some d → d ∉ oi.looksAt ops) (hy : YieldsS P ops S oi v a) (u : Value) : YieldsS P ops S oi v (a.put oj.dst u) :=
  hy.of_same (execOp_put oi hsi a oj.dst u h3) (wanted_put oi a oj.dst u h3)
theorem YieldsS.back {oi oj : Oper} {v u : Value} {a : Act} (hsj : ∀ cs b, oj.op ≠ .select cs b) (h1 : ∀ d, oi.dst = some d → d ∉ oj.looksAt ops) (hy : YieldsS P ops S oj u (a.put oi.dst v)) : YieldsS P ops S oj u a :=
  hy.of_same (execOp_put oj hsj a oi.dst v h1).symm (wanted_put oj a oi.dst v h1).symm

theorem anyS_first {n i : Nat} {oi : Oper} {v : Value} {L : Array Bool → Act → Prop} (hi : ops[i]? = some oi) (hsel : ∀ (j : Nat) (o : Oper) cs b, ops[j]? = some o → o.op ≠ .select cs b)
    (hs : Region.sinkB md ops n = true) (hc : Region.chainB md ops n = true) (hn : n < ops.size) (hin : i < n)
    (hdone : ∀ listed a, L listed a → ∀ j ∈ Region.ready md ops listed, n ≤ j) :
    ∀ (f : Nat) (listed : Array Bool) (a : Act), HeadInv md ops n listed →
      (∀ j oj, ops[j]? = some oj → j ≠ i → listed.getD j true = false → (∀ e ∈ oj.after, Region.binds md e = true → e.on ≠ i) → oi.apart ops oj = true) →
      i ∈ Region.ready md ops listed → YieldsS P ops S oi v a →
      AnyS P md ops S n L f (listed.setIfInBounds i true) (a.put oi.dst v) → AnyS P md ops S n L (f + 1) listed a := by
  intro f
  induction f with
  | zero =>
    intro listed a inv _ hr hy H
    have hun := (mem_ready.1 hr).1
    refine ⟨fun h => (by rw [h] at hr; cases hr), fun j hj => ?_⟩
    have hjn : j < n := Nat.lt_of_not_le fun h => tail_waits hs hc hn inv _ i rfl hin hun j h hj
    by_cases hji : j = i
    · subst hji; exact ⟨hjn, oi, v, hi, hy, H⟩
    · have := hdone _ _ H j (ready_mono hj hji)
      omega
  | succ f ih =>
    intro listed a inv hfree hr hy H
    have hun := (mem_ready.1 hr).1
    refine ⟨fun h => (by rw [h] at hr; cases hr), fun j hj => ?_⟩
    have hjn : j < n := Nat.lt_of_not_le fun h => tail_waits hs hc hn inv _ i rfl hin hun j h hj
    by_cases hji : j = i
    · subst hji; exact ⟨hjn, oi, v, hi, hy, H⟩
    · obtain ⟨_, oj, u, hoj, hyj, hrest⟩ := H.2 j (ready_mono hj hji)
      obtain ⟨hjun, oj', hoj', hall⟩ := mem_ready.1 hj
      obtain rfl : oj = oj' := Option.some.inj (hoj.symm.trans hoj')
      have hnot : ∀ e ∈ oj.after, Region.binds md e = true → e.on ≠ i := fun e he hb heq => by
        have h1 := hall e he hb
        rw [heq, getD_both hun] at h1
        cases h1
      obtain ⟨h1, h2, h3⟩ := Oper.apart_spec (hfree j oj hoj hji hjun hnot)
      refine ⟨hjn, oj, u, hoj, hyj.back (fun cs b => hsel j oj cs b hoj) h1, ?_⟩
      refine ih (listed.setIfInBounds j true) (a.put oj.dst u) (inv.set hj hjn) (fun k ok hk hki hun' hno => ?_) (ready_mono hr (Ne.symm hji)) (hy.keep (fun cs b => hsel i oi cs b hi) h3 u) ?_
      · refine hfree k ok hk hki ?_ hno
        by_cases hjk : j = k
        · subst hjk; exact hjun
        · rw [getD_set_ne true hjk] at hun'; exact hun'
      · rw [Array.setIfInBounds_comm _ _ hji, ← Act.put_comm a v u h2]
        exact hrest

/-- The head in the order of the text, each operation's value once. -/
def wpHead (P : Program) (ops : Array Oper) (S : World → Prop) (Q : Act → Prop) : List Oper → Act → Prop
  | [], a => Q a
  | o :: rest, a => ∃ v, YieldsS P ops S o v a ∧ wpHead P ops S Q rest (a.put o.dst v)

theorem anyS_lex {n g : Nat} {Lq : Act → Prop} (hsel : Region.noSelect ops = true) (hs : Region.sinkB md ops n = true) (hc : Region.chainB md ops n = true) (hn : n < ops.size) :
    ∀ (l : List Oper) (k : Nat) (listed : Array Bool) (a : Act), (∀ j, j < l.length → l[j]? = ops[k + j]?) → k + l.length = n → HeadInv md ops n listed →
    Region.lexHead md ops g l.length k listed = true → wpHead P ops S Lq l a →
    AnyS P md ops S n (fun listed' a' => Region.seqB md ops g n listed' = true ∧ Lq a') l.length listed a
  | [], k, listed, a, _, hk, _, hB, h => by
    obtain rfl : k = n := by simpa using hk
    exact ⟨by simpa [Region.lexHead] using hB, h⟩
  | o :: l, k, listed, a, hl, hk, inv, hB, h => by
    have h0 : ops[k]? = some o := by simpa using (hl 0 (by simp)).symm
    simp only [List.length_cons, Region.lexHead, Bool.and_eq_true] at hB
    obtain ⟨⟨hr, hf⟩, hB'⟩ := hB
    have hkn : k < n := by simp only [List.length_cons] at hk; omega
    have hr' : k ∈ Region.ready md ops listed := by simpa using hr
    obtain ⟨v, hy, hK⟩ := h
    exact anyS_first h0 (Region.noSelect_spec hsel) hs hc hn hkn (fun listed' a' hL => seqB_ready hL.1) l.length listed a inv (Region.free_spec h0 hf) hr' hy
      (anyS_lex hsel hs hc hn l (k + 1) _ _ (fun j hj => by have := hl (j + 1) (by simp; omega); simpa [Nat.add_assoc, Nat.add_comm 1 j] using this) (by simp only [List.length_cons] at hk; omega) (inv.set hr' hkn) hB' hK)

/-- THE LAW: n operations of the head, then the tail. -/
theorem wp_region_head {id : Nat} {Q : Exit → Act → World → Prop} {a : Act} {w : World} {l : List Oper} (S : World → Prop) (n : Nat) (hm : P.follows .mixedOrders = true) (hB : Region.lexTailB .any l.toArray n = true)
    (hS : S w.drew) (h : wpHead P l.toArray S (fun a' => ∀ w', S w' → wpList P l.toArray Q (l.drop n) a' w') (l.take n) a) : (Code.region id l.toArray true).wp P Q a w := by
  simp only [Region.lexTailB, Bool.and_eq_true, decide_eq_true_eq] at hB
  obtain ⟨⟨⟨⟨hsel, hn⟩, hs⟩, hc⟩, hlex⟩ := hB
  have hn' : n < l.length := by simpa using hn
  have htl : (l.take n).length = n := by simp; omega
  have hdl : (l.drop n).length = l.toArray.size - n := by simp
  have inv0 : HeadInv .any l.toArray n (Array.replicate l.toArray.size false) :=
    ⟨by simp, fun j oj _ hl => (by rw [getD_replicate_false] at hl; cases hl), fun t _ ht => getD_in (by simpa using ht) (getD_replicate_false _ _)⟩
  have H := anyS_lex (md := .any) (g := l.toArray.size - n) hsel hs hc hn (l.take n) 0 _ a (fun j hj => by
    have hj' : j < n := by rw [htl] at hj; exact hj
    simp [hj']) (by simpa using htl) inv0 (by rw [htl]; exact hlex) h
  refine wp_region_any hm ?_
  have := wpAny_of_anyS (Q := Q) (g := l.toArray.size - n) (fun listed a' w' hS' hL => by
    have := wpAny_of_seq (md := .any) (Q' := Q) (l.drop n) n listed a' w' (fun j => by simp [List.getElem?_drop]) (by rw [hdl]; exact hL.1) (hL.2 w' hS')
    rwa [hdl] at this) _ _ _ w.drew hS H
  rw [htl, show n + (l.toArray.size - n) = l.toArray.size by omega] at this
  exact this
/-- One operation of the head. -/
theorem wpHead_cons {Q : Act → Prop} {a : Act} {o : Oper} {rest : List Oper} (hg : o.guard = none) (v : Value) (hv : ∀ w, S w → Gives P S v ((execOp a.eval o).run P w)) (h : wpHead P ops S Q rest (a.put o.dst v)) : wpHead P ops S Q (o :: rest) a :=
  ⟨v, .inl ⟨by simp [Region.wanted, hg], hv⟩, h⟩
theorem wpHead_nil {Q : Act → Prop} {a : Act} (h : Q a) : wpHead P ops S Q [] a := h
theorem Gives_value (v u : Value) (w : World) : Gives P S v (.ok (.value u) w) = (u = v ∧ S w) := rfl
theorem Gives_enter (v : Value) (f : FuncId) (args : Array Value) (w : World) : Gives P S v (.ok (.enter f args) w) = Calls P f args w (fun e w'' => e = .returned v ∧ S w'') := rfl
attribute [go_sem] Gives_value Gives_enter
end
end Go

namespace Ot

/-- A digest: four words. -/
structure Dg where
  a : UInt32
  b : UInt32
  c : UInt32
  d : UInt32
  deriving DecidableEq

def one : Dg := ⟨0, 0, 0, 1⟩
def zeroD : Dg := ⟨0, 0, 0, 0⟩

/-- The eight hexadecimal digits of a word, the highest first. -/
def nib (w : Nat) : List Nat := [w / 268435456 % 16, w / 16777216 % 16, w / 1048576 % 16, w / 65536 % 16, w / 4096 % 16, w / 256 % 16, w / 16 % 16, w % 16]
def digs (m : Dg) : List Nat := nib m.a.toNat ++ nib m.b.toNat ++ nib m.c.toNat ++ nib m.d.toNat
def rest (l : List Nat) : Nat := (l.map (15 - ·)).sum
def steps (m : Dg) : List Nat := digs m ++ [rest (digs m) / 256 % 16, rest (digs m) / 16 % 16, rest (digs m) % 16]

theorem nib_length (w : Nat) : (nib w).length = 8 := rfl
theorem digs_length (m : Dg) : (digs m).length = 32 := rfl
theorem steps_length (m : Dg) : (steps m).length = 35 := rfl
theorem nib_le (w : Nat) : ∀ n ∈ nib w, n ≤ 15 := by
  intro n h
  simp only [nib, List.mem_cons, List.not_mem_nil, or_false] at h
  omega
theorem digs_le (m : Dg) : ∀ n ∈ digs m, n ≤ 15 := by
  intro n h
  simp only [digs, List.mem_append] at h
  rcases h with ((h | h) | h) | h <;> exact nib_le _ _ h
theorem steps_le (m : Dg) : ∀ n ∈ steps m, n ≤ 15 := by
  intro n h
  rw [steps, List.mem_append] at h
  rcases h with h | h
  · exact digs_le _ _ h
  · simp only [List.mem_cons, List.not_mem_nil, or_false] at h
    omega
theorem steps_at_le (m : Dg) (i : Nat) : (steps m).getD i 0 ≤ 15 := by
  by_cases h : i < (steps m).length
  · rw [List.getD_eq_getElem?_getD, List.getElem?_eq_getElem h]; exact steps_le m _ (List.getElem_mem h)
  · rw [List.getD_eq_getElem?_getD, List.getElem?_eq_none (by omega)]; exact Nat.zero_le _

theorem nib_inj {v w : Nat} (hv : v < 4294967296) (hw : w < 4294967296) (h : nib v = nib w) : v = w := by
  simp only [nib, List.cons.injEq, and_true] at h
  omega
theorem digs_inj {m n : Dg} (h : digs m = digs n) : m = n := by
  unfold digs at h
  obtain ⟨h, h4⟩ := List.append_inj h rfl
  obtain ⟨h, h3⟩ := List.append_inj h rfl
  obtain ⟨h1, h2⟩ := List.append_inj h rfl
  have e1 := nib_inj m.a.toNat_lt n.a.toNat_lt h1
  have e2 := nib_inj m.b.toNat_lt n.b.toNat_lt h2
  have e3 := nib_inj m.c.toNat_lt n.c.toNat_lt h3
  have e4 := nib_inj m.d.toNat_lt n.d.toNat_lt h4
  cases m; cases n
  simp only [UInt32.toNat_inj] at e1 e2 e3 e4
  simp [e1, e2, e3, e4]

theorem rest_le (l : List Nat) : rest l ≤ 15 * l.length := by
  induction l with
  | nil => simp [rest]
  | cons x l ih => simp only [rest, List.map_cons, List.sum_cons, List.length_cons] at *; omega

/-- Pointwise not less: the rests are the other way; and where these are alike, so are the lists. -/
theorem rest_mono : ∀ (k l : List Nat), k.length = l.length → (∀ n ∈ k, n ≤ 15) → (∀ i, l.getD i 0 ≤ k.getD i 0) → rest k ≤ rest l ∧ (rest k = rest l → k = l)
  | [], [], _, _, _ => ⟨Nat.le_refl _, fun _ => rfl⟩
  | [], _ :: _, h, _, _ => by simp at h
  | _ :: _, [], h, _, _ => by simp at h
  | x :: k, y :: l, h, hk, hi => by
    have ih := rest_mono k l (by simpa using h) (fun n hn => hk n (List.mem_cons_of_mem _ hn)) (fun i => by simpa using hi (i + 1))
    have h0 : y ≤ x := by simpa using hi 0
    have hx : x ≤ 15 := hk x List.mem_cons_self
    simp only [rest, List.map_cons, List.sum_cons] at *
    refine ⟨by omega, fun e => ?_⟩
    have : x = y := by omega
    rw [this, ih.2 (by omega)]

theorem getD_append_left' (k l : List Nat) (i : Nat) (h : i < k.length) : (k ++ l).getD i 0 = k.getD i 0 := by
  simp [List.getD_eq_getElem?_getD, List.getElem?_append_left h]
theorem getD_append_right' (k l : List Nat) (i : Nat) : (k ++ l).getD (k.length + i) 0 = l.getD i 0 := by
  simp [List.getD_eq_getElem?_getD, List.getElem?_append_right]

/-- THE HEART: of unlike messages one has a number less than the other's. -/
theorem unlike {m n : Dg} (h : m ≠ n) : ∃ i, i < 35 ∧ (steps m).getD i 0 < (steps n).getD i 0 := by
  refine Classical.byContradiction fun hno => h ?_
  have hall : ∀ i, i < 35 → (steps n).getD i 0 ≤ (steps m).getD i 0 := fun i hi => Nat.le_of_not_lt fun hl => hno ⟨i, hi, hl⟩
  have hd : ∀ i, (digs n).getD i 0 ≤ (digs m).getD i 0 := by
    intro i
    by_cases hi : i < 32
    · have := hall i (by omega)
      rwa [steps, steps, getD_append_left' _ _ _ (by rw [digs_length]; exact hi), getD_append_left' _ _ _ (by rw [digs_length]; exact hi)] at this
    · rw [List.getD_eq_getElem?_getD, List.getElem?_eq_none (by rw [digs_length]; omega)]; exact Nat.zero_le _
  obtain ⟨hle, heq⟩ := rest_mono (digs m) (digs n) rfl (digs_le m) hd
  have r1 := rest_le (digs m); have r2 := rest_le (digs n)
  rw [digs_length] at r1 r2
  have c0 := hall 32 (by omega); have c1 := hall 33 (by omega); have c2 := hall 34 (by omega)
  have s0 : ∀ q : Dg, (steps q).getD 32 0 = rest (digs q) / 256 % 16 := fun q => getD_append_right' (digs q) _ 0
  have s1 : ∀ q : Dg, (steps q).getD 33 0 = rest (digs q) / 16 % 16 := fun q => getD_append_right' (digs q) _ 1
  have s2 : ∀ q : Dg, (steps q).getD 34 0 = rest (digs q) % 16 := fun q => getD_append_right' (digs q) _ 2
  rw [s0, s0] at c0; rw [s1, s1] at c1; rw [s2, s2] at c2
  exact digs_inj (heq (by omega))

section
variable (pair : Dg → Dg → Dg)

def walk (x : Dg) : Nat → Dg
  | 0 => x
  | n + 1 => pair (walk x n) one
def beg (seed : Dg) (i : Nat) : Dg := pair seed ⟨UInt32.ofNat i, 0, 0, 0⟩
def endsTo (f : Nat → Dg) : Nat → Dg
  | 0 => ⟨35, 0, 0, 0⟩
  | n + 1 => pair (endsTo f n) (f n)
def ends (f : Nat → Dg) : Dg := endsTo pair f 35
def pub (seed : Dg) : Dg := ends pair fun i => walk pair (beg pair seed i) 15
def sign (seed msg : Dg) : List Dg := (List.range 35).map fun i => walk pair (beg pair seed i) ((steps msg).getD i 0)
def reachK (msg : Dg) (s : List Dg) : Dg := ends pair fun i => walk pair (s.getD i zeroD) (15 - (steps msg).getD i 0)

theorem walk_add (x : Dg) (m n : Nat) : walk pair (walk pair x m) n = walk pair x (m + n) := by
  induction n with
  | zero => rfl
  | succ n ih => simp only [walk, ih, Nat.add_eq]

theorem endsTo_congr {f g : Nat → Dg} (n : Nat) (h : ∀ i, i < n → f i = g i) : endsTo pair f n = endsTo pair g n := by
  induction n with
  | zero => rfl
  | succ n ih => simp only [endsTo]; rw [ih fun i hi => h i (by omega), h n (by omega)]

theorem sign_length (seed msg : Dg) : (sign pair seed msg).length = 35 := by simp [sign]
theorem sign_at (seed msg : Dg) (i : Nat) (h : i < 35) : (sign pair seed msg).getD i zeroD = walk pair (beg pair seed i) ((steps msg).getD i 0) := by
  simp [sign, List.getD_eq_getElem?_getD, List.getElem?_map, List.getElem?_range h]

theorem reach_sign (seed msg : Dg) : reachK pair msg (sign pair seed msg) = pub pair seed := by
  refine endsTo_congr pair 35 fun i hi => ?_
  rw [sign_at pair seed msg i hi, walk_add]
  have := steps_at_le msg i
  congr 1; omega

/-- The first chain at which the other one shows what lies ahead; from i on, n chains left. -/
def aheadFrom (a b : List Nat) (s t : List Dg) : Nat → Nat → Option Nat
  | _, 0 => none
  | i, n + 1 => if b.getD i 0 < a.getD i 0 ∧ walk pair (t.getD i zeroD) (a.getD i 0 - b.getD i 0) = s.getD i zeroD then some i else aheadFrom a b s t (i + 1) n
def ahead (msg : Dg) (s : List Dg) (other : Dg) (t : List Dg) : Option Nat := aheadFrom pair (steps msg) (steps other) s t 0 35

theorem aheadFrom_some {a b : List Nat} {s t : List Dg} : ∀ (n i j : Nat), aheadFrom pair a b s t i n = some j → i ≤ j ∧ j < i + n ∧ b.getD j 0 < a.getD j 0 ∧ walk pair (t.getD j zeroD) (a.getD j 0 - b.getD j 0) = s.getD j zeroD
  | 0, _, _, h => by simp [aheadFrom] at h
  | n + 1, i, j, h => by
    simp only [aheadFrom] at h
    split at h
    · rename_i hc
      obtain rfl : i = j := by simpa using h
      exact ⟨Nat.le_refl _, by omega, hc⟩
    · have := aheadFrom_some n (i + 1) j h
      exact ⟨by omega, by omega, this.2.2⟩
theorem aheadFrom_none {a b : List Nat} {s t : List Dg} : ∀ (n i : Nat), aheadFrom pair a b s t i n = none → ∀ j, i ≤ j → j < i + n → ¬ (b.getD j 0 < a.getD j 0 ∧ walk pair (t.getD j zeroD) (a.getD j 0 - b.getD j 0) = s.getD j zeroD)
  | 0, i, _, j, h1, h2 => by omega
  | n + 1, i, h, j, h1, h2 => by
    simp only [aheadFrom] at h
    split at h
    · simp at h
    · rename_i hc
      by_cases e : i = j
      · subst e; exact hc
      · exact aheadFrom_none n (i + 1) h j (by omega) (by omega)

/-- Two signatures by one key of unlike messages: there is a chain that gives away. -/
theorem gives (seed : Dg) {msg other : Dg} (h : msg ≠ other) : ∃ i, ahead pair msg (sign pair seed msg) other (sign pair seed other) = some i ∧ i < 35 ∧ (steps other).getD i 0 < (steps msg).getD i 0 ∧
    walk pair ((sign pair seed other).getD i zeroD) ((steps msg).getD i 0 - (steps other).getD i 0) = (sign pair seed msg).getD i zeroD := by
  cases hr : ahead pair msg (sign pair seed msg) other (sign pair seed other) with
  | some i =>
    have := aheadFrom_some pair _ _ _ hr
    exact ⟨i, rfl, by omega, this.2.2⟩
  | none =>
    exfalso
    obtain ⟨i, hi, hl⟩ := unlike (Ne.symm h)
    refine aheadFrom_none pair _ _ hr i (Nat.zero_le _) (by omega) ⟨hl, ?_⟩
    rw [sign_at pair seed msg i hi, sign_at pair seed other i hi, walk_add]
    congr 1; omega
end
end Ot

namespace Go.Proofs.YtpodfmnnabepaaaDoor
open Go.RowKit
open Ot (Dg)
abbrev dgv (d : Dg) : Value := .agg #[.int .u32 d.a.toNat, .int .u32 d.b.toNat, .int .u32 d.c.toNat, .int .u32 d.d.toNat]
def fnOf (d : Dg) (j : Nat) : UInt32 := if j = 0 then d.a else if j = 1 then d.b else if j = 2 then d.c else d.d
def dgOf (f : Nat → UInt32) : Dg := ⟨f 0, f 1, f 2, f 3⟩
def join2 (x y : Dg) (j : Nat) : UInt32 := if j < 4 then fnOf x j else fnOf y (j - 4)
def pair0 (x y : Dg) : Dg := dgOf (absorb (st0 2) (join2 x y) 2)
theorem pair_ex : ∃ p : Dg → Dg → Dg, p = pair0 := ⟨pair0, rfl⟩
/-- The digest of a pair: 'pair0', closed, so that nothing opens it unasked. -/
noncomputable def pair : Dg → Dg → Dg := Classical.choose pair_ex
theorem pair_eq (x y : Dg) : pair x y = pair0 x y := congrFun (congrFun (Classical.choose_spec pair_ex) x) y
theorem Tryd.info22 : (Tryd.prog.info? 22).map (fun i => (i.zero, i.size, i.bytes)) = some (some (.int .u32 0), 1, 4) := by kernel_rfl
theorem below_of_grown {w w' : World} (h : w.grownBy w' none) : Below w.heap.size w w' := ⟨h.os, h.tape, h.output, h.size, fun k hk => h.block k hk (by simp)⟩
theorem own_words {w : World} {base n : Nat} {e : TypeId} {v : Value} {f : Nat → UInt32} (h : w.ownsRow base e 1 v n (ws f n)) (hn : 0 < n) :
    ∃ g cap, v = .slice (some ⟨g, 0, none⟩) n cap ∧ n ≤ cap ∧ cap ≤ 9223372036854775807 ∧ base ≤ g ∧ ∀ j, j < n → w.cell? ⟨g, j, none⟩ = some (.int .u32 (f j).toNat) := by
  have hc := h
  rcases h.2 with ⟨rfl, h0⟩ | ⟨g, cap, cur, rfl, hb, hh, h1, h2, _⟩
  · omega
  · refine ⟨g, cap, rfl, h1, by simpa [maxLen] using h2, hb, fun j hj => ?_⟩
    have := hc.cells (g := g) rfl j (.int .u32 (f j).toNat) (by simp [ws, hj])
    rwa [show (⟨g, 0, none⟩ : Addr).add j = ⟨g, j, none⟩ from by unfold Addr.add; split <;> simp_all] at this
theorem ws_cell {w : World} {b n : Nat} {f : Nat → UInt32} (h : Arr w b n f) : ∀ j u, (ws f n)[j]? = some u → w.cell? ((⟨b, 0, none⟩ : Addr).add j) = some u := by
  intro j u hu
  have hj : j < n := by
    have := (List.getElem?_eq_some_iff.1 hu).1
    simpa [ws] using this
  rw [show (⟨b, 0, none⟩ : Addr).add j = ⟨b, j, none⟩ from by unfold Addr.add; split <;> simp_all, (h j hj).1]
  simpa [ws, hj] using hu
theorem ws_one {n : Nat} {f : Nat → UInt32} : ∀ u ∈ ws f n, u.oneCell' = true := by
  intro u hu
  simp only [ws, List.mem_map] at hu
  obtain ⟨j, _, rfl⟩ := hu
  rfl
theorem ws_length (n : Nat) (f : Nat → UInt32) : (ws f n).length = n := by simp [ws]
set_option maxRecDepth 100000 in
set_option maxHeartbeats 400000 in
theorem pair_any (x y : Dg) (w : World) (ht : Tn w) :
    Calls Tryd.prog 63 #[dgv x, dgv y] w fun e w' => e = .returned (dgv (pair x y)) ∧ Below w.heap.size w w' := by
  obtain ⟨i0, hi, hz0, hz1, hz2⟩ := info_parts Tryd.info22
  go_enter Tryd.func63, Tryd.ntmps63
  go_wp2
  refine wp_region_head (fun w' => Arr w' w.heap.size 4 (fnOf x) ∧ Arr w' (w.heap.size + 1) 4 (fnOf y) ∧ Arr w' (w.heap.size + 1 + 1) 4 (fun _ => 0) ∧ Below w.heap.size w w' ∧ w.heap.size + 3 ≤ w'.heap.size) 2 (by kernel_rfl) (by kernel_rfl) ?_ ?_
  · refine ⟨?_, ?_, ?_, ((((Below.refl _ _).alloc (Nat.le_refl _) _).alloc (by simp <;> omega) _).alloc (by simp <;> omega) _).drew, by simp⟩
    · exact ((Arr.new w 4 (fnOf x) 24 _ rfl).alloc (by simp <;> omega) _).alloc (by simp <;> omega) _
    · exact (Arr.new' _ _ 4 (fnOf y) 24 _ (by simp) rfl).alloc (by simp <;> omega) _
    · exact Arr.new' _ _ 4 (fun _ => 0) 24 _ (by simp) rfl
  simp only [List.take_succ_cons, List.take_zero, List.drop_succ_cons, List.drop_zero]
  iterate 2 (refine wpHead_cons rfl ?_ (fun wx hx => ?_) ?_; rotate_left; (· go_simp; first | exact ⟨rfl, hx⟩ | exact rfl); go_frame)
  refine wpHead_nil ?_
  rintro wr ⟨hx, hy, hz, hb, hs⟩
  refine wpList_append_grows wr rfl (.tmp 5) (.tmp 6) 96 rfl 22 i0 (.int .u32 0) 1 4 Tryd.underlying96 hi hz0 hz1 hz2 rfl (by decide) (some ⟨w.heap.size, 0, none⟩) 4 4 (ws (fnOf x) 4) rfl (by simp) rfl (fun b hb' => by cases hb'; exact ws_cell hx)
    ⟨w.heap.size + 1, 0, none⟩ 4 4 (ws (fnOf y) 4) rfl rfl (ws_cell hy) ws_one (by decide) (by unfold maxLen; decide) (by decide) ?_
  intro v' w1 hown hg
  obtain ⟨g, cap, rfl, hc1, hc2, hgb, hcell⟩ := own_words (f := join2 x y) (n := 8) hown (by decide)
  have hbg := below_of_grown hg
  have hb1 : Below w.heap.size w w1 := hb.trans (hbg.mono (by omega))
  have ht1 : Tn w1 := ht.below hb1
  have hz1 : Arr w1 (w.heap.size + 1 + 1) 4 (fun _ => 0) := hz.below hbg (by omega)
  have hs1 := hbg.size
  clear hown hg hi hbg
  go_frame
  go_wp2_with (go_at_call 75; refine (take_any 2 g cap (join2 x y) w1 ht1 hcell hc1 hc2).mono ?_; rintro e w2 ⟨rfl, hb2⟩; have hz2 := hz1.below hb2 (hz1.lt (by decide)); have hd := fun j h => hz2.cell j h; have hf := fun j h => hz2.free j h)
  generalize he : absorb (st0 2) (join2 x y) 2 = f at *
  have He := Lib.hid he; clear he
  refine bodyPost_ret (v := st4 f) (by simp [results, Tryd.results63, go_sem, hd]) rfl ⟨?_, ?_⟩
  · rw [pair_eq]; unfold pair0; rw [He.out]; rfl
  · exact (hb1.trans (hb2.mono (by omega))).fill4 (by omega) _ _ _ _
/-- Doubled so often, what falls out put in below. -/
def dbl (x : Nat) : Nat → Nat
  | 0 => x
  | k + 1 => 2 * dbl x k % 4294967296 + dbl x k / 2147483648
theorem dbl_eq (x : Nat) (hx : x < 4294967296) : ∀ k, k ≤ 32 → dbl x k = x * 2 ^ k % 4294967296 + x / 2 ^ (32 - k)
  | 0, _ => by
    have h1 : x / 2 ^ (32 - 0) = 0 := Nat.div_eq_of_lt (by simpa using hx)
    rw [h1]; simp only [dbl, Nat.pow_zero, Nat.mul_one, Nat.add_zero]; omega
  | k + 1, hk => by
    have ih := dbl_eq x hx k (by omega)
    obtain ⟨m, hm⟩ : ∃ m, 31 = k + m := ⟨31 - k, by omega⟩
    have hpq : 2 ^ k * 2 ^ m = 2147483648 := by rw [← Nat.pow_add, ← hm]
    have e1 : 32 - k = m + 1 := by omega
    have e2 : 32 - (k + 1) = m := by omega
    rw [e1] at ih
    simp only [dbl, ih, e2]
    have hq : 0 < 2 ^ m := Nat.two_pow_pos m
    have hp : 0 < 2 ^ k := Nat.two_pow_pos k
    generalize hP : 2 ^ k = p at *
    generalize hQ : 2 ^ m = q at *
    have eP : 2 ^ (k + 1) = 2 * p := by rw [Nat.pow_succ, hP, Nat.mul_comm]
    have eQ : 2 ^ (m + 1) = 2 * q := by rw [Nat.pow_succ, hQ, Nat.mul_comm]
    rw [eP, eQ]
    -- x = (2 hi + b) q + lo
    have hx1 : x = (x / q) * q + x % q := by rw [Nat.mul_comm]; exact (Nat.div_add_mod x q).symm
    generalize hT : x / q = t at *
    generalize hL : x % q = lo at *
    have hlo : lo < q := by rw [← hL]; exact Nat.mod_lt _ hq
    have hhi : x / (2 * q) = t / 2 := by rw [Nat.mul_comm, ← Nat.div_div_eq_div_mul, hT]
    have hlp : lo * p + p ≤ 2147483648 := by
      have : (lo + 1) * p ≤ q * p := Nat.mul_le_mul_right _ hlo
      rw [Nat.add_mul, Nat.one_mul, Nat.mul_comm q p, hpq] at this; exact this
    have htp : t / 2 < p := by
      have h1 : t * q ≤ x := by omega
      have h2 : t < 2 * p := by
        refine Nat.lt_of_mul_lt_mul_right (a := q) ?_
        rw [Nat.mul_assoc, hpq]; omega
      omega
    have eqp : q * p = 2147483648 := by rw [Nat.mul_comm]; exact hpq
    have f1 : x * p = t * 2147483648 + lo * p := by
      conv => lhs; rw [hx1]
      rw [Nat.add_mul, Nat.mul_assoc, eqp]
    have f2 : x * (2 * p) = t * 4294967296 + 2 * (lo * p) := by
      rw [Nat.mul_left_comm, f1]; omega
    rw [f1, f2, hhi]
    clear ih f1 f2 hx1 e1 e2 eP eQ hT hL hhi
    generalize lo * p = z at *
    obtain ⟨h, c, rfl, hc⟩ : ∃ h c, t = 2 * h + c ∧ c < 2 := ⟨t / 2, t % 2, by omega, by omega⟩
    have g0 : (2 * h + c) / 2 = h := by omega
    rw [g0] at *
    have g1 : ((2 * h + c) * 2147483648 + z) % 4294967296 = c * 2147483648 + z := by
      rw [show (2 * h + c) * 2147483648 + z = (c * 2147483648 + z) + 4294967296 * h from by omega, Nat.add_mul_mod_self_left, Nat.mod_eq_of_lt (by omega)]
    have g2 : ((2 * h + c) * 4294967296 + 2 * z) % 4294967296 = 2 * z := by
      rw [show (2 * h + c) * 4294967296 + 2 * z = 2 * z + 4294967296 * (2 * h + c) from by omega, Nat.add_mul_mod_self_left, Nat.mod_eq_of_lt (by omega)]
    rw [g1, g2]
    have g4 : (c * 2147483648 + z + h) / 2147483648 = c := by
      rw [show c * 2147483648 + z + h = (z + h) + 2147483648 * c from by omega, Nat.add_mul_div_left _ _ (by decide), Nat.div_eq_of_lt (by omega), Nat.zero_add]
    have g5 : 2 * (c * 2147483648 + z + h) % 4294967296 = 2 * (z + h) := by
      rw [show 2 * (c * 2147483648 + z + h) = 2 * (z + h) + 4294967296 * c from by omega, Nat.add_mul_mod_self_left, Nat.mod_eq_of_lt (by omega)]
    rw [g4, g5]
    omega
theorem rot_dbl (x : UInt32) (k : Nat) (hk : k < 32) : (rot x k).toNat = dbl x.toNat k := by
  rw [dbl_eq _ x.toNat_lt k (by omega)]
  have h := rot_eq x k hk
  unfold rot at *
  rw [UInt32.toNat_ofNat'] at *
  refine Nat.mod_eq_of_lt ?_
  have hx := x.toNat_lt
  have hp : 2 ^ (32 - k) * 2 ^ k = 4294967296 := by rw [← Nat.pow_add, Nat.sub_add_cancel (by omega)]
  have hl : x.toNat / 2 ^ (32 - k) < 2 ^ k := by
    rw [Nat.div_lt_iff_lt_mul (Nat.two_pow_pos _), Nat.mul_comm, hp]; exact hx
  have e1 : x.toNat * 2 ^ k % 4294967296 = (x.toNat % 2 ^ (32 - k)) * 2 ^ k := by
    rw [← hp, Nat.mul_comm (2 ^ (32 - k)), Nat.mul_comm x.toNat, Nat.mul_mod_mul_left, Nat.mul_comm]
  rw [e1]
  have h3 : x.toNat % 2 ^ (32 - k) < 2 ^ (32 - k) := Nat.mod_lt _ (Nat.two_pow_pos _)
  have h4 : (x.toNat % 2 ^ (32 - k) + 1) * 2 ^ k ≤ 2 ^ (32 - k) * 2 ^ k := Nat.mul_le_mul_right _ h3
  rw [hp, Nat.add_mul, Nat.one_mul] at h4
  omega
theorem dbl_lt (x : Nat) (hx : x < 4294967296) : ∀ k, dbl x k < 4294967296
  | 0 => hx
  | k + 1 => by have := dbl_lt x hx k; simp only [dbl]; omega
/-- The reference's turn. -/
theorem rturn_any (x : UInt32) (n : Nat) (hn : n < 32) (w : World) :
    Calls Tryd.prog 86 #[.int .u32 x.toNat, .int .i64 n] w fun e w' => e = .returned (.int .u32 (rot x n).toNat) ∧ w = w' := by
  have hm : (n : Int) % 32 = n := by omega
  have hr := Lib.hid (rot_dbl x n hn)
  have hx := x.toNat_lt
  go_enter Tryd.func86, Tryd.ntmps86
  go_wp2
  go_loop [6, 7] (fun v i => ∃ k : Nat, k ≤ n ∧ i = .int .i64 k ∧ v = .int .u64 (dbl x.toNat k)) (fun _ i => n - (intOf i).toNat)
  case atStart => exact ⟨0, Nat.zero_le _, rfl, rfl⟩
  case round =>
    obtain ⟨k, hk, rfl, rfl⟩ := hrel
    have hd := dbl_lt x.toNat hx k
    by_cases hlt : k < n
    · have e : ((dbl x.toNat (k + 1) : Nat) : Int) = 2 * (dbl x.toNat k : Int) % 4294967296 + (dbl x.toNat k : Int) / 2147483648 := by simp only [dbl]; omega
      have E := Lib.hid e; clear e
      go_wp2
      go_round
      case rel => exact ⟨k + 1, by omega, by go_num, by rw [E.out]⟩
      case measure => simp [intOf]; omega
    · obtain rfl : k = n := by omega
      go_wp2
      go_ret
      refine ⟨?_, rfl⟩
      rw [hr.out]
      simp
end Go.Proofs.YtpodfmnnabepaaaDoor

namespace Go.Proofs.YtpodfmnnabepaaaDoor
open Go.RowKit
open Ot (Dg)
theorem turns_any (w : World) : Calls Tryd.prog 85 #[] w fun e w' => e = .returned (.agg #[.int .i64 7, .int .i64 9, .int .i64 13, .int .i64 18]) ∧ Below w.heap.size w w' := by
  go_enter Tryd.func85, Tryd.ntmps85
  go_wp2
  exact bodyPost_ret (v := .agg #[.int .i64 7, .int .i64 9, .int .i64 13, .int .i64 18]) (by simp [results, Tryd.results85, go_sem]) rfl ⟨rfl, (Below.refl _ _).alloc (Nat.le_refl _) _⟩
/-- A block holds the table. -/
def Tab (w : World) (b : Nat) : Prop := ∀ j, j < 4 → w.cell? ⟨b, j, none⟩ = some (.int .i64 (tn j))
theorem Tab.below {w w' : World} {b B : Nat} (h : Tab w b) (hb : Below B w w') (hB : b < B) : Tab w' b := fun j hj => (hb.cell (p := ⟨b, j, none⟩) hB).trans (h j hj)
theorem Tab.set {w : World} {b : Nat} (h : Tab w b) (a : Addr) (v : Value) (hne : a.block ≠ b) : Tab (w.setCell a v) b := fun j hj => by
  rw [World.cell?_setCell_other _ _ _ _ (by intro e; exact hne (by rw [e]))]; exact h j hj
set_option maxRecDepth 100000 in
set_option maxHeartbeats 1000000 in
theorem rmix_any (f : Nat → UInt32) (w : World) :
    Calls Tryd.prog 76 #[st8 f] w fun e w' => e = .returned (st8 (mix f)) ∧ Below w.heap.size w w' := by
  go_enter Tryd.func76, Tryd.ntmps76
  go_wp2_with (go_at_call 85; refine (turns_any _).mono ?_; rintro e w1 ⟨rfl, hb1⟩)
  have ha0 : Arr w1 w.heap.size 8 f := ((Arr.new w 8 f 85 _ rfl).alloc (by simp) _).below hb1 (by simp <;> omega)
  have hz0 : Arr w1 (w.heap.size + 1) 8 (fun _ => 0) := (Arr.new' _ _ 8 (fun _ => 0) 85 _ (by simp) rfl).below hb1 (by simp)
  have hw0 : Below w.heap.size w w1 := (((Below.refl _ _).alloc (Nat.le_refl _) _).alloc (by simp) _).trans (hb1.mono (by simp <;> omega))
  have hs0 : w.heap.size + 2 ≤ w1.heap.size := by have := hb1.size; simp at this; omega
  clear hb1
  go_loopw [4] (fun i wr => ∃ k : Nat, k ≤ 8 ∧ i = .int .i64 k ∧ Arr wr w.heap.size 8 (mrounds f k) ∧ Arr wr (w.heap.size+1) 8 (fun _ => 0) ∧ Tab wr w1.heap.size ∧ Below w.heap.size w wr ∧ w1.heap.size + 1 ≤ wr.heap.size) (fun i wr => 8 - (intOf i).toNat)
  case atStart =>
    refine ⟨0, by omega, rfl, ha0.alloc (by omega) _, hz0.alloc (by omega) _, ?_, hw0.alloc (by omega) _, by simp⟩
    intro j hj
    rw [World.cell?_alloc_new]
    obtain rfl | rfl | rfl | rfl : j = 0 ∨ j = 1 ∨ j = 2 ∨ j = 3 := by omega
    all_goals rfl
  case round =>
    obtain ⟨k, hk, rfl, ha, hz, htb, hb, hs⟩ := hrel
    clear ha0 hz0 hw0
    generalize hg : mrounds f k = g at *
    have Hg := Lib.hid hg; clear hg
    by_cases hlt : k < 8
    · have hd : decide ((k : Int) < 8) = true := by simp; omega
      have hgo := gold_eq k
      have had := addW_eq (g 0) (gold k)
      have c0 := ha.cell 0 (by omega)
      have f0 := ha.free 0 (by omega)
      go_wp2
      simp only [hgo, had]
      clear hgo had
      go_loopw [5] (fun i wr' => ∃ j : Nat, j ≤ 4 ∧ i = .int .i64 j ∧ Arr wr' w.heap.size 8 (minner (upd g 0 (addW (g 0) (gold k))) j) ∧ Arr wr' (w.heap.size+1) 8 (fun _ => 0) ∧ Tab wr' w1.heap.size ∧ Below w.heap.size w wr' ∧ w1.heap.size + 1 ≤ wr'.heap.size) (fun i wr => 4 - (intOf i).toNat)
      case atStart =>
        refine ⟨0, by omega, rfl, ?_, ?_, ?_, ?_, ?_⟩
        · have := ha.set 0 (by omega) (addW (g 0) (gold k)); exact this
        · exact hz.set_other _ _ (by simp)
        · exact htb.set _ _ (by simp <;> omega)
        · exact hb.setCell (by simp) _
        · simpa using hs
      case round =>
        obtain ⟨j, hj, rfl, ha', hz', htb', hb', hs'⟩ := hrel
        clear ha c0 f0 hz htb
        generalize hg' : minner (upd g 0 (addW (g 0) (gold k))) j = g' at *
        have Hg' := Lib.hid hg'; clear hg'
        by_cases hlt4 : j < 4
        · have ct := htb' j hlt4
          have c0 := ha'.cell j (by omega)
          have c1 := ha'.cell (j+4) (by omega)
          have f0 := ha'.free j (by omega)
          have f1 := ha'.free (j+4) (by omega)
          have e1 := addW_eq (g' j) (g' (j+4))
          have e2 := xorW_eq (g' (j+4)) (addW (g' j) (g' (j+4)))
          have s5 : (j : Int) < 8 := by omega
          have hne : w1.heap.size ≠ w.heap.size := by omega
          go_wp2
          go_region
          go_wp2
          have s1 : IntKind.i64.wrap ((j : Int) + 4) = (j : Int) + 4 := IntWalk.i64_in _ (by omega)
          have s2 : (0 : Int) ≤ (j : Int) + 4 := by omega
          have s3 : ((j : Int) + 4).toNat = j + 4 := by omega
          have s4 : (j : Int) + 4 < 8 := by omega
          refine still_tail_drew 14 (by kernel_rfl) (by kernel_rfl) ?_
          simp only [List.take_succ_cons, List.take_zero, List.drop_succ_cons, List.drop_zero]
          iterate 13 still_step
          still_call ((rturn_any (xorW (g' (j+4)) (addW (g' j) (g' (j+4)))) (tn j) (tn_lt j) _).mono fun _ _ h => ⟨h.1, h.2.symm⟩)
          refine wpStill_nil ?_
          go_wp2
          go_roundw
          case rel =>
            refine ⟨j + 1, by omega, by go_num, ?_, ?_, ?_, ?_, ?_⟩
            · have h1 := ((ha'.set j (by omega) (addW (g' j) (g' (j+4)))).set (j+4) (by omega) (rot (xorW (g' (j+4)) (addW (g' j) (g' (j+4)))) (tn j))).drew.drew
              have e : minner (upd g 0 (addW (g 0) (gold k))) (j + 1) = upd (upd g' j (addW (g' j) (g' (j+4)))) (j+4) (rot (xorW (g' (j+4)) (addW (g' j) (g' (j+4)))) (tn j)) := by
                rw [← Hg'.out]; rfl
              rw [e]; exact h1
            · exact ((hz'.set_other _ _ (by simp)).set_other _ _ (by simp)).drew.drew
            · exact (htb'.set _ _ (by simp; omega)).set _ _ (by simp; omega)
            · exact ((hb'.setCell (by simp) _).setCell (by simp) _).drew.drew
            · simpa using hs'
          case measure => simp [intOf]; omega
        · obtain rfl : j = 4 := by omega
          go_wp2
          obtain ⟨wq, rfl⟩ : ∃ wq : World, wq = wr := ⟨_, rfl⟩
          go_loopw [7] (fun i wr' => ∃ j : Nat, j ≤ 8 ∧ i = .int .i64 j ∧ Arr wr' wq.heap.size 8 (fun i => if i < j then g' ((i+3)%8) else 0) ∧ Arr wr' w.heap.size 8 g' ∧ Arr wr' (w.heap.size+1) 8 (fun _ => 0) ∧ Tab wr' w1.heap.size ∧ Below w.heap.size w wr' ∧ wq.heap.size + 1 ≤ wr'.heap.size) (fun i wr => 8 - (intOf i).toNat)
          case atStart =>
            refine ⟨0, by omega, rfl, ?_, ?_, ?_, ?_, ?_, ?_⟩
            · exact (Arr.new wq 8 (fun _ => 0) 85 _ rfl).congr (fun j _ => by simp only [Nat.not_lt_zero, if_false])
            · exact ha'.alloc (by omega) _
            · exact hz'.alloc (by omega) _
            · exact htb'.below ((Below.refl _ _).alloc (Nat.le_refl _) _) (by omega)
            · exact hb'.alloc (by omega) _
            · simp
          case round =>
            obtain ⟨j, hj8, rfl, h1, h2, h3, ht4, h4, h5⟩ := hrel
            clear ha' hz' hb' htb'
            by_cases hlt8 : j < 8
            · have c0 := h2.cell ((j+3)%8) (by omega)
              have f0 := h1.free j (by omega)
              have c1 := h1.cell j (by omega)
              rw [if_neg (Nat.lt_irrefl _)] at c1
              have hne : wq.heap.size ≠ w.heap.size := by omega
              go_wp2
              go_roundw
              case rel =>
                refine ⟨j + 1, by omega, by go_num, ?_, ?_, ?_, ?_, ?_, ?_⟩
                · refine (h1.set j (by omega) (g' ((j+3)%8))).congr (fun i _ => ?_)
                  unfold upd
                  by_cases e : i = j
                  · subst e; rw [if_pos rfl, if_pos (by omega)]
                  · rw [if_neg e]
                    show (if i < j then g' ((i + 3) % 8) else 0) = _
                    by_cases e' : i < j
                    · rw [if_pos e', if_pos (by omega)]
                    · rw [if_neg e', if_neg (by omega)]
                · exact (h2.set_other _ _ (by simp; omega))
                · exact (h3.set_other _ _ (by simp; omega))
                · exact ht4.set _ _ (by simp; omega)
                · exact h4.setCell (by simp; omega) _
                · simpa using h5
              case measure => simp [intOf]; omega
            · obtain rfl : j = 8 := by omega
              have h1' : Arr wr wq.heap.size 8 (mturn g') := h1.congr (fun i hi => by rw [if_pos hi]; rfl)
              generalize hm : mturn g' = g2 at *
              have Hm := Lib.hid hm; clear hm
              have hc := fun j h => h1'.cell j h
              have hd := fun j h => h2.cell j h
              have hf := fun j h => h2.free j h
              have hne : wq.heap.size ≠ w.heap.size := by omega
              go_wp2
              go_roundw
              case rel =>
                refine ⟨k + 1, by omega, by go_num, ?_, ?_, ?_, ?_, ?_⟩
                · have e : mrounds f (k + 1) = g2 := by
                    show mturn (minner (upd (mrounds f k) 0 (addW (mrounds f k 0) (gold k))) 4) = _
                    rw [Hg.out, Hg'.out, Hm.out]
                  rw [e]; exact h2.fill8 g2
                · exact (((((((h3.set_other _ _ (by simp)).set_other _ _ (by simp)).set_other _ _ (by simp)).set_other _ _ (by simp)).set_other _ _ (by simp)).set_other _ _ (by simp)).set_other _ _ (by simp)).set_other _ _ (by simp)
                · exact (((((((ht4.set _ _ (by simp; omega)).set _ _ (by simp; omega)).set _ _ (by simp; omega)).set _ _ (by simp; omega)).set _ _ (by simp; omega)).set _ _ (by simp; omega)).set _ _ (by simp; omega)).set _ _ (by simp; omega)
                · exact h4.fill8 (Nat.le_refl _) _ _ _ _ _ _ _ _
                · simp; omega
              case measure => simp [intOf]; omega
    · obtain rfl : k = 8 := by omega
      have hc := fun j h => ha.cell j h
      have hd := fun j h => hz.cell j h
      have hf := fun j h => hz.free j h
      go_wp2
      refine bodyPost_ret (v := st8 g) (by simp [results, Tryd.results76, go_sem, hd]) rfl ⟨by rw [← Hg.out]; rfl, ?_⟩
      exact hb.fill8 (by omega) _ _ _ _ _ _ _ _
end Go.Proofs.YtpodfmnnabepaaaDoor

namespace Go
section
variable {P : Program} {ops : Array Oper} {S : (Nat → Option Nat) → World → Prop}

/-- Which block each laying operation has laid. -/
def laidAt (T : Nat → Option Nat) (q B : Nat) : Nat → Option Nat := fun j => if j = q then some B else T j
theorem laidAt_comm (T : Nat → Option Nat) {p q : Nat} (h : p ≠ q) (A B : Nat) : laidAt (laidAt T p A) q B = laidAt (laidAt T q B) p A := by
  funext j
  unfold laidAt
  by_cases h1 : j = q
  · by_cases h2 : j = p
    · exact absurd (h2.symm.trans h1) h
    · simp [h1, Ne.symm h]
  · simp [h1]

def YieldsT (P : Program) (ops : Array Oper) (S : (Nat → Option Nat) → World → Prop) (o : Oper) (v : Value) (a : Act) : Prop := ∀ T, YieldsS P ops (S T) o v a

/-- Operation q lays a block. -/
def Lays (P : Program) (ops : Array Oper) (S : (Nat → Option Nat) → World → Prop) (q : Nat) : Prop :=
  ∃ o d, ops[q]? = some o ∧ o.guard = none ∧ o.dst = some d ∧ ∀ (ρ : Operand → Value) T w, S T w → ∃ w', (execOp ρ o).run P w = .ok (.value (.pointer (some ⟨w.heap.size, 0, none⟩))) w' ∧ S (laidAt T q w.heap.size) w'

def dstOf (ops : Array Oper) (q : Nat) : Option Tmp := (ops[q]?).bind (·.dst)
def ptrTo (B : Nat) : Value := .pointer (some ⟨B, 0, none⟩)

def AnyT (P : Program) (md : Region.Mode) (ops : Array Oper) (S : (Nat → Option Nat) → World → Prop) (qs : List Nat) (n : Nat) (L : Array Bool → (Nat → Option Nat) → Act → Prop) : Nat → Array Bool → (Nat → Option Nat) → Act → Prop
  | 0, listed, T, a => L listed T a
  | f + 1, listed, T, a =>
    Region.ready md ops listed ≠ [] ∧ ∀ i ∈ Region.ready md ops listed, i < n ∧
      ((i ∈ qs ∧ ∀ B, AnyT P md ops S qs n L f (listed.setIfInBounds i true) (laidAt T i B) (a.put (dstOf ops i) (ptrTo B))) ∨
       (i ∉ qs ∧ ∃ o v, ops[i]? = some o ∧ YieldsT P ops S o v a ∧ AnyT P md ops S qs n L f (listed.setIfInBounds i true) T (a.put o.dst v)))

variable {md : Region.Mode} {qs : List Nat}

theorem Lays.wpOp {Q : Exit → Act → World → Prop} {q : Nat} {a : Act} {T : Nat → Option Nat} {w : World} (h : Lays P ops S q) (hS : S T w) {K : Act → World → Prop} (hK : ∀ B w', S (laidAt T q B) w' → K (a.put (dstOf ops q) (ptrTo B)) w') : wpOp P ops Q q K a w := by
  obtain ⟨o, d, ho, hg, hd, hr⟩ := h
  obtain ⟨w', hrun, hS'⟩ := hr a.eval T w hS
  have := hK _ _ hS'
  unfold Go.wpOp
  simp only [ho]
  rw [if_pos (by simp [Region.wanted, hg])]
  refine .inl ?_
  unfold Oper.wp
  rw [hrun, Oper.upon_value]
  simpa [dstOf, ho, ptrTo] using this

theorem wpAny_of_anyT (hQ : ∀ q ∈ qs, Lays P ops S q) {n g : Nat} {L : Array Bool → (Nat → Option Nat) → Act → Prop} {Q : Exit → Act → World → Prop} (hL : ∀ listed T a w, S T w → L listed T a → wpAny P md ops Q g listed a w) :
    ∀ (f : Nat) (listed : Array Bool) (T : Nat → Option Nat) (a : Act) (w : World), S T w → AnyT P md ops S qs n L f listed T a → wpAny P md ops Q (f + g) listed a w
  | 0, listed, T, a, w, hS, h => by rw [Nat.zero_add]; exact hL _ _ _ _ hS h
  | f + 1, listed, T, a, w, hS, h => by
    rw [show f + 1 + g = (f + g) + 1 by omega]
    refine ⟨fun h0 => absurd h0 h.1, fun i hi => ?_⟩
    obtain ⟨_, ⟨hq, hn⟩ | ⟨_, o, v, ho, hy, hn⟩⟩ := h.2 i hi
    · exact (hQ i hq).wpOp hS fun B w' hS' => wpAny_of_anyT hQ hL f _ _ _ w' hS' (hn B)
    · exact (hy T).wpOp ho hS fun w' hS' => wpAny_of_anyT hQ hL f _ _ _ w' hS' hn

/-- A fixed operation may be taken first. -/
theorem anyT_first {n i : Nat} {oi : Oper} {v : Value} {L : Array Bool → (Nat → Option Nat) → Act → Prop} (hi : ops[i]? = some oi) (hiq : i ∉ qs) (hsel : ∀ (j : Nat) (o : Oper) cs b, ops[j]? = some o → o.op ≠ .select cs b)
    (hs : Region.sinkB md ops n = true) (hc : Region.chainB md ops n = true) (hn : n < ops.size) (hin : i < n)
    (hdone : ∀ listed T a, L listed T a → ∀ j ∈ Region.ready md ops listed, n ≤ j) :
    ∀ (f : Nat) (listed : Array Bool) (T : Nat → Option Nat) (a : Act), HeadInv md ops n listed →
      (∀ j oj, ops[j]? = some oj → j ≠ i → listed.getD j true = false → (∀ e ∈ oj.after, Region.binds md e = true → e.on ≠ i) → oi.apart ops oj = true) →
      i ∈ Region.ready md ops listed → YieldsT P ops S oi v a →
      AnyT P md ops S qs n L f (listed.setIfInBounds i true) T (a.put oi.dst v) → AnyT P md ops S qs n L (f + 1) listed T a := by
  intro f
  induction f with
  | zero =>
    intro listed T a inv _ hr hy H
    have hun := (mem_ready.1 hr).1
    refine ⟨fun h => (by rw [h] at hr; cases hr), fun j hj => ?_⟩
    have hjn : j < n := Nat.lt_of_not_le fun h => tail_waits hs hc hn inv _ i rfl hin hun j h hj
    by_cases hji : j = i
    · subst hji; exact ⟨hjn, .inr ⟨hiq, oi, v, hi, hy, H⟩⟩
    · have := hdone _ _ _ H j (ready_mono hj hji)
      omega
  | succ f ih =>
    intro listed T a inv hfree hr hy H
    have hun := (mem_ready.1 hr).1
    refine ⟨fun h => (by rw [h] at hr; cases hr), fun j hj => ?_⟩
    have hjn : j < n := Nat.lt_of_not_le fun h => tail_waits hs hc hn inv _ i rfl hin hun j h hj
    by_cases hji : j = i
    · subst hji; exact ⟨hjn, .inr ⟨hiq, oi, v, hi, hy, H⟩⟩
    · obtain ⟨hjun, oj, hoj, hall⟩ := mem_ready.1 hj
      have hnot : ∀ e ∈ oj.after, Region.binds md e = true → e.on ≠ i := fun e he hb heq => by
        have h1 := hall e he hb
        rw [heq, getD_both hun] at h1
        cases h1
      obtain ⟨h1, h2, h3⟩ := Oper.apart_spec (hfree j oj hoj hji hjun hnot)
      have hfree' : ∀ k ok, ops[k]? = some ok → k ≠ i → (listed.setIfInBounds j true).getD k true = false →
          (∀ e ∈ ok.after, Region.binds md e = true → e.on ≠ i) → oi.apart ops ok = true := fun k ok hk hki hun' hno => by
        refine hfree k ok hk hki ?_ hno
        by_cases hjk : j = k
        · subst hjk; exact hjun
        · rw [getD_set_ne true hjk] at hun'; exact hun'
      have hkeep : ∀ u, YieldsT P ops S oi v (a.put oj.dst u) := fun u T' => (hy T').keep (fun cs b => hsel i oi cs b hi) h3 u
      obtain ⟨_, ⟨hjq, hrest⟩ | ⟨hjq, oj', u, hoj', hyj, hrest⟩⟩ := H.2 j (ready_mono hj hji)
      · refine ⟨hjn, .inl ⟨hjq, fun B => ?_⟩⟩
        have hdj : dstOf ops j = oj.dst := by simp [dstOf, hoj]
        rw [hdj]
        refine ih (listed.setIfInBounds j true) _ (a.put oj.dst (ptrTo B)) (inv.set hj hjn) hfree' (ready_mono hr (Ne.symm hji)) (hkeep _) ?_
        rw [Array.setIfInBounds_comm _ _ hji, ← Act.put_comm a v (ptrTo B) h2, ← hdj]
        exact hrest B
      · obtain rfl : oj = oj' := Option.some.inj (hoj.symm.trans hoj')
        refine ⟨hjn, .inr ⟨hjq, oj, u, hoj, fun T' => (hyj T').back (fun cs b => hsel j oj cs b hoj) h1, ?_⟩⟩
        refine ih (listed.setIfInBounds j true) T (a.put oj.dst u) (inv.set hj hjn) hfree' (ready_mono hr (Ne.symm hji)) (hkeep u) ?_
        rw [Array.setIfInBounds_comm _ _ hji, ← Act.put_comm a v u h2]
        exact hrest

/-- A laying operation may be taken first where laying operations alone are left. -/
theorem anyT_lay {n i : Nat} {oi : Oper} {L : Array Bool → (Nat → Option Nat) → Act → Prop} (hi : ops[i]? = some oi) (hiq : i ∈ qs)
    (hs : Region.sinkB md ops n = true) (hc : Region.chainB md ops n = true) (hn : n < ops.size) (hin : i < n)
    (hdone : ∀ listed T a, L listed T a → ∀ j ∈ Region.ready md ops listed, n ≤ j) :
    ∀ (f : Nat) (listed : Array Bool) (T : Nat → Option Nat) (a : Act), HeadInv md ops n listed →
      (∀ j, j < n → listed.getD j true = false → j ∈ qs) →
      (∀ j oj, ops[j]? = some oj → j ≠ i → listed.getD j true = false → (∀ e ∈ oj.after, Region.binds md e = true → e.on ≠ i) → oi.apart ops oj = true) →
      i ∈ Region.ready md ops listed →
      (∀ B, AnyT P md ops S qs n L f (listed.setIfInBounds i true) (laidAt T i B) (a.put (dstOf ops i) (ptrTo B))) → AnyT P md ops S qs n L (f + 1) listed T a := by
  intro f
  induction f with
  | zero =>
    intro listed T a inv _ _ hr H
    have hun := (mem_ready.1 hr).1
    refine ⟨fun h => (by rw [h] at hr; cases hr), fun j hj => ?_⟩
    have hjn : j < n := Nat.lt_of_not_le fun h => tail_waits hs hc hn inv _ i rfl hin hun j h hj
    by_cases hji : j = i
    · subst hji; exact ⟨hjn, .inl ⟨hiq, H⟩⟩
    · have := hdone _ _ _ (H 0) j (ready_mono hj hji)
      omega
  | succ f ih =>
    intro listed T a inv hrest hfree hr H
    have hun := (mem_ready.1 hr).1
    refine ⟨fun h => (by rw [h] at hr; cases hr), fun j hj => ?_⟩
    have hjn : j < n := Nat.lt_of_not_le fun h => tail_waits hs hc hn inv _ i rfl hin hun j h hj
    by_cases hji : j = i
    · subst hji; exact ⟨hjn, .inl ⟨hiq, H⟩⟩
    · obtain ⟨hjun, oj, hoj, hall⟩ := mem_ready.1 hj
      have hjq := hrest j hjn hjun
      have hnot : ∀ e ∈ oj.after, Region.binds md e = true → e.on ≠ i := fun e he hb heq => by
        have h1 := hall e he hb
        rw [heq, getD_both hun] at h1
        cases h1
      obtain ⟨h1, h2, h3⟩ := Oper.apart_spec (hfree j oj hoj hji hjun hnot)
      have hset : ∀ k, (listed.setIfInBounds j true).getD k true = false → listed.getD k true = false := fun k hk => by
        by_cases hjk : j = k
        · subst hjk; exact hjun
        · rw [getD_set_ne true hjk] at hk; exact hk
      refine ⟨hjn, .inl ⟨hjq, fun A => ?_⟩⟩
      refine ih (listed.setIfInBounds j true) _ _ (inv.set hj hjn) (fun k hk hu => hrest k hk (hset k hu)) (fun k ok hk hki hu hno => hfree k ok hk hki (hset k hu) hno) (ready_mono hr (Ne.symm hji)) (fun B => ?_)
      obtain ⟨_, ⟨_, hr2⟩ | ⟨hjq', _⟩⟩ := (H B).2 j (ready_mono hj hji)
      · have hdi : dstOf ops i = oi.dst := by simp [dstOf, hi]
        have hdj : dstOf ops j = oj.dst := by simp [dstOf, hoj]
        have := hr2 A
        rw [Array.setIfInBounds_comm _ _ (Ne.symm hji), laidAt_comm T (Ne.symm hji), hdi, hdj, Act.put_comm a (ptrTo B) (ptrTo A) h2] at this
        rw [hdi, hdj]
        exact this
      · exact absurd hjq hjq'

/-- The fixed operations in the order that is named, each value once. -/
def wpHeadT (P : Program) (ops : Array Oper) (S : (Nat → Option Nat) → World → Prop) (Q : Act → Prop) : List Oper → Act → Prop
  | [], a => Q a
  | o :: rest, a => ∃ v, YieldsT P ops S o v a ∧ wpHeadT P ops S Q rest (a.put o.dst v)
/-- Then the laid blocks. -/
def wpLays (ops : Array Oper) (Q : (Nat → Option Nat) → Act → Prop) : List Nat → (Nat → Option Nat) → Act → Prop
  | [], T, a => Q T a
  | q :: qs, T, a => ∀ B, wpLays ops Q qs (laidAt T q B) (a.put (dstOf ops q) (ptrTo B))

def Region.along (md : Region.Mode) (ops : Array Oper) (g n : Nat) : List Nat → Array Bool → Bool
  | [], listed => Region.seqB md ops g n listed
  | k :: ks, listed => decide (k < n) && (Region.ready md ops listed).contains k && Region.free md ops listed k && Region.along md ops g n ks (listed.setIfInBounds k true)
def Region.headB (md : Region.Mode) (ops : Array Oper) (n : Nat) (ks qs : List Nat) : Bool :=
  Region.noSelect ops && decide (n < ops.size) && Region.sinkB md ops n && Region.chainB md ops n && decide (ks.length + qs.length = n) && ks.all (fun k => !qs.contains k) && qs.all (fun q => q < n) && (List.range n).all (fun i => ks.contains i || qs.contains i) &&
    Region.along md ops (ops.size - n) n (ks ++ qs) (Array.replicate ops.size false)

theorem anyT_lays {n g : Nat} {Lq : (Nat → Option Nat) → Act → Prop} (hs : Region.sinkB md ops n = true) (hc : Region.chainB md ops n = true) (hn : n < ops.size) :
    ∀ (rs : List Nat), (∀ r ∈ rs, r ∈ qs) → ∀ (listed : Array Bool) (T : Nat → Option Nat) (a : Act), HeadInv md ops n listed → (∀ j, j < n → listed.getD j true = false → j ∈ qs) →
    Region.along md ops g n rs listed = true → wpLays ops Lq rs T a →
    AnyT P md ops S qs n (fun listed' T' a' => Region.seqB md ops g n listed' = true ∧ Lq T' a') rs.length listed T a
  | [], _, _, _, _, _, _, hB, h => ⟨by simpa [Region.along] using hB, h⟩
  | r :: rs, hrs, listed, T, a, inv, hall, hB, h => by
    simp only [Region.along, Bool.and_eq_true, decide_eq_true_eq] at hB
    obtain ⟨⟨⟨hk, hr⟩, hf⟩, hB'⟩ := hB
    have hr' : r ∈ Region.ready md ops listed := by simpa using hr
    obtain ⟨hrun, o, ho, _⟩ := mem_ready.1 hr'
    refine anyT_lay ho (hrs r (by simp)) hs hc hn hk (fun listed' T' a' hL => seqB_ready hL.1) rs.length listed T a inv hall (Region.free_spec ho hf) hr' (fun B => ?_)
    refine anyT_lays hs hc hn rs (fun x hx => hrs x (by simp [hx])) _ _ _ (inv.set hr' hk) (fun j hj hu => hall j hj ?_) hB' (h B)
    by_cases hjk : r = j
    · subst hjk; exact hrun
    · rw [getD_set_ne true hjk] at hu; exact hu

theorem anyT_along {n g : Nat} {Lq : (Nat → Option Nat) → Act → Prop} (hsel : Region.noSelect ops = true) (hs : Region.sinkB md ops n = true) (hc : Region.chainB md ops n = true) (hn : n < ops.size) (T : Nat → Option Nat) :
    ∀ (ks : List Nat) (l : List Oper), (∀ k ∈ ks, k ∉ qs) → l.map some = ks.map (fun k => ops[k]?) → ∀ (listed : Array Bool) (a : Act), HeadInv md ops n listed → (∀ j, j < n → listed.getD j true = false → j ∈ ks ∨ j ∈ qs) →
    Region.along md ops g n (ks ++ qs) listed = true → wpHeadT P ops S (fun a' => wpLays ops Lq qs T a') l a →
    AnyT P md ops S qs n (fun listed' T' a' => Region.seqB md ops g n listed' = true ∧ Lq T' a') (ks.length + qs.length) listed T a
  | [], l, _, hl, listed, a, inv, hall, hB, h => by
    obtain rfl : l = [] := by simpa using hl
    simp only [List.length_nil, Nat.zero_add]
    exact anyT_lays hs hc hn qs (fun _ h => h) listed T a inv (fun j hj hu => by simpa using hall j hj hu) (by simpa using hB) h
  | k :: ks, [], _, hl, _, _, _, _, _, _ => by simp at hl
  | k :: ks, o :: l, hkq, hl, listed, a, inv, hall, hB, h => by
    simp only [List.map_cons, List.cons.injEq] at hl
    obtain ⟨h0, hl⟩ := hl
    simp only [List.cons_append, Region.along, Bool.and_eq_true, decide_eq_true_eq] at hB
    obtain ⟨⟨⟨hk, hr⟩, hf⟩, hB'⟩ := hB
    have hr' : k ∈ Region.ready md ops listed := by simpa using hr
    have hkun := (mem_ready.1 hr').1
    obtain ⟨v, hy, hK⟩ := h
    rw [show (k :: ks).length + qs.length = (ks.length + qs.length) + 1 by simp; omega]
    refine anyT_first h0.symm (hkq k (by simp)) (Region.noSelect_spec hsel) hs hc hn hk (fun listed' T' a' hL => seqB_ready hL.1) _ listed T a inv (Region.free_spec h0.symm hf) hr' hy ?_
    refine anyT_along hsel hs hc hn T ks l (fun x hx => hkq x (by simp [hx])) hl _ _ (inv.set hr' hk) (fun j hj hu => ?_) hB' hK
    by_cases hjk : k = j
    · subst hjk
      have hsz : k < listed.size := by rw [inv.size]; exact Nat.lt_trans hk hn
      simp [hsz] at hu
    · rw [getD_set_ne true hjk] at hu
      rcases hall j hj hu with h | h
      · rcases List.mem_cons.1 h with h | h
        · exact absurd h.symm hjk
        · exact .inl h
      · exact .inr h

/-- THE LAW: 'ks': the head's fixed operations in an order; 'qs': those that lay a block. -/
theorem wp_region_lays {id : Nat} {Q : Exit → Act → World → Prop} {a : Act} {w : World} {l : List Oper} (S : (Nat → Option Nat) → World → Prop) (n : Nat) (ks qs : List Nat) (h0 : List Oper) (hm : P.follows .mixedOrders = true) (hB : Region.headB .any l.toArray n ks qs = true)
    (hl : h0.map some = ks.map (fun k => l.toArray[k]?)) (hQ : ∀ q ∈ qs, Lays P l.toArray S q)
    (hS : S (fun _ => none) w.drew) (h : wpHeadT P l.toArray S (fun a' => wpLays l.toArray (fun T a'' => ∀ w', S T w' → wpList P l.toArray Q (l.drop n) a'' w') qs (fun _ => none) a') h0 a) : (Code.region id l.toArray true).wp P Q a w := by
  simp only [Region.headB, Bool.and_eq_true, decide_eq_true_eq] at hB
  obtain ⟨⟨⟨⟨⟨⟨⟨⟨hsel, hn⟩, hs⟩, hc⟩, hlen⟩, hkq⟩, hqn⟩, hcov⟩, hal⟩ := hB
  have hn' : n < l.length := by simpa using hn
  have hdl : (l.drop n).length = l.toArray.size - n := by simp
  have inv0 : HeadInv .any l.toArray n (Array.replicate l.toArray.size false) :=
    ⟨by simp, fun j oj _ hl => (by rw [getD_replicate_false] at hl; cases hl), fun t _ ht => getD_in (by simpa using ht) (getD_replicate_false _ _)⟩
  have H := anyT_along (md := .any) (g := l.toArray.size - n) hsel hs hc hn (fun _ => none) ks h0 (fun k hk => by
    have := List.all_eq_true.1 hkq k hk
    simpa using this) hl _ a inv0 (fun j hj _ => by
    have := List.all_eq_true.1 hcov j (List.mem_range.2 hj)
    simpa using this) hal h
  refine wp_region_any hm ?_
  have := wpAny_of_anyT hQ (Q := Q) (g := l.toArray.size - n) (fun listed T a' w' hS' hL => by
    have := wpAny_of_seq (md := .any) (Q' := Q) (l.drop n) n listed a' w' (fun j => by simp [List.getElem?_drop]) (by rw [hdl]; exact hL.1) (hL.2 w' hS')
    rwa [hdl] at this) _ _ _ _ w.drew hS H
  rw [hlen, show n + (l.toArray.size - n) = l.toArray.size by omega] at this
  exact this
theorem pick_all (l : List Oper) : ∀ (ks : List Nat), (∀ k ∈ ks, k < l.length) → (ks.filterMap fun k => l[k]?).map some = ks.map (fun k => l.toArray[k]?)
  | [], _ => rfl
  | k :: ks, h => by
    have hk : k < l.length := h k (by simp)
    have ih := pick_all l ks (fun x hx => h x (by simp [hx]))
    rw [List.filterMap_cons_some (List.getElem?_eq_getElem hk), List.map_cons, List.map_cons, ih]
    simp [hk]
/-- The same, the head's operations picked out of the text. -/
theorem wp_region_pick {id : Nat} {Q : Exit → Act → World → Prop} {a : Act} {w : World} {l : List Oper} (S : (Nat → Option Nat) → World → Prop) (n : Nat) (ks qs : List Nat) (hm : P.follows .mixedOrders = true) (hB : (Region.headB .any l.toArray n ks qs && ks.all (fun k => k < l.length)) = true)
    (hQ : ∀ q ∈ qs, Lays P l.toArray S q)
    (hS : S (fun _ => none) w.drew) (h : wpHeadT P l.toArray S (fun a' => wpLays l.toArray (fun T a'' => ∀ w', S T w' → wpList P l.toArray Q (l.drop n) a'' w') qs (fun _ => none) a') (ks.filterMap fun k => l[k]?) a) : (Code.region id l.toArray true).wp P Q a w := by
  simp only [Bool.and_eq_true] at hB
  exact wp_region_lays S n ks qs _ hm hB.1 (pick_all l ks (fun k hk => by have := List.all_eq_true.1 hB.2 k hk; simpa using this)) hQ hS h
theorem lays_alloc {q : Nat} {o : Oper} {d : Tmp} (e : TypeId) (obj : Obj) (ho : ops[q]? = some o) (hop : o.op = .alloc e) (hg : o.guard = none) (hd : o.dst = some d)
    (hrun : ∀ w, (Instr.alloc e true (.tuple #[])).run P w = .ok (.pointer (some ⟨w.heap.size, 0, none⟩)) (w.alloc obj)) (hS : ∀ T w, S T w → S (laidAt T q w.heap.size) (w.alloc obj)) : Lays P ops S q :=
  ⟨o, d, ho, hg, hd, fun ρ T w hs => ⟨_, by simp [execOp, hop, hrun, Result.andThen], hS T w hs⟩⟩
theorem wpHeadT_cons {Q : Act → Prop} {a : Act} {o : Oper} {rest : List Oper} (hg : o.guard = none) (v : Value) (hv : ∀ T w, S T w → Gives P (S T) v ((execOp a.eval o).run P w)) (h : wpHeadT P ops S Q rest (a.put o.dst v)) : wpHeadT P ops S Q (o :: rest) a :=
  ⟨v, fun T => .inl ⟨by simp [Region.wanted, hg], hv T⟩, h⟩
theorem wpHeadT_nil {Q : Act → Prop} {a : Act} (h : Q a) : wpHeadT P ops S Q [] a := h
end
end Go

namespace Go.Proofs.YtpodfmnnabepaaaDoor
open Go.RowKit
open Ot (Dg)
set_option maxRecDepth 100000 in
set_option maxHeartbeats 1000000 in
theorem rtake_any (f : Nat → UInt32) (x : Dg) (w : World) :
    Calls Tryd.prog 64 #[st8 f, dgv x] w fun e w' => e = .returned (st8 (mix (xor4 f (fnOf x) 4))) ∧ Below w.heap.size w w' := by
  go_enter Tryd.func64, Tryd.ntmps64
  go_wp2
  go_loopw [5] (fun i wr => ∃ k : Nat, k ≤ 4 ∧ i = .int .i64 k ∧ Arr wr w.heap.size 8 (xor4 f (fnOf x) k) ∧ Arr wr (w.heap.size+1) 4 (fnOf x) ∧ Arr wr (w.heap.size+1+1) 8 (fun _ => 0) ∧ Below w.heap.size w wr ∧ w.heap.size + 3 ≤ wr.heap.size) (fun i wr => 4 - (intOf i).toNat)
  case atStart =>
    refine ⟨0, by omega, rfl, ?_, ?_, ?_, (((Below.refl _ _).alloc (Nat.le_refl _) _).alloc (by simp) _).alloc (by simp <;> omega) _, by simp⟩
    · exact ((((Arr.new w 8 f 85 _ rfl).alloc (by simp) _).alloc (by simp <;> omega) _)).congr (fun j _ => by simp [xor4])
    · exact (Arr.new' _ _ 4 (fnOf x) 24 _ (by simp) rfl).alloc (by simp) _
    · exact Arr.new' _ _ 8 (fun _ => 0) 85 _ (by simp) rfl
  case round =>
    obtain ⟨k, hk, rfl, ha, hx, hz, hb, hs⟩ := hrel
    by_cases hlt : k < 4
    · have c0 := ha.cell k (by omega)
      have f0 := ha.free k (by omega)
      have c1 := hx.cell k (by omega)
      have e0 : xor4 f (fnOf x) k k = f k := by simp [xor4]
      rw [e0] at c0; clear e0
      have e1 := xorW_eq (f k) (fnOf x k)
      have s5 : (k : Int) < 8 := by omega
      go_wp2
      go_region
      go_wp2
      go_roundw
      case rel =>
        refine ⟨k + 1, by omega, by go_num, ?_, ?_, ?_, ?_, ?_⟩
        · refine (ha.set k (by omega) (xorW (f k) (fnOf x k))).drew.congr (fun i _ => ?_)
          unfold upd xor4
          by_cases e : i = k
          · subst e; rw [if_pos rfl, if_pos (by omega)]
          · rw [if_neg e]
            by_cases e' : i < k
            · rw [if_pos e', if_pos (by omega)]
            · rw [if_neg e', if_neg (by omega)]
        · exact (hx.set_other _ _ (by simp)).drew
        · exact (hz.set_other _ _ (by simp; omega)).drew
        · exact (hb.setCell (by simp) _).drew
        · simpa using hs
      case measure => simp [intOf]; omega
    · obtain rfl : k = 4 := by omega
      generalize hg : xor4 f (fnOf x) 4 = g at *
      have Hg := Lib.hid hg; clear hg
      have hc := fun j h => ha.cell j h
      go_wp2_with (go_at_call 76; refine (rmix_any g _).mono ?_; rintro e w1 ⟨rfl, hb1⟩; have hz1 := hz.below hb1 (by omega); have hd := fun j h => hz1.cell j h; have hf := fun j h => hz1.free j h)
      generalize hm : mix g = m at *
      have Hm := Lib.hid hm; clear hm
      refine bodyPost_ret (v := st8 m) (by simp [results, Tryd.results64, go_sem, hd]) rfl ⟨by rw [Hg.out, Hm.out], ?_⟩
      exact (hb.trans (hb1.mono (by omega))).fill8 (by omega) _ _ _ _ _ _ _ _
/-- What stands in an array that a drawn region lays. -/
def LaidArr (T : Nat → Option Nat) (q lo n : Nat) (w : World) : Prop := ∀ B, T q = some B → lo ≤ B ∧ Arr w B n (fun _ => 0)
theorem LaidArr.none (q lo n : Nat) (w : World) : LaidArr (fun _ => none) q lo n w := fun _ h => by cases h
theorem LaidArr.below {T : Nat → Option Nat} {q lo n : Nat} {w w' : World} (h : LaidArr T q lo n w) (hn : 0 < n) (hb : Below w.heap.size w w') : LaidArr T q lo n w' := fun B e => ⟨(h B e).1, (h B e).2.below hb ((h B e).2.lt hn)⟩
theorem LaidArr.lay {T : Nat → Option Nat} {q lo n : Nat} {w : World} (hlo : lo ≤ w.heap.size) {t : TypeId} {c : Array Value} (hc : c.toList = ws (fun _ => 0) n) : LaidArr (laidAt T q w.heap.size) q lo n (w.alloc (.cells c t)) := fun B e => by
  simp only [laidAt, if_true, Option.some.injEq] at e
  subst e
  exact ⟨hlo, Arr.new w n _ t c hc⟩
set_option maxRecDepth 100000 in
set_option maxHeartbeats 1000000 in
theorem rpair_any (x y : Dg) (w : World) :
    Calls Tryd.prog 53 #[dgv x, dgv y] w fun e w' => e = .returned (dgv (pair x y)) ∧ Below w.heap.size w w' := by
  go_enter Tryd.func53, Tryd.ntmps53
  go_wp2
  refine wp_region_pick (fun T w' => Arr w' w.heap.size 4 (fnOf x) ∧ Arr w' (w.heap.size + 1) 4 (fnOf y) ∧ Arr w' (w.heap.size + 1 + 1) 4 (fun _ => 0) ∧ Below w.heap.size w w' ∧ w.heap.size + 3 ≤ w'.heap.size ∧ LaidArr T 5 (w.heap.size + 3) 8 w') 6 [0, 1, 2, 3, 4] [5] (by kernel_rfl) (by kernel_rfl) ?_ ?_ ?_
  · intro q hq
    obtain rfl : q = 5 := by simpa using hq
    refine lays_alloc 85 (.cells #[.int .u32 0, .int .u32 0, .int .u32 0, .int .u32 0, .int .u32 0, .int .u32 0, .int .u32 0, .int .u32 0] 85) rfl rfl rfl rfl (fun w => by kernel_rfl) ?_
    rintro T w' ⟨h1, h2, h3, h4, h5, h6⟩
    exact ⟨h1.alloc (h1.lt (by decide)) _, h2.alloc (h2.lt (by decide)) _, h3.alloc (h3.lt (by decide)) _, h4.alloc (by omega) _, by simp; omega, LaidArr.lay h5 rfl⟩
  · refine ⟨?_, ?_, ?_, ((((Below.refl _ _).alloc (Nat.le_refl _) _).alloc (by simp <;> omega) _).alloc (by simp <;> omega) _).drew, by simp, LaidArr.none _ _ _ _⟩
    · exact ((Arr.new w 4 (fnOf x) 24 _ rfl).alloc (by simp <;> omega) _).alloc (by simp <;> omega) _
    · exact (Arr.new' _ _ 4 (fnOf y) 24 _ (by simp) rfl).alloc (by simp <;> omega) _
    · exact Arr.new' _ _ 4 (fun _ => 0) 24 _ (by simp) rfl
  simp only [List.filterMap_cons, List.getElem?_cons_succ, List.getElem?_cons_zero, List.filterMap_nil, List.drop_succ_cons, List.drop_zero]
  refine wpHeadT_cons rfl (st8 (st0 2)) (fun T wx hx => ?_) ?_
  · have H := Lib.hid hx; clear hx
    go_simp; exact ⟨by and_intros <;> rfl, H.out⟩
  go_frame
  refine wpHeadT_cons rfl (dgv x) (fun T wx hx => ?_) ?_
  · have c1 := fun j h => hx.1.cell j h
    have H := Lib.hid hx; clear hx
    go_simp; exact ⟨by and_intros <;> rfl, H.out⟩
  go_frame
  refine wpHeadT_cons rfl (st8 (mix (xor4 (st0 2) (fnOf x) 4))) (fun T wx hx => ?_) ?_
  · have H := Lib.hid hx; clear hx
    go_simp
    refine (rtake_any (st0 2) x _).mono ?_
    rintro e w1 ⟨rfl, hb⟩
    obtain ⟨h1, h2, h3, h4, h5, h6⟩ := H.out
    exact ⟨rfl, h1.below hb (h1.lt (by decide)), h2.below hb (h2.lt (by decide)), h3.below hb (h3.lt (by decide)), h4.trans (hb.mono (by omega)), Nat.le_trans h5 hb.size, h6.below (by decide) hb⟩
  go_frame
  refine wpHeadT_cons rfl (dgv y) (fun T wx hx => ?_) ?_
  · have c1 := fun j h => hx.2.1.cell j h
    have H := Lib.hid hx; clear hx
    go_simp; exact ⟨by and_intros <;> rfl, H.out⟩
  go_frame
  refine wpHeadT_cons rfl (st8 (mix (xor4 (mix (xor4 (st0 2) (fnOf x) 4)) (fnOf y) 4))) (fun T wx hx => ?_) ?_
  · have H := Lib.hid hx; clear hx
    go_simp
    refine (rtake_any _ y _).mono ?_
    rintro e w1 ⟨rfl, hb⟩
    obtain ⟨h1, h2, h3, h4, h5, h6⟩ := H.out
    exact ⟨rfl, h1.below hb (h1.lt (by decide)), h2.below hb (h2.lt (by decide)), h3.below hb (h3.lt (by decide)), h4.trans (hb.mono (by omega)), Nat.le_trans h5 hb.size, h6.below (by decide) hb⟩
  go_frame
  refine wpHeadT_nil ?_
  rintro B w1 ⟨h1, h2, h3, h4, h5, h6⟩
  obtain ⟨hB, hz⟩ := h6 B rfl
  simp only [dstOf, ptrTo, List.getElem?_toArray, List.getElem?_cons_succ, List.getElem?_cons_zero, Option.bind_some]
  go_frame
  generalize hm : mix (xor4 (mix (xor4 (st0 2) (fnOf x) 4)) (fnOf y) 4) = m at *
  have Hm := Lib.hid hm; clear hm h6
  have f0 := fun j h => hz.cell j h
  have f1 := fun j h => hz.free j h
  have f2 := fun j h => h3.cell j h
  have f3 := fun j h => h3.free j h
  have hne : B ≠ w.heap.size + 1 + 1 := by omega
  go_wp2
  refine bodyPost_ret (v := st4 m) (by simp [results, Tryd.results53, go_sem, f2]) rfl ⟨?_, ?_⟩
  · have e : absorb (st0 2) (join2 x y) 2 = m := by
      rw [← Hm.out]
      show mix (xor4 (mix (xor4 (st0 2) (fun j => join2 x y (4 * 0 + j)) 4)) (fun j => join2 x y (4 * 1 + j)) 4) = _
      have ex : ∀ s : Nat → UInt32, xor4 s (fun j => join2 x y (4 * 0 + j)) 4 = xor4 s (fnOf x) 4 := fun s => by
        funext j; unfold xor4 join2
        by_cases h : j < 4
        · rw [if_pos h, if_pos h]; dsimp only; rw [if_pos (by omega)]; simp
        · rw [if_neg h, if_neg h]
      have ey : ∀ s : Nat → UInt32, xor4 s (fun j => join2 x y (4 * 1 + j)) 4 = xor4 s (fnOf y) 4 := fun s => by
        funext j; unfold xor4 join2
        by_cases h : j < 4
        · rw [if_pos h, if_pos h]; dsimp only; rw [if_neg (by omega)]; simp
        · rw [if_neg h, if_neg h]
      rw [ex, ey]
    rw [pair_eq]; unfold pair0; rw [e]; rfl
  · exact (h4.fill8 (by omega) _ _ _ _ _ _ _ _).fill4 (by omega) _ _ _ _
end Go.Proofs.YtpodfmnnabepaaaDoor

namespace Go.Proofs.YtpodfmnnabepaaaDoor
open Go.RowKit
open Ot (Dg)
theorem Arr.dg {w : World} {b : Nat} {x : Dg} (h : Arr w b 4 (fnOf x)) : w.cell? ⟨b, 0, none⟩ = some (.int .u32 x.a.toNat) ∧ w.cell? ⟨b, 1, none⟩ = some (.int .u32 x.b.toNat) ∧ w.cell? ⟨b, 2, none⟩ = some (.int .u32 x.c.toNat) ∧ w.cell? ⟨b, 3, none⟩ = some (.int .u32 x.d.toNat) :=
  ⟨h.cell 0 (by decide), h.cell 1 (by decide), h.cell 2 (by decide), h.cell 3 (by decide)⟩
theorem fnOf_zero (j : Nat) : fnOf Ot.zeroD j = 0 := by unfold fnOf Ot.zeroD; simp only [ite_self]
theorem Arr.zero4 {w : World} {b : Nat} : Arr w b 4 (fun _ => 0) = Arr w b 4 (fnOf Ot.zeroD) := by
  congr 1; funext j; exact (fnOf_zero j).symm
set_option maxRecDepth 100000 in
theorem along_any (x : Dg) (n : Nat) (hn : n ≤ 9223372036854775807) (w : World) (ht : Tn w) :
    Calls Tryd.prog 48 #[dgv x, .int .i64 n] w fun e w' => e = .returned (dgv (Ot.walk pair x n)) ∧ Below w.heap.size w w' := by
  go_enter Tryd.func48, Tryd.ntmps48
  go_wp2
  go_loopw [6] (fun i wr => ∃ k : Nat, k ≤ n ∧ i = .int .i64 k ∧ Arr wr w.heap.size 4 (fnOf (Ot.walk pair x k)) ∧ Arr wr (w.heap.size+1) 4 (fnOf Ot.zeroD) ∧ Below w.heap.size w wr ∧ w.heap.size + 2 ≤ wr.heap.size) (fun i wr => n - (intOf i).toNat)
  case atStart =>
    refine ⟨0, by omega, rfl, ?_, ?_, ((Below.refl _ _).alloc (Nat.le_refl _) _).alloc (by simp) _, by simp⟩
    · exact (Arr.new w 4 (fnOf x) 24 _ rfl).alloc (by simp) _
    · exact Arr.new' _ _ 4 _ 24 _ (by simp) rfl
  case round =>
    obtain ⟨k, hk, rfl, ha, hz, hb, hs⟩ := hrel
    generalize hy : Ot.walk pair x k = y at *
    have Hy := Lib.hid hy; clear hy
    obtain ⟨c0, c1, c2, c3⟩ := ha.dg
    have htr := ht.below hb
    by_cases hlt : k < n
    · go_wp2_with (go_at_call 63; refine (pair_any y Ot.one _ htr).mono ?_; rintro e w1 ⟨rfl, hb1⟩; have ha1 := ha.below hb1 (by omega); obtain ⟨d0, d1, d2, d3⟩ := ha1.dg; have hf := fun j h => ha1.free j h)
      go_roundw
      case rel =>
        refine ⟨k + 1, by omega, by go_num, ?_, ?_, ?_, ?_⟩
        · have e : Ot.walk pair x (k + 1) = pair y Ot.one := by rw [← Hy.out]; rfl
          rw [e]; exact ha1.fill4 (fnOf (pair y Ot.one))
        · exact ((((hz.below hb1 (by omega)).set_other _ _ (by simp)).set_other _ _ (by simp)).set_other _ _ (by simp)).set_other _ _ (by simp)
        · exact (hb.trans (hb1.mono (by omega))).fill4 (by omega) _ _ _ _
        · have := hb1.size; simp; omega
      case measure => simp [intOf]; omega
    · obtain rfl : k = n := by omega
      obtain ⟨d0, d1, d2, d3⟩ := hz.dg
      have hf := fun j h => hz.free j h
      go_wp2
      refine bodyPost_ret (v := dgv y) (by simp [results, Tryd.results48, go_sem, d0, d1, d2, d3]) rfl ⟨by rw [Hy.out], ?_⟩
      exact hb.fill4 (by omega) _ _ _ _
set_option maxRecDepth 100000 in
theorem beg_any (x : Dg) (i : Nat) (hi : i < 4294967296) (w : World) (ht : Tn w) :
    Calls Tryd.prog 49 #[dgv x, .int .i64 i] w fun e w' => e = .returned (dgv (Ot.beg pair x i)) ∧ Below w.heap.size w w' := by
  obtain ⟨u, rfl⟩ : ∃ u : UInt32, u.toNat = i := ⟨UInt32.ofNat i, by rw [UInt32.toNat_ofNat']; omega⟩
  have hu := u.toNat_lt
  have e : Ot.beg pair x u.toNat = pair x ⟨u, 0, 0, 0⟩ := by simp only [Ot.beg, UInt32.ofNat_toNat]
  rw [e]
  clear e
  go_enter Tryd.func49, Tryd.ntmps49
  go_wp2_with fail
  have hb0 : Below w.heap.size w ((w.alloc (.cells #[.int .u32 x.a.toNat, .int .u32 x.b.toNat, .int .u32 x.c.toNat, .int .u32 x.d.toNat] 24)).alloc (.cells #[.int .u32 0, .int .u32 0, .int .u32 0, .int .u32 0] 24)) := ((Below.refl _ _).alloc (Nat.le_refl _) _).alloc (by simp) _
  refine (pair_any x ⟨u, 0, 0, 0⟩ _ (ht.below hb0)).mono ?_
  rintro e w1 ⟨rfl, hb1⟩
  have hz := (Arr.new' (w.alloc (.cells #[.int .u32 x.a.toNat, .int .u32 x.b.toNat, .int .u32 x.c.toNat, .int .u32 x.d.toNat] 24)) (w.heap.size + 1) 4 (fnOf Ot.zeroD) 24 #[.int .u32 0, .int .u32 0, .int .u32 0, .int .u32 0] (by simp) rfl).below hb1 (by simp)
  have hb2 := hb0.trans (hb1.mono (by simp <;> omega))
  clear hb0 hb1
  generalize hy : pair x ⟨u, 0, 0, 0⟩ = y
  have Hy := Lib.hid hy; clear hy
  obtain ⟨d0, d1, d2, d3⟩ := hz.dg
  have hf := fun j h => hz.free j h
  go_wp2
  exact bodyPost_ret (v := dgv y) (by simp [results, Tryd.results49, go_sem, d0, d1, d2, d3]) rfl ⟨by rw [Hy.out], hb2.fill4 (by omega) _ _ _ _⟩
/-- A function value that computes: called with i below n in a world that meets S, it gives E i, and S is kept. -/
def Does (f : Value) (n : Nat) (E : Nat → Dg) (S : World → Prop) : Prop :=
  ∃ g caps, f = .func (.func g) #[] caps ∧ (∀ args w, (callFunc g args).run Tryd.prog w = .ok (.enter g args) w) ∧ ∀ i w, i < n → S w → Calls Tryd.prog g (#[.int .i64 (i : Nat)] ++ caps) w fun e w' => e = .returned (dgv (E i)) ∧ Below w.heap.size w w'
set_option maxRecDepth 100000 in
set_option maxHeartbeats 400000 in
theorem ends_any (f : Value) (E : Nat → Dg) (S : World → Prop) (hS : ∀ w w', S w → Below w.heap.size w w' → S w') (hSt : ∀ w, S w → Tn w) (hf : Does f 35 E S) (w : World) (hw : S w) :
    Calls Tryd.prog 46 #[f] w fun e w' => e = .returned (dgv (Ot.ends pair E)) ∧ Below w.heap.size w w' := by
  obtain ⟨g, caps, rfl, hcf, hf⟩ := hf
  go_enter Tryd.func46, Tryd.ntmps46
  go_wp2
  go_loopw [6] (fun i wr => ∃ k : Nat, k ≤ 35 ∧ i = .int .i64 k ∧ Arr wr (w.heap.size+1) 4 (fnOf (Ot.endsTo pair E k)) ∧ Arr wr w.heap.size 4 (fnOf Ot.zeroD) ∧ Below w.heap.size w wr ∧ w.heap.size + 2 ≤ wr.heap.size) (fun i wr => 35 - (intOf i).toNat)
  case atStart =>
    refine ⟨0, by omega, rfl, ?_, ?_, ((Below.refl _ _).alloc (Nat.le_refl _) _).alloc (by simp) _, by simp⟩
    · exact Arr.new' _ _ 4 _ 24 _ (by simp) rfl
    · exact (Arr.new w 4 (fnOf Ot.zeroD) 24 _ rfl).alloc (by simp) _
  case round =>
    obtain ⟨k, hk, rfl, ha, hz, hb, hs⟩ := hrel
    generalize hy : Ot.endsTo pair E k = y at *
    have Hy := Lib.hid hy; clear hy
    by_cases hlt : k < 35
    · have Hf := Lib.hid hf; clear hf
      go_wp2
      refine wp_region_head (fun w' => S w' ∧ Arr w' (w.heap.size+1) 4 (fnOf y) ∧ Arr w' w.heap.size 4 (fnOf Ot.zeroD) ∧ Below w.heap.size w w' ∧ w.heap.size + 2 ≤ w'.heap.size) 4 (by kernel_rfl) (by kernel_rfl) ?_ ?_
      · exact ⟨hS _ _ hw hb.drew, ha.drew, hz.drew, hb.drew, hs⟩
      simp only [List.take_succ_cons, List.take_zero, List.drop_succ_cons, List.drop_zero]
      refine wpHead_cons rfl (dgv y) (fun wx hx => ?_) ?_
      · obtain ⟨c0, c1, c2, c3⟩ := hx.2.1.dg
        have H := Lib.hid hx; clear hx
        go_simp; exact H.out
      go_frame
      refine wpHead_cons rfl (.func (.func g) #[] caps) (fun wx hx => ?_) ?_
      · have H := Lib.hid hx; clear hx
        go_simp; exact H.out
      go_frame
      refine wpHead_cons rfl (.int .i64 k) (fun wx hx => ?_) ?_
      · have H := Lib.hid hx; clear hx
        go_simp; exact H.out
      go_frame
      refine wpHead_cons rfl (dgv (E k)) (fun wx hx => ?_) ?_
      · have H := Lib.hid hx; clear hx
        go_simp
        obtain ⟨h1, h2, h3, h4, h5⟩ := H.out
        refine (Hf.out k wx hlt h1).mono ?_
        rintro e w1 ⟨rfl, hb1⟩
        exact ⟨rfl, hS _ _ h1 hb1, h2.below hb1 (h2.lt (by decide)), h3.below hb1 (h3.lt (by decide)), h4.trans (hb1.mono (by omega)), Nat.le_trans h5 hb1.size⟩
      go_frame
      refine wpHead_nil ?_
      rintro w1 ⟨h1, h2, h3, h4, h5⟩
      have ht1 := hSt _ h1
      generalize hz2 : E k = z at *
      have Hz2 := Lib.hid hz2; clear hz2
      clear hcf
      go_wp2_with (go_at_call 63; refine (pair_any y z _ ht1).mono ?_; rintro e w2 ⟨rfl, hb1⟩; have ha1 := h2.below hb1 (by omega); obtain ⟨d0, d1, d2, d3⟩ := ha1.dg; have hf := fun j h => ha1.free j h)
      go_roundw
      case rel =>
        refine ⟨k + 1, by omega, by go_num, ?_, ?_, ?_, ?_⟩
        · have e : Ot.endsTo pair E (k + 1) = pair y z := by rw [← Hy.out, ← Hz2.out]; rfl
          rw [e]; exact ha1.fill4 (fnOf (pair y z))
        · exact ((((h3.below hb1 (by omega)).set_other _ _ (by simp)).set_other _ _ (by simp)).set_other _ _ (by simp)).set_other _ _ (by simp)
        · exact (h4.trans (hb1.mono (by omega))).fill4 (by omega) _ _ _ _
        · have := hb1.size; simp; omega
      case measure => simp [intOf]; omega
    · obtain rfl : k = 35 := by omega
      clear hcf hf
      obtain ⟨c0, c1, c2, c3⟩ := ha.dg
      obtain ⟨d0, d1, d2, d3⟩ := hz.dg
      have hf := fun j h => hz.free j h
      go_wp2
      refine bodyPost_ret (v := dgv y) (by simp [results, Tryd.results46, go_sem, d0, d1, d2, d3]) rfl ⟨by rw [← Hy.out]; rfl, ?_⟩
      exact hb.fill4 (Nat.le_refl _) _ _ _ _
/-- The closure of Public. -/
theorem pub1_any (x : Dg) (b i : Nat) (hi : i < 35) (w : World) (ht : Tn w) (hx : Arr w b 4 (fnOf x)) :
    Calls Tryd.prog 47 #[.int .i64 i, .pointer (some ⟨b, 0, none⟩)] w fun e w' => e = .returned (dgv (Ot.walk pair (Ot.beg pair x i) 15)) ∧ Below w.heap.size w w' := by
  obtain ⟨c0, c1, c2, c3⟩ := hx.dg
  have hbl := hx.lt (by decide)
  have hne : b ≠ w.heap.size := by omega
  generalize hy : Ot.beg pair x i = y at *
  generalize hz : Ot.walk pair y 15 = z at *
  have Hy := Lib.hid hy; clear hy
  have Hz := Lib.hid hz; clear hz
  go_enter Tryd.func47, Tryd.ntmps47
  go_wp2_with fail
  have hb0 : Below w.heap.size w (w.alloc (.cells #[.int .u32 0, .int .u32 0, .int .u32 0, .int .u32 0] 24)) := (Below.refl _ _).alloc (Nat.le_refl _) _
  refine (beg_any x i (by omega) _ (ht.below hb0)).mono ?_
  rw [Hy.out]
  rintro e w1 ⟨rfl, hb1⟩
  have hz1 := (Arr.new w 4 (fnOf Ot.zeroD) 24 #[.int .u32 0, .int .u32 0, .int .u32 0, .int .u32 0] rfl).below hb1 (by simp)
  have hb2 := hb0.trans (hb1.mono (by simp <;> omega))
  have ht1 := ht.below hb2
  clear hb0 hb1 c0 c1 c2 c3 hx
  go_wp2_with fail
  refine (along_any y 15 (by decide) _ ht1).mono ?_
  rw [Hz.out]
  rintro e w2 ⟨rfl, hb3⟩
  have hz2 := hz1.below hb3 (hz1.lt (by decide))
  have hb4 := hb2.trans (hb3.mono hb2.size)
  obtain ⟨d0, d1, d2, d3⟩ := hz2.dg
  have hf := fun j h => hz2.free j h
  go_wp2
  exact bodyPost_ret (v := dgv z) (by simp [results, Tryd.results47, go_sem, d0, d1, d2, d3]) rfl ⟨rfl, hb4.fill4 (Nat.le_refl _) _ _ _ _⟩
theorem pub1_does (x : Dg) (b : Nat) : Does (.func (.func 47) #[] #[.pointer (some ⟨b, 0, none⟩)]) 35 (fun i => Ot.walk pair (Ot.beg pair x i) 15) (fun w => Tn w ∧ Arr w b 4 (fnOf x)) :=
  ⟨47, _, rfl, fun args w => by kernel_rfl, fun i w hi hS => pub1_any x b i hi w hS.1 hS.2⟩
theorem public_any (x : Dg) (w : World) (ht : Tn w) :
    Calls Tryd.prog 21 #[dgv x] w fun e w' => e = .returned (dgv (Ot.pub pair x)) ∧ Below w.heap.size w w' := by
  have hmf : ∀ (fn : Fn) (first cap : Array Value) (w : World), (Instr.makeFunc fn first cap).run Tryd.prog w = .ok (.func fn first cap) w := fun _ _ _ _ => rfl
  have hp : Ot.pub pair x = Ot.ends pair (fun i => Ot.walk pair (Ot.beg pair x i) 15) := rfl
  rw [hp]
  clear hp
  go_enter Tryd.func21, Tryd.ntmps21
  go_wp2_with fail
  have hb0 : Below w.heap.size w ((w.alloc (.cells #[.int .u32 x.a.toNat, .int .u32 x.b.toNat, .int .u32 x.c.toNat, .int .u32 x.d.toNat] 24)).alloc (.cells #[.int .u32 0, .int .u32 0, .int .u32 0, .int .u32 0] 24)) := ((Below.refl _ _).alloc (Nat.le_refl _) _).alloc (by simp) _
  refine (ends_any _ _ _ (fun w w' h hb => ⟨h.1.below hb, h.2.below hb (h.2.lt (by decide))⟩) (fun w h => h.1) (pub1_does x w.heap.size) _ ⟨ht.below hb0, (Arr.new w 4 (fnOf x) 24 _ rfl).alloc (by simp) _⟩).mono ?_
  rintro e w1 ⟨rfl, hb1⟩
  have hz := (Arr.new' (w.alloc (.cells #[.int .u32 x.a.toNat, .int .u32 x.b.toNat, .int .u32 x.c.toNat, .int .u32 x.d.toNat] 24)) (w.heap.size + 1) 4 (fnOf Ot.zeroD) 24 #[.int .u32 0, .int .u32 0, .int .u32 0, .int .u32 0] (by simp) rfl).below hb1 (by simp)
  have hb2 := hb0.trans (hb1.mono (by simp <;> omega))
  clear hb0 hb1
  generalize hy : Ot.ends pair (fun i => Ot.walk pair (Ot.beg pair x i) 15) = y at *
  have Hy := Lib.hid hy; clear hy
  obtain ⟨d0, d1, d2, d3⟩ := hz.dg
  have hf := fun j h => hz.free j h
  go_wp2
  exact bodyPost_ret (v := dgv y) (by simp [results, Tryd.results21, go_sem, d0, d1, d2, d3]) rfl ⟨by rw [Hy.out], hb2.fill4 (by omega) _ _ _ _⟩
end Go.Proofs.YtpodfmnnabepaaaDoor

namespace Go.Proofs.YtpodfmnnabepaaaDoor
open Go.RowKit
open Ot (Dg)
theorem dg_at (m : Dg) (j : Nat) (hj : j < 4) : ∀ w, (Instr.index 24 (dgv m) (.int .i64 j)).run Tryd.prog w = .ok (.int .u32 (fnOf m j).toNat) w := by
  intro w
  obtain rfl | rfl | rfl | rfl : j = 0 ∨ j = 1 ∨ j = 2 ∨ j = 3 := by omega
  all_goals kernel_rfl
theorem digs_at (m : Dg) (k j : Nat) (hk : k < 4) (hj : j < 8) : (Ot.digs m).getD (8 * k + j) 0 = (fnOf m k).toNat / 2 ^ (28 - 4 * j) % 16 := by
  obtain rfl | rfl | rfl | rfl : k = 0 ∨ k = 1 ∨ k = 2 ∨ k = 3 := by omega
  all_goals
    obtain rfl | rfl | rfl | rfl | rfl | rfl | rfl | rfl : j = 0 ∨ j = 1 ∨ j = 2 ∨ j = 3 ∨ j = 4 ∨ j = 5 ∨ j = 6 ∨ j = 7 := by omega
    all_goals first | rfl | (simp [Ot.digs, Ot.nib, fnOf])
theorem and15 (x : Nat) (hx : x < 4294967296) : bits BinOp.and IntKind.u32 (x : Int) 15 = ((x % 16 : Nat) : Int) := by
  have := bits_mask .u32 32 (Nat.le_refl _) wraps_u32 4 (by decide) (x : Int) (by omega) (by omega)
  rw [show ((2 : Int) ^ 4 - 1) = 15 from rfl] at this
  rw [this]; omega
theorem cell_three_new (w : World) (a b c : Value) (t : TypeId) : ∀ j u, [a, b, c][j]? = some u → (w.alloc (.cells #[a, b, c] t)).cell? ((⟨w.heap.size, 0, none⟩ : Addr).add j) = some u := by
  intro j u hu
  rw [show (⟨w.heap.size, 0, none⟩ : Addr).add j = ⟨w.heap.size, j, none⟩ from by unfold Addr.add; split <;> simp_all, World.cell?_alloc_new]
  simpa using hu
def ivs (l : List Nat) : List Value := l.map fun n => .int .i64 (n : Nat)
theorem Tryd.info3 : (Tryd.prog.info? 3).map (fun i => (i.zero, i.size, i.bytes)) = some (some (.int .i64 0), 1, 8) := by kernel_rfl
theorem own_base_le {w : World} {B B' : Nat} {e : TypeId} {size n : Nat} {v : Value} {xs : List Value} (h : w.ownsRow B e size v n xs) (hB : B' ≤ B) : w.ownsRow B' e size v n xs := by
  refine ⟨h.1, ?_⟩
  rcases h.2 with h2 | ⟨g, cap, cur, h1, h2, h3⟩
  · exact .inl h2
  · exact .inr ⟨g, cap, cur, h1, Nat.le_trans hB h2, h3⟩
theorem ivs_snoc (l : List Nat) (n : Nat) : ivs (l ++ [n]) = ivs l ++ [.int .i64 (n : Nat)] := by simp [ivs]
theorem rest_snoc (l : List Nat) (n : Nat) : Ot.rest (l ++ [n]) = Ot.rest l + (15 - n) := by simp [Ot.rest]
theorem take_snoc' (l : List Nat) (k : Nat) (h : k < l.length) : l.take (k + 1) = l.take k ++ [l.getD k 0] := by
  rw [List.take_succ_eq_append_getElem h, List.getD_eq_getElem?_getD, List.getElem?_eq_getElem h]; rfl
def StepsPost (w : World) (l : List Nat) (e : Ending) (w' : World) : Prop := ∃ v, e = .returned v ∧ Below w.heap.size w w' ∧ w'.ownsRow w.heap.size 3 1 v l.length (ivs l)
set_option maxRecDepth 100000 in
set_option maxHeartbeats 1000000 in
theorem steps_any (m : Dg) (w : World) : Calls Tryd.prog 19 #[dgv m] w (StepsPost w (Ot.steps m)) := by
  obtain ⟨i0, hi, hz0, hz1, hz2⟩ := info_parts Tryd.info3
  have hmk : ∀ w, (Instr.makeSlice 27 (.int .i64 0) (.int .i64 35)).run Tryd.prog w = .ok (.slice (some ⟨w.heap.size, 0, none⟩) 0 35) (w.alloc (.cells (madeCells #[.int .i64 0] 35) 3)) := fun w => by kernel_rfl
  go_enter Tryd.func19, Tryd.ntmps19
  go_wp2
  go_loopw [3, 4, 11] (fun v sm i wr => ∃ k : Nat, k ≤ 4 ∧ i = .int .i64 k ∧ sm = .int .i64 (Ot.rest ((Ot.digs m).take (8 * k)) : Nat) ∧ wr.ownsRow (w.heap.size + 1) 3 1 v (8 * k) (ivs ((Ot.digs m).take (8 * k))) ∧ Below w.heap.size w wr ∧ w.heap.size + 1 ≤ wr.heap.size) (fun _ _ i wr => 4 - (intOf i).toNat)
  case atStart =>
    refine ⟨0, by omega, rfl, rfl, ?_, ((Below.refl _ _).alloc (Nat.le_refl _) _).alloc (by simp) _, by simp⟩
    have h0 := World.ownsRow_made (base := w.heap.size + 1) (e := 3) (size := 1) (w.alloc (.cells #[.int .u32 m.a.toNat, .int .u32 m.b.toNat, .int .u32 m.c.toNat, .int .u32 m.d.toNat] 24)) (madeCells #[.int .i64 0] 35) 35 (by simp) (by unfold maxLen; decide) (by simp [madeCells])
    rw [World.size_alloc] at h0
    exact h0
  case round =>
    obtain ⟨k, hk, rfl, rfl, hown, hb, hs⟩ := hrel
    by_cases hlt : k < 4
    · have hix := dg_at m k hlt
      have hd : decide ((k : Int) < 4) = true := by simp; omega
      go_wp2
      clear hix
      obtain ⟨wo, rfl⟩ : ∃ wo : World, wo = wr := ⟨_, rfl⟩
      go_loopw [3, 4, 7] (fun v sm i wr => ∃ j : Nat, j ≤ 8 ∧ i = .int .i64 (28 - 4 * (j : Int)) ∧ sm = .int .i64 (Ot.rest ((Ot.digs m).take (8 * k + j)) : Nat) ∧ wr.ownsRow (w.heap.size + 1) 3 1 v (8 * k + j) (ivs ((Ot.digs m).take (8 * k + j))) ∧ Below w.heap.size w wr ∧ w.heap.size + 1 ≤ wr.heap.size) (fun _ _ i wr => (intOf i + 4).toNat)
      case atStart => exact ⟨0, by omega, rfl, rfl, hown, hb, hs⟩
      case round =>
        clear hown hb hs
        obtain ⟨j, hj, rfl, rfl, hown, hb, hs⟩ := hrel
        by_cases hj8 : j < 8
        · have hdg := digs_at m k j hlt hj8
          generalize hdd : (Ot.digs m).getD (8 * k + j) 0 = d at *
          have hd15 : d ≤ 15 := by rw [hdg]; omega
          have hbit : bits BinOp.and IntKind.u32 (((fnOf m k).toNat : Int) / 2 ^ (28 - 4 * j)) 15 = (d : Int) := by
            have h1 : (fnOf m k).toNat / 2 ^ (28 - 4 * j) < 4294967296 := Nat.lt_of_le_of_lt (Nat.div_le_self _ _) (fnOf m k).toNat_lt
            have h2 := and15 _ h1
            rw [← hdg] at h2
            rw [← h2]; simp
          have hln : 8 * k + j < (Ot.digs m).length := by rw [Ot.digs_length]; omega
          have hts := take_snoc' (Ot.digs m) (8 * k + j) hln
          rw [hdd] at hts
          have Hts := Lib.hid hts; clear hts hdg hdd
          have hr15 := Ot.rest_le ((Ot.digs m).take (8 * k + j))
          have hll : ((Ot.digs m).take (8 * k + j)).length ≤ 32 := by rw [List.length_take, Ot.digs_length]; omega
          generalize hxs : (Ot.digs m).take (8 * k + j) = xs at *
          have Hxs := Lib.hid hxs; clear hxs hmk
          go_wp2_with (at_builtin; refine wpList_append_own _ rfl _ _ 27 rfl (w.heap.size + 1) 3 i0 (.int .i64 0) 1 8 Tryd.underlying27 hi hz0 hz1 hz2 rfl (by decide) _ _ _ rfl (hown.alloc _) ⟨wr.heap.size, 0, none⟩ 1 1 [.int .i64 d] rfl rfl ?c1 ?c2 ?c3 ?c4 ?c5 ?_)
          case c1 => exact cell_one_new _ _ _
          case c2 => intro u hu; simp at hu; subst hu; rfl
          case c3 => unfold maxLen; omega
          case c4 => omega
          case c5 => simp; omega
          intro v' w1 hown1 hg1 _
          have hb1 : Below w.heap.size w w1 := (hb.alloc (by omega) _).grown hg1 (by simp; omega) (fun q hq => by have := (hown.alloc (.cells #[.int .i64 d] 3)).lt q hq; omega)
          have hs1 := hg1.size
          simp at hs1
          clear hg1 hown hb
          go_wp2
          go_roundw
          case rel =>
            refine ⟨j + 1, by omega, ?_, ?_, ?_, hb1, by omega⟩
            · have e : (28 : Int) - 4 * (j : Int) - 4 = 28 - 4 * ((j + 1 : Nat) : Int) := by omega
              first | rw [e] | (congr 1; omega)
            · rw [show 8 * k + (j + 1) = 8 * k + j + 1 from rfl, Hts.out, rest_snoc]
              first | (congr 1; omega) | trace_state
            · rw [show 8 * k + (j + 1) = 8 * k + j + 1 from rfl, Hts.out, ivs_snoc]
              exact hown1
          case measure => simp [intOf]; omega
        · obtain rfl : j = 8 := by omega
          clear hmk
          go_wp2
          go_roundw
          case rel =>
            refine ⟨k + 1, by omega, by go_num, ?_, ?_, hb, hs⟩
            · rw [show 8 * (k + 1) = 8 * k + 8 by omega]
            · rw [show 8 * (k + 1) = 8 * k + 8 by omega]; exact hown
          case measure => simp [intOf]; omega
    · obtain rfl : k = 4 := by omega
      clear hmk
      have e32 : (Ot.digs m).take (8 * 4) = Ot.digs m := rfl
      rw [e32] at *
      clear e32
      have hr15 := Ot.rest_le (Ot.digs m)
      rw [Ot.digs_length] at hr15
      have hown' : wr.ownsRow (w.heap.size + 1) 3 1 _ 32 (ivs (Ot.digs m)) := hown
      clear hown
      have hp : Ot.steps m = Ot.digs m ++ [Ot.rest (Ot.digs m) / 256 % 16, Ot.rest (Ot.digs m) / 16 % 16, Ot.rest (Ot.digs m) % 16] := rfl
      have Hp := Lib.hid hp; clear hp
      have hlen := Ot.digs_length m
      generalize Ot.rest (Ot.digs m) = r at *
      generalize Ot.digs m = ds at *
      have b1 : bits BinOp.and IntKind.i64 ((r : Int) / 256) 15 = ((r / 256 % 16 : Nat) : Int) := by
        have := bits_mask .i64 63 (by decide) (fun n h0 h1 => by rw [IntKind.wrap_i64]; omega) 4 (by decide) ((r : Int) / 256) (by omega) (by omega)
        rw [show ((2 : Int) ^ 4 - 1) = 15 from rfl] at this
        rw [this]; omega
      have b2 : bits BinOp.and IntKind.i64 ((r : Int) / 16) 15 = ((r / 16 % 16 : Nat) : Int) := by
        have := bits_mask .i64 63 (by decide) (fun n h0 h1 => by rw [IntKind.wrap_i64]; omega) 4 (by decide) ((r : Int) / 16) (by omega) (by omega)
        rw [show ((2 : Int) ^ 4 - 1) = 15 from rfl] at this
        rw [this]; omega
      have b3 : bits BinOp.and IntKind.i64 (r : Int) 15 = ((r % 16 : Nat) : Int) := by
        have := bits_mask .i64 63 (by decide) (fun n h0 h1 => by rw [IntKind.wrap_i64]; omega) 4 (by decide) (r : Int) (by omega) (by omega)
        rw [show ((2 : Int) ^ 4 - 1) = 15 from rfl] at this
        rw [this]; omega
      generalize h1 : r / 256 % 16 = x1 at *
      generalize h2 : r / 16 % 16 = x2 at *
      generalize h3 : r % 16 = x3 at *
      clear h1 h2 h3
      go_wp2_with (at_builtin; refine wpList_append_own _ rfl _ _ 27 rfl (w.heap.size + 1) 3 i0 (.int .i64 0) 1 8 Tryd.underlying27 hi hz0 hz1 hz2 rfl (by decide) _ _ _ rfl (hown'.alloc _) ⟨wr.heap.size, 0, none⟩ 3 3 [.int .i64 x1, .int .i64 x2, .int .i64 x3] rfl rfl ?c1 ?c2 ?c3 ?c4 ?c5 ?_)
      case c1 => exact cell_three_new _ _ _ _ _
      case c2 => intro u hu; simp at hu; rcases hu with rfl | rfl | rfl <;> rfl
      case c3 => unfold maxLen; omega
      case c4 => omega
      case c5 => simp; omega
      intro v' w1 hown1 hg1 _
      have hb1 : Below w.heap.size w w1 := (hb.alloc (by omega) _).grown hg1 (by simp; omega) (fun q hq => by have := (hown'.alloc (.cells #[.int .i64 x1, .int .i64 x2, .int .i64 x3] 3)).lt q hq; omega)
      clear hg1 hown' hb
      go_wp2
      go_ret
      refine ⟨v', rfl, hb1, ?_⟩
      rw [Hp.out]
      have := own_base_le hown1 (B' := w.heap.size) (by omega)
      simpa [ivs, hlen] using this
end Go.Proofs.YtpodfmnnabepaaaDoor

namespace Go.Proofs.YtpodfmnnabepaaaDoor
open Go.RowKit
open Ot (Dg)
/-- Digests as the values of cells. -/
def dcs (l : List Dg) : List Value := l.flatMap fun d => [.int .u32 d.a.toNat, .int .u32 d.b.toNat, .int .u32 d.c.toNat, .int .u32 d.d.toNat]
theorem dcs_snoc (l : List Dg) (d : Dg) : dcs (l ++ [d]) = dcs l ++ [.int .u32 d.a.toNat, .int .u32 d.b.toNat, .int .u32 d.c.toNat, .int .u32 d.d.toNat] := by simp [dcs]
theorem dcs_length (l : List Dg) : (dcs l).length = l.length * 4 := by
  induction l with
  | nil => rfl
  | cons d l ih => rw [show dcs (d :: l) = [.int .u32 d.a.toNat, .int .u32 d.b.toNat, .int .u32 d.c.toNat, .int .u32 d.d.toNat] ++ dcs l from rfl, List.length_append, ih]; simp; omega
theorem Tryd.info24 : (Tryd.prog.info? 24).map (fun i => (i.zero, i.size, i.bytes)) = some (some (dgv Ot.zeroD), 4, 16) := by kernel_rfl
/-- A row of numbers that the call has made, read. -/
theorem own_ints {w : World} {base n : Nat} {e : TypeId} {v : Value} {l : List Nat} (h : w.ownsRow base e 1 v n (ivs l)) (hn : 0 < n) :
    ∃ g cap, v = .slice (some ⟨g, 0, none⟩) n cap ∧ n ≤ cap ∧ cap ≤ 9223372036854775807 ∧ base ≤ g ∧ g < w.heap.size ∧ l.length = n ∧ ∀ j, j < n → w.cell? ⟨g, j, none⟩ = some (.int .i64 (l.getD j 0 : Nat)) := by
  have hc := h
  have hl : l.length = n := by have := h.1; simpa [ivs] using this
  rcases h.2 with ⟨rfl, h0⟩ | ⟨g, cap, cur, rfl, hb, hh, h1, h2, _⟩
  · omega
  · refine ⟨g, cap, rfl, h1, by simpa [maxLen] using h2, hb, (Array.getElem?_eq_some_iff.1 hh).1, hl, fun j hj => ?_⟩
    have := hc.cells (g := g) rfl j (.int .i64 (l.getD j 0 : Nat)) (by simp [ivs, List.getD_eq_getElem?_getD, List.getElem?_eq_getElem (show j < l.length by omega)])
    rwa [show (⟨g, 0, none⟩ : Addr).add j = ⟨g, j, none⟩ from by unfold Addr.add; split <;> simp_all] at this
theorem cell_dg_new (w : World) (d : Dg) (t : TypeId) : ∀ j u, [Value.int .u32 d.a.toNat, .int .u32 d.b.toNat, .int .u32 d.c.toNat, .int .u32 d.d.toNat][j]? = some u → (w.alloc (.cells #[.int .u32 d.a.toNat, .int .u32 d.b.toNat, .int .u32 d.c.toNat, .int .u32 d.d.toNat] t)).cell? ((⟨w.heap.size, 0, none⟩ : Addr).add j) = some u := by
  intro j u hu
  rw [show (⟨w.heap.size, 0, none⟩ : Addr).add j = ⟨w.heap.size, j, none⟩ from by unfold Addr.add; split <;> simp_all, World.cell?_alloc_new]
  simpa using hu
theorem dg_one (d : Dg) : ∀ u ∈ [Value.int .u32 d.a.toNat, .int .u32 d.b.toNat, .int .u32 d.c.toNat, .int .u32 d.d.toNat], u.oneCell' = true := by
  intro u hu
  simp only [List.mem_cons, List.not_mem_nil, or_false] at hu
  rcases hu with rfl | rfl | rfl | rfl <;> rfl
theorem take_snoc_d (l : List Dg) (k : Nat) (h : k < l.length) : l.take (k + 1) = l.take k ++ [l.getD k Ot.zeroD] := by
  rw [List.take_succ_eq_append_getElem h, List.getD_eq_getElem?_getD, List.getElem?_eq_getElem h]; rfl
def SignPost (w : World) (l : List Dg) (e : Ending) (w' : World) : Prop := ∃ v, e = .returned v ∧ Below w.heap.size w w' ∧ w'.ownsRow w.heap.size 24 4 v l.length (dcs l)
set_option maxRecDepth 100000 in
set_option maxHeartbeats 1000000 in
theorem sign_any (x m : Dg) (w : World) (ht : Tn w) : Calls Tryd.prog 24 #[dgv x, dgv m] w (SignPost w (Ot.sign pair x m)) := by
  obtain ⟨i0, hi, hz0, hz1, hz2⟩ := info_parts Tryd.info24
  go_enter Tryd.func24, Tryd.ntmps24
  go_wp2_with fail
  have hb0 : Below w.heap.size w ((w.alloc (.cells #[.int .u32 x.a.toNat, .int .u32 x.b.toNat, .int .u32 x.c.toNat, .int .u32 x.d.toNat] 24)).alloc (.cells #[.int .u32 m.a.toNat, .int .u32 m.b.toNat, .int .u32 m.c.toNat, .int .u32 m.d.toNat] 24)) := ((Below.refl _ _).alloc (Nat.le_refl _) _).alloc (by simp) _
  refine (steps_any m _).mono ?_
  rintro e w1 ⟨v, rfl, hb1, hown⟩
  have hx1 : Arr w1 w.heap.size 4 (fnOf x) := ((Arr.new w 4 (fnOf x) 24 _ rfl).alloc (by simp) _).below hb1 (by simp <;> omega)
  have hb2 := hb0.trans (hb1.mono (by simp <;> omega))
  obtain ⟨g, cap, rfl, hc1, hc2, hgb, hgl, _, hcell⟩ := own_ints hown (by rw [Ot.steps_length]; decide)
  rw [Ot.steps_length] at *
  have hs1 : w.heap.size + 2 ≤ w1.heap.size := by have := hb1.size; simp at this; omega
  simp at hgb
  clear hb0 hb1 hown
  go_wp2_with fail
  go_loopw [5, 11] (fun v i wr => ∃ k : Nat, k ≤ 35 ∧ i = .int .i64 k ∧ wr.ownsRow w1.heap.size 24 4 v k (dcs ((Ot.sign pair x m).take k)) ∧ Below w1.heap.size w1 wr) (fun _ i wr => 35 - (intOf i).toNat)
  case atStart => exact ⟨0, by omega, rfl, World.ownsRow_nil _ _ _ _, Below.refl _ _⟩
  case round =>
    obtain ⟨k, hk, rfl, hown, hb⟩ := hrel
    by_cases hlt : k < 35
    · have hd : decide ((k : Int) < 35) = true := by simp; omega
      have hck := (hb.cell (p := ⟨g, k, none⟩) hgl).trans (hcell k hlt)
      have hsg := Ot.sign_at pair x m k hlt
      have hst := Ot.steps_at_le m k
      have hts := take_snoc_d (Ot.sign pair x m) k (by rw [Ot.sign_length]; exact hlt)
      rw [hsg] at hts
      generalize (Ot.steps m).getD k 0 = n at *
      have Hts := Lib.hid hts; clear hts hsg
      have hx2 := hx1.below hb (by omega)
      have htr := ht.below (hb2.trans (hb.mono hb2.size))
      have Hcell := Lib.hid hcell; clear hcell
      obtain ⟨c0, c1, c2, c3⟩ := hx2.dg
      have hown0 := Lib.hid hown; clear hown
      go_wp2_with fail
      refine (beg_any x k (by omega) _ htr).mono ?_
      rintro e w2 ⟨rfl, hb3⟩
      generalize hy : Ot.beg pair x k = y at *
      have htr2 := htr.below hb3
      go_wp2_with fail
      refine (along_any y n (by omega) _ htr2).mono ?_
      rintro e w3 ⟨rfl, hb4⟩
      generalize hzz : Ot.walk pair y n = z at *
      have hb5 : Below wr.heap.size wr w3 := hb3.trans (hb4.mono hb3.size)
      have hown := hown0.out.kept (w' := w3) (row := none) ⟨hb5.os, hb5.tape, hb5.output, hb5.size, fun q hq _ => hb5.block q hq⟩ (by cases hv : Value.ownBlock _ <;> simp)
      have hb6 := hb.trans (hb5.mono hb.size)
      clear hy hzz c0 c1 c2 c3 hck hb3 hb4 htr htr2 hx2 hown0
      go_wp2_with (at_builtin; refine wpList_append_own _ rfl _ _ 33 rfl w1.heap.size 24 i0 (dgv Ot.zeroD) 4 16 Tryd.underlying33 hi hz0 hz1 hz2 rfl (by decide) _ _ _ rfl (hown.alloc _) ⟨w3.heap.size, 0, none⟩ 1 1 [.int .u32 z.a.toNat, .int .u32 z.b.toNat, .int .u32 z.c.toNat, .int .u32 z.d.toNat] rfl rfl ?c1 ?c2 ?c3 ?c4 ?c5 ?_)
      case c1 => exact cell_dg_new _ _ _
      case c2 => exact dg_one z
      case c3 => unfold maxLen; omega
      case c4 => omega
      case c5 => have := hb6.size; simp; omega
      intro v' w4 hown1 hg1 _
      have hb7 : Below w1.heap.size w1 w4 := (hb6.alloc hb6.size _).grown hg1 (by have := hb6.size; simp; omega) (fun q hq => (hown.lt q hq).1)
      clear hg1 hown hb5 hb6
      go_wp2
      go_roundw
      case rel =>
        refine ⟨k + 1, by omega, by go_num, ?_, hb7⟩
        rw [Hts.out, dcs_snoc]
        exact hown1
      case measure => simp [intOf]; omega
    · obtain rfl : k = 35 := by omega
      go_wp2
      go_ret
      have hl := Ot.sign_length pair x m
      rw [List.take_of_length_le (by omega)] at hown
      refine ⟨_, rfl, hb2.trans (hb.mono hb2.size), ?_⟩
      rw [hl]
      exact own_base_le hown hb2.size
end Go.Proofs.YtpodfmnnabepaaaDoor

namespace Go.Proofs.YtpodfmnnabepaaaDoor
open Go.RowKit
open Ot (Dg)
/-- The digest that stands at a place. -/
def DgAt (w : World) (b o : Nat) (d : Dg) : Prop := w.cell? ⟨b, o, none⟩ = some (.int .u32 d.a.toNat) ∧ w.cell? ⟨b, o + 1, none⟩ = some (.int .u32 d.b.toNat) ∧ w.cell? ⟨b, o + 2, none⟩ = some (.int .u32 d.c.toNat) ∧ w.cell? ⟨b, o + 3, none⟩ = some (.int .u32 d.d.toNat)
theorem DgAt.below {w w' : World} {b o B : Nat} {d : Dg} (h : DgAt w b o d) (hb : Below B w w') (hB : b < B) : DgAt w' b o d :=
  ⟨(hb.cell (p := ⟨b, o, none⟩) hB).trans h.1, (hb.cell (p := ⟨b, o + 1, none⟩) hB).trans h.2.1, (hb.cell (p := ⟨b, o + 2, none⟩) hB).trans h.2.2.1, (hb.cell (p := ⟨b, o + 3, none⟩) hB).trans h.2.2.2⟩
theorem DgAt.lt {w : World} {b o : Nat} {d : Dg} (h : DgAt w b o d) : b < w.heap.size := World.block_lt_of_cell? w _ h.1
set_option maxRecDepth 100000 in
set_option maxHeartbeats 1000000 in
theorem reach1_any (bs bt b off c g cap n i t : Nat) (d : Dg) (hi : i < n) (hi35 : i < 35) (ht15 : t ≤ 15) (w : World) (ht : Tn w)
    (h1 : w.cell? ⟨bs, 0, none⟩ = some (.slice (some ⟨b, off, none⟩) n c)) (h2 : w.cell? ⟨bt, 0, none⟩ = some (.slice (some ⟨g, 0, none⟩) 35 cap)) (h3 : DgAt w b (off + i * 4) d) (h4 : w.cell? ⟨g, i, none⟩ = some (.int .i64 (t : Nat))) :
    Calls Tryd.prog 52 #[.int .i64 i, .pointer (some ⟨bs, 0, none⟩), .pointer (some ⟨bt, 0, none⟩)] w fun e w' => e = .returned (dgv (Ot.walk pair d (15 - t))) ∧ Below w.heap.size w w' := by
  have hin : (i : Int) < (n : Int) := by omega
  have hi3 : (i : Int) < 35 := by omega
  have hi0 : (0 : Int) ≤ (i : Int) := by omega
  have e15 : (15 : Int) - (t : Int) = ((15 - t : Nat) : Int) := by omega
  have hk15 : 15 - t ≤ 15 := by omega
  generalize 15 - t = k at *
  have He := Lib.hid e15; clear e15
  generalize hy : Ot.walk pair d k = y at *
  have Hy := Lib.hid hy; clear hy
  go_enter Tryd.func52, Tryd.ntmps52
  go_wp2
  refine wp_region_head (fun w' => Below w.heap.size w w' ∧ Arr w' w.heap.size 4 (fnOf Ot.zeroD)) 9 (by kernel_rfl) (by kernel_rfl) ?_ ?_
  · exact ⟨((Below.refl _ _).alloc (Nat.le_refl _) _).drew, (Arr.new w 4 (fnOf Ot.zeroD) 24 _ rfl).drew⟩
  simp only [List.take_succ_cons, List.take_zero, List.drop_succ_cons, List.drop_zero]
  refine wpHead_cons rfl (.slice (some ⟨b, off, none⟩) n c) (fun wx hx => ?_) ?_
  · have q1 := (hx.1.cell (p := ⟨bs, 0, none⟩) (World.block_lt_of_cell? w _ h1)).trans h1
    have H := Lib.hid hx; clear hx
    go_simp
    first | exact H.out | exact ⟨rfl, H.out⟩ | exact ⟨by and_intros <;> rfl, H.out⟩
  go_frame
  refine wpHead_cons rfl (.int .i64 i) (fun wx hx => ?_) ?_
  · have H := Lib.hid hx; clear hx
    go_simp
    first | exact H.out | exact ⟨rfl, H.out⟩ | exact ⟨by and_intros <;> rfl, H.out⟩
  go_frame
  refine wpHead_cons rfl (.pointer (some ⟨b, off + i * 4, none⟩)) (fun wx hx => ?_) ?_
  · have H := Lib.hid hx; clear hx
    go_simp
    first | exact H.out | exact ⟨rfl, H.out⟩ | exact ⟨by and_intros <;> rfl, H.out⟩
  go_frame
  refine wpHead_cons rfl (dgv d) (fun wx hx => ?_) ?_
  · obtain ⟨c0, c1, c2, c3⟩ := h3.below hx.1 h3.lt
    have H := Lib.hid hx; clear hx
    go_simp
    first | exact H.out | exact ⟨rfl, H.out⟩ | exact ⟨by and_intros <;> rfl, H.out⟩
  go_frame
  refine wpHead_cons rfl (.slice (some ⟨g, 0, none⟩) 35 cap) (fun wx hx => ?_) ?_
  · have q1 := (hx.1.cell (p := ⟨bt, 0, none⟩) (World.block_lt_of_cell? w _ h2)).trans h2
    have H := Lib.hid hx; clear hx
    go_simp
    first | exact H.out | exact ⟨rfl, H.out⟩ | exact ⟨by and_intros <;> rfl, H.out⟩
  go_frame
  refine wpHead_cons rfl (.int .i64 i) (fun wx hx => ?_) ?_
  · have H := Lib.hid hx; clear hx
    go_simp
    first | exact H.out | exact ⟨rfl, H.out⟩ | exact ⟨by and_intros <;> rfl, H.out⟩
  go_frame
  refine wpHead_cons rfl (.pointer (some ⟨g, i, none⟩)) (fun wx hx => ?_) ?_
  · have H := Lib.hid hx; clear hx
    go_simp
    first | exact H.out | exact ⟨rfl, H.out⟩ | exact ⟨by and_intros <;> rfl, H.out⟩
  go_frame
  refine wpHead_cons rfl (.int .i64 t) (fun wx hx => ?_) ?_
  · have q1 := (hx.1.cell (p := ⟨g, i, none⟩) (World.block_lt_of_cell? w _ h4)).trans h4
    have H := Lib.hid hx; clear hx
    go_simp
    first | exact H.out | exact ⟨rfl, H.out⟩ | exact ⟨by and_intros <;> rfl, H.out⟩
  go_frame
  refine wpHead_cons rfl (.int .i64 k) (fun wx hx => ?_) ?_
  · have e15 := He.out
    have ew : IntKind.i64.wrap (k : Int) = (k : Int) := IntWalk.i64_in _ (by omega)
    have H := Lib.hid hx; clear hx
    go_simp
    first | exact H.out | exact ⟨rfl, H.out⟩ | exact ⟨by and_intros <;> rfl, H.out⟩
  go_frame
  refine wpHead_nil ?_
  rintro wr ⟨hb, hz⟩
  have htr := ht.below hb
  have hs := hb.size
  have hzl := hz.lt (by decide)
  clear h1 h2 h3 h4 hin hi3 hi0
  go_wp2_with (go_at_call 48; refine (along_any d k (by omega) _ htr).mono ?_; rw [Hy.out]; rintro e w1 ⟨rfl, hb1⟩; have hz1 := hz.below hb1 hzl; obtain ⟨d0, d1, d2, d3⟩ := hz1.dg; have hf := fun j h => hz1.free j h)
  exact bodyPost_ret (v := dgv y) (by simp [results, Tryd.results52, go_sem, d0, d1, d2, d3]) rfl ⟨rfl, (hb.trans (hb1.mono hs)).fill4 (Nat.le_refl _) _ _ _ _⟩
/-- A slice that reads as a list of digests. -/
def SigAt (w : World) (v : Value) (l : List Dg) : Prop := ∃ A c, v = .slice A l.length c ∧ l.length ≤ 9223372036854775807 ∧ (0 < l.length → ∃ b off, A = some ⟨b, off, none⟩ ∧ b < w.heap.size ∧ ∀ i, i < l.length → DgAt w b (off + i * 4) (l.getD i Ot.zeroD))
theorem SigAt.below {w w' : World} {v : Value} {l : List Dg} (h : SigAt w v l) (hb : Below w.heap.size w w') : SigAt w' v l := by
  obtain ⟨A, c, rfl, hl, h⟩ := h
  refine ⟨A, c, rfl, hl, fun hp => ?_⟩
  obtain ⟨b, off, rfl, hbl, hc⟩ := h hp
  exact ⟨b, off, rfl, Nat.lt_of_lt_of_le hbl hb.size, fun i hi => (hc i hi).below hb hbl⟩
theorem reach1_does (l : List Dg) (m : Dg) (bs bt b off c g cap : Nat) :
    Does (.func (.func 52) #[] #[.pointer (some ⟨bs, 0, none⟩), .pointer (some ⟨bt, 0, none⟩)]) 35 (fun i => Ot.walk pair (l.getD i Ot.zeroD) (15 - (Ot.steps m).getD i 0))
      (fun w => Tn w ∧ w.cell? ⟨bs, 0, none⟩ = some (.slice (some ⟨b, off, none⟩) 35 c) ∧ w.cell? ⟨bt, 0, none⟩ = some (.slice (some ⟨g, 0, none⟩) 35 cap) ∧ (∀ i, i < 35 → DgAt w b (off + i * 4) (l.getD i Ot.zeroD)) ∧ ∀ i, i < 35 → w.cell? ⟨g, i, none⟩ = some (.int .i64 ((Ot.steps m).getD i 0 : Nat))) :=
  ⟨52, _, rfl, fun args w => by kernel_rfl, fun i w hi hS => reach1_any bs bt b off c g cap 35 i _ _ hi hi (Ot.steps_at_le m i) w hS.1 hS.2.1 hS.2.2.1 (hS.2.2.2.1 i hi) (hS.2.2.2.2 i hi)⟩
theorem reach_short (m : Dg) (v : Value) (l : List Dg) (hl : l.length ≠ 35) (w : World) (hv : SigAt w v l) :
    Calls Tryd.prog 26 #[dgv m, v] w fun e w' => e = .returned (.tuple #[dgv Ot.zeroD, .bool false]) ∧ Below w.heap.size w w' := by
  obtain ⟨A, c, rfl, hl1, _⟩ := hv
  have hne : ((l.length : Int) != 35) = true := by rw [bne_iff_ne]; omega
  generalize l.length = n at *
  go_enter Tryd.func26, Tryd.ntmps26
  go_wp2
  exact bodyPost_ret (v := .tuple #[dgv Ot.zeroD, .bool false]) (by simp [results, Tryd.results26, go_sem]; and_intros <;> rfl) rfl ⟨rfl, (((Below.refl _ _).alloc (Nat.le_refl _) _).alloc (by simp) _).alloc (by simp; omega) _⟩
set_option maxRecDepth 100000 in
set_option maxHeartbeats 1000000 in
theorem reach_full (m : Dg) (v : Value) (l : List Dg) (hl : l.length = 35) (w : World) (ht : Tn w) (hv : SigAt w v l) :
    Calls Tryd.prog 26 #[dgv m, v] w fun e w' => e = .returned (.tuple #[dgv (Ot.reachK pair m l), .bool true]) ∧ Below w.heap.size w w' := by
  have hmf : ∀ (fn : Fn) (first cap : Array Value) (w : World), (Instr.makeFunc fn first cap).run Tryd.prog w = .ok (.func fn first cap) w := fun _ _ _ _ => rfl
  obtain ⟨A, c, rfl, _, hc⟩ := hv
  obtain ⟨b, off, rfl, hbl, hcell⟩ := hc (by omega)
  have hp : Ot.reachK pair m l = Ot.ends pair (fun i => Ot.walk pair (l.getD i Ot.zeroD) (15 - (Ot.steps m).getD i 0)) := rfl
  rw [hp, hl] at *
  clear hp hc
  generalize hy : Ot.ends pair (fun i => Ot.walk pair (l.getD i Ot.zeroD) (15 - (Ot.steps m).getD i 0)) = y at *
  have Hy := Lib.hid hy; clear hy
  have Hcell := Lib.hid hcell; clear hcell
  clear hl
  go_enter Tryd.func26, Tryd.ntmps26
  go_wp2_with fail
  generalize hW : ((w.alloc (.cells #[.int .u32 m.a.toNat, .int .u32 m.b.toNat, .int .u32 m.c.toNat, .int .u32 m.d.toNat] 24)).alloc (.cells #[.slice (some ⟨b, off, none⟩) 35 c] 33)).alloc (.cells #[.int .u32 0, .int .u32 0, .int .u32 0, .int .u32 0] 24) = W
  have hb0 : Below w.heap.size w W := by subst hW; exact (((Below.refl _ _).alloc (Nat.le_refl _) _).alloc (by simp) _).alloc (by simp; omega) _
  have hz0 : Arr W (w.heap.size + 1 + 1) 4 (fnOf Ot.zeroD) := by subst hW; exact Arr.new' _ _ 4 (fnOf Ot.zeroD) 24 _ (by simp) rfl
  have hs0 : W.cell? ⟨w.heap.size + 1, 0, none⟩ = some (.slice (some ⟨b, off, none⟩) 35 c) := by subst hW; simp [go_sem]
  have hsz0 : w.heap.size + 3 ≤ W.heap.size := by subst hW; simp
  clear hW
  refine (steps_any m _).mono ?_
  rintro e w1 ⟨v, rfl, hb1, hown⟩
  obtain ⟨g, cap, rfl, hc1, hc2, hgb, hgl, _, hgc⟩ := own_ints hown (by rw [Ot.steps_length]; decide)
  rw [Ot.steps_length] at *
  have hz1 := hz0.below hb1 (by omega)
  have hs1 := (hb1.cell (p := ⟨w.heap.size + 1, 0, none⟩) (by simp; omega)).trans hs0
  have hb2 := hb0.trans (hb1.mono (by omega))
  have hsz1 := hb1.size
  have Hgc := Lib.hid hgc; clear hgc hown hb0 hz0 hs0 hb1
  go_wp2_with fail
  have hb3 : Below w.heap.size w (w1.alloc (.cells #[.slice (some ⟨g, 0, none⟩) 35 cap] 27)) := hb2.alloc hb2.size _
  refine (ends_any _ _ _ ?_ (fun w h => h.1) (reach1_does l m (w.heap.size + 1) w1.heap.size b off c g cap) _ ?_).mono ?_
  · rintro u u' ⟨h1, h2, h3, h4, h5⟩ hb
    exact ⟨h1.below hb, (hb.cell (World.block_lt_of_cell? u _ h2)).trans h2, (hb.cell (World.block_lt_of_cell? u _ h3)).trans h3, fun i hi => (h4 i hi).below hb (h4 i hi).lt, fun i hi => (hb.cell (World.block_lt_of_cell? u _ (h5 i hi))).trans (h5 i hi)⟩
  · refine ⟨ht.below hb3, ?_, ?_, fun i hi => (Hcell.out i hi).below hb3 hbl, fun i hi => ?_⟩
    · rw [World.cell?_alloc_past _ _ _ (by omega)]; exact hs1
    · rw [World.cell?_alloc_new]; rfl
    · rw [World.cell?_alloc_past _ _ _ (by omega)]; exact Hgc.out i hi
  rw [Hy.out]
  rintro e w2 ⟨rfl, hb4⟩
  have hz2 := (hz1.alloc (by omega) (.cells #[.slice (some ⟨g, 0, none⟩) 35 cap] 27)).below hb4 (by simp; omega)
  have hb5 := hb3.trans (hb4.mono hb3.size)
  clear hb3 hb4 hz1 hs1 hmf
  obtain ⟨d0, d1, d2, d3⟩ := hz2.dg
  have hf := fun j h => hz2.free j h
  go_wp2
  exact bodyPost_ret (v := .tuple #[dgv y, .bool true]) (by simp [results, Tryd.results26, go_sem, d0, d1, d2, d3]) rfl ⟨rfl, hb5.fill4 (by omega) _ _ _ _⟩
end Go.Proofs.YtpodfmnnabepaaaDoor

namespace Go.Proofs.YtpodfmnnabepaaaDoor
open Go.RowKit
open Ot (Dg)
theorem part_dg (x : Dg) (i : Nat) (hi : i < 4) (w : World) : (part 22 (dgv x).cells (i * 1)).run Tryd.prog w = .ok (.int .u32 (fnOf x i).toNat) w := by
  obtain rfl | rfl | rfl | rfl : i = 0 ∨ i = 1 ∨ i = 2 ∨ i = 3 := by omega
  all_goals kernel_rfl
theorem run_equalIn_dg (d : Nat) (x y : Dg) (w : World) : (Op.equalIn (d + 2) 24 (dgv x) (dgv y)).run Tryd.prog w = .ok (decide (x = y)) w := by
  have hp : ∀ (z : Dg) i w, i < 4 → (part 22 #[.int .u32 z.a.toNat, .int .u32 z.b.toNat, .int .u32 z.c.toNat, .int .u32 z.d.toNat] i).run Tryd.prog w = .ok (.int .u32 (fnOf z i).toNat) w := fun z i w hi => by
    have := part_dg z i hi w
    rwa [Nat.mul_one] at this
  have p0 := fun z w => hp z 0 w (by decide)
  have p1 := fun z w => hp z 1 w (by decide)
  have p2 := fun z w => hp z 2 w (by decide)
  have p3 := fun z w => hp z 3 w (by decide)
  have hs : ∀ w, (sizeOf 22).run Tryd.prog w = .ok 1 w := fun w => by kernel_rfl
  have he : ∀ (a b : Int) w, (Op.equalIn (d + 1) 22 (.int .u32 a) (.int .u32 b)).run Tryd.prog w = .ok (a == b) w := fun a b w => run_equalIn_int w d 22 .u32 .u32 a b Tryd.underlying22
  have k : ∀ a b : UInt32, ((a.toNat : Int) == (b.toNat : Int)) = decide (a = b) := fun a b => by
    by_cases h : a = b
    · subst h; simp
    · have : (a.toNat : Int) ≠ (b.toNat : Int) := fun e => h (UInt32.toNat_inj.1 (by omega))
      simp [h, this]
  have ex : decide (x = y) = (decide (x.a = y.a) && (decide (x.b = y.b) && (decide (x.c = y.c) && decide (x.d = y.d)))) := by
    cases x; cases y; simp only [Dg.mk.injEq, Bool.decide_and]
  rw [ex]
  have g0 : ∀ w, (Op.equalIn (d + 1) 22 (.int .u32 (fnOf x 0).toNat) (.int .u32 (fnOf y 0).toNat)).run Tryd.prog w = .ok (decide (x.a = y.a)) w := fun w => (he _ _ w).trans (by rw [k]; rfl)
  have g1 : ∀ w, (Op.equalIn (d + 1) 22 (.int .u32 (fnOf x 1).toNat) (.int .u32 (fnOf y 1).toNat)).run Tryd.prog w = .ok (decide (x.b = y.b)) w := fun w => (he _ _ w).trans (by rw [k]; rfl)
  have g2 : ∀ w, (Op.equalIn (d + 1) 22 (.int .u32 (fnOf x 2).toNat) (.int .u32 (fnOf y 2).toNat)).run Tryd.prog w = .ok (decide (x.c = y.c)) w := fun w => (he _ _ w).trans (by rw [k]; rfl)
  have g3 : ∀ w, (Op.equalIn (d + 1) 22 (.int .u32 (fnOf x 3).toNat) (.int .u32 (fnOf y 3).toNat)).run Tryd.prog w = .ok (decide (x.d = y.d)) w := fun w => (he _ _ w).trans (by rw [k]; rfl)
  generalize decide (x.a = y.a) = b0 at *
  generalize decide (x.b = y.b) = b1 at *
  generalize decide (x.c = y.c) = b2 at *
  generalize decide (x.d = y.d) = b3 at *
  rw [Op.equalIn]
  simp only [Sem.run_bind, run_underlying Tryd.underlying24, Result.andThen_ok, hs]
  simp only [Std.Legacy.Range.forIn_eq_forIn_range']
  rw [show List.range' (0 : Nat) (Std.Legacy.Range.size [:4]) 1 = [0, 1, 2, 3] from rfl]
  cases b0 <;> cases b1 <;> cases b2 <;> cases b3 <;> simp [p0, p1, p2, p3, g0, g1, g2, g3]
theorem dg_eql (x y : Dg) (w : World) : (binOp .eql 24 (dgv x) (dgv y)).run Tryd.prog w = .ok (.bool (decide (x = y))) w := by
  rw [run_eql_struct, run_equalIn_dg 9998]; rfl
theorem dg_neq (x y : Dg) (w : World) : (binOp .neq 24 (dgv x) (dgv y)).run Tryd.prog w = .ok (.bool (!decide (x = y))) w := by
  rw [run_neq_struct, run_equalIn_dg 9998]; rfl
theorem check_short (p m : Dg) (v : Value) (l : List Dg) (hl : l.length ≠ 35) (w : World) (hv : SigAt w v l) :
    Calls Tryd.prog 27 #[dgv p, dgv m, v] w fun e w' => e = .returned (.bool false) ∧ Below w.heap.size w w' := by
  go_enter Tryd.func27, Tryd.ntmps27
  go_wp2_with fail
  generalize hW : ((w.alloc (.cells #[.int .u32 p.a.toNat, .int .u32 p.b.toNat, .int .u32 p.c.toNat, .int .u32 p.d.toNat] 24)).alloc (.cells #[.int .u32 m.a.toNat, .int .u32 m.b.toNat, .int .u32 m.c.toNat, .int .u32 m.d.toNat] 24)) = W
  have hb0 : Below w.heap.size w W := by subst hW; exact (((Below.refl _ _).alloc (Nat.le_refl _) _).alloc (by simp) _)
  have hz0 : Arr W w.heap.size 4 (fnOf p) := by subst hW; exact (Arr.new w 4 (fnOf p) 24 _ rfl).alloc (by simp) _
  have hv0 := hv.below hb0
  have hs0 := hb0.size
  clear hW hv
  refine (reach_short m v l hl _ hv0).mono ?_
  rintro e w1 ⟨rfl, hb1⟩
  have hb2 := hb0.trans (hb1.mono hs0)
  clear hb0 hb1 hv0
  go_wp2
  go_ret
  exact ⟨rfl, hb2.alloc hb2.size _⟩
theorem check_full (p m : Dg) (v : Value) (l : List Dg) (hl : l.length = 35) (w : World) (ht : Tn w) (hv : SigAt w v l) :
    Calls Tryd.prog 27 #[dgv p, dgv m, v] w fun e w' => e = .returned (.bool (decide (Ot.reachK pair m l = p))) ∧ Below w.heap.size w w' := by
  generalize hk : Ot.reachK pair m l = k
  have Hk := Lib.hid hk; clear hk
  go_enter Tryd.func27, Tryd.ntmps27
  go_wp2_with fail
  generalize hW : ((w.alloc (.cells #[.int .u32 p.a.toNat, .int .u32 p.b.toNat, .int .u32 p.c.toNat, .int .u32 p.d.toNat] 24)).alloc (.cells #[.int .u32 m.a.toNat, .int .u32 m.b.toNat, .int .u32 m.c.toNat, .int .u32 m.d.toNat] 24)) = W
  have hb0 : Below w.heap.size w W := by subst hW; exact (((Below.refl _ _).alloc (Nat.le_refl _) _).alloc (by simp) _)
  have hz0 : Arr W w.heap.size 4 (fnOf p) := by subst hW; exact (Arr.new w 4 (fnOf p) 24 _ rfl).alloc (by simp) _
  have hv0 := hv.below hb0
  have hs0 := hb0.size
  have hsz0 : w.heap.size + 2 ≤ W.heap.size := by subst hW; simp
  clear hW hv
  refine (reach_full m v l hl _ (ht.below hb0) hv0).mono ?_
  rw [Hk.out]
  rintro e w1 ⟨rfl, hb1⟩
  have hb2 := hb0.trans (hb1.mono hs0)
  have hz1 := hz0.below hb1 (by omega)
  have hsz1 := hb1.size
  have hlt1 : w.heap.size < w1.heap.size := by omega
  obtain ⟨c0, c1, c2, c3⟩ := hz1.dg
  clear hb0 hb1 hv0 hl
  have hq := dg_eql k p
  go_wp2
  go_ret
  exact ⟨rfl, hb2.alloc hb2.size _⟩
end Go.Proofs.YtpodfmnnabepaaaDoor
