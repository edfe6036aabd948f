/- Words for the walks: arrays of words in a block; the table of turns. -/
import Derived.Test.YtpodfmnnabepaaaDoorProg
import Derived.WalkKit
import Derived.WalkSpells
import Derived.WalkLawsBesides
import Derived.Lib.Hide
import Derived.Deep.RegionWith
import Derived.StillTailTactics
import Derived.Deep.QuietTactic
import Derived.BigQuiet
import Derived.Deep.RegionHeld3
import Derived.BigRegion
import Derived.Deep.DeepCutAuto
import Derived.WalkSmall
namespace Go.Proofs.YtpodfmnnabepaaaDoor
open Go.RowKit
def upd (f : Nat → UInt32) (i : Nat) (v : UInt32) (j : Nat) : UInt32 := if j = i then v else f j
/-- Block b holds the first n words of f from its head on. -/
def Arr (w : World) (b n : Nat) (f : Nat → UInt32) : Prop := ∀ j, j < n → w.cell? ⟨b,j,none⟩ = some (.int .u32 (f j).toNat) ∧ w.frozen? ⟨b,j,none⟩ = false
theorem Arr.cell {w : World} {b n : Nat} {f : Nat → UInt32} (h : Arr w b n f) (j : Nat) (hj : j < n) : w.cell? ⟨b,j,none⟩ = some (.int .u32 (f j).toNat) := (h j hj).1
theorem Arr.free {w : World} {b n : Nat} {f : Nat → UInt32} (h : Arr w b n f) (j : Nat) (hj : j < n) : w.frozen? ⟨b,j,none⟩ = false := (h j hj).2
theorem Arr.below {w w' : World} {b n B : Nat} {f : Nat → UInt32} (h : Arr w b n f) (hb : Below B w w') (hB : b < B) : Arr w' b n f :=
  fun j hj => ⟨(hb.cell (p := ⟨b, j, none⟩) hB).trans (h j hj).1, (hb.frozen (p := ⟨b, j, none⟩) hB).trans (h j hj).2⟩
theorem Arr.set {w : World} {b n : Nat} {f : Nat → UInt32} (h : Arr w b n f) (i : Nat) (hi : i < n) (v : UInt32) : Arr (w.setCell ⟨b,i,none⟩ (.int .u32 v.toNat)) b n (upd f i v) := by
  intro j hj
  refine ⟨?_, ?_⟩
  · unfold upd
    by_cases e : j = i
    · subst e; rw [if_pos rfl]; exact World.cell?_setCell_same _ _ _ (h j hj).1
    · rw [if_neg e, World.cell?_setCell_other _ _ _ _ (by simp only [ne_eq, Addr.mk.injEq, not_and]; omega)]; exact (h j hj).1
  · have := (h j hj).2
    simpa [World.frozen?_setCell] using this
theorem Arr.congr {w : World} {b n : Nat} {f g : Nat → UInt32} (h : Arr w b n f) (e : ∀ j, j < n → f j = g j) : Arr w b n g := fun j hj => by rw [← e j hj]; exact h j hj
theorem Arr.drew {w : World} {b n : Nat} {f : Nat → UInt32} (h : Arr w b n f) : Arr w.drew b n f := h
theorem Arr.set_other {w : World} {b n : Nat} {f : Nat → UInt32} (h : Arr w b n f) (a : Addr) (v : Value) (hne : a.block ≠ b) : Arr (w.setCell a v) b n f := by
  intro j hj
  refine ⟨?_, ?_⟩
  · rw [World.cell?_setCell_other _ _ _ _ (by intro e; exact hne (by rw [e]))]; exact (h j hj).1
  · rw [World.frozen?_setCell]; exact (h j hj).2
theorem Arr.lt {w : World} {b n : Nat} {f : Nat → UInt32} (h : Arr w b n f) (hn : 0 < n) : b < w.heap.size := World.block_lt_of_cell? w _ (h 0 hn).1
theorem Arr.alloc {w : World} {b n : Nat} {f : Nat → UInt32} (h : Arr w b n f) (hb : b < w.heap.size) (o : Obj) : Arr (w.alloc o) b n f :=
  fun j hj => ⟨(World.cell?_alloc_past o b j hb).trans (h j hj).1, (World.frozen?_alloc_past o b j hb).trans (h j hj).2⟩
/-- Words as the values of cells. -/
def ws (f : Nat → UInt32) (n : Nat) : List Value := (List.range n).map fun j => .int .u32 (f j).toNat
theorem Arr.new (w : World) (n : Nat) (f : Nat → UInt32) (t : TypeId) (c : Array Value) (hc : c.toList = ws f n) : Arr (w.alloc (.cells c t)) w.heap.size n f := by
  intro j hj
  refine ⟨?_, World.frozen?_alloc_new w c t j⟩
  rw [World.cell?_alloc_new, ← Array.getElem?_toList, hc]
  simp [ws, hj]
theorem Arr.new' (w : World) (b n : Nat) (f : Nat → UInt32) (t : TypeId) (c : Array Value) (hb : b = w.heap.size) (hc : c.toList = ws f n) : Arr (w.alloc (.cells c t)) b n f := by
  subst hb; exact Arr.new w n f t c hc
theorem Arr.fill4 {w : World} {b : Nat} {f : Nat → UInt32} (h : Arr w b 4 f) (g : Nat → UInt32) :
    Arr ((((w.setCell ⟨b,0,none⟩ (.int .u32 (g 0).toNat)).setCell ⟨b,1,none⟩ (.int .u32 (g 1).toNat)).setCell ⟨b,2,none⟩ (.int .u32 (g 2).toNat)).setCell ⟨b,3,none⟩ (.int .u32 (g 3).toNat)) b 4 g := by
  refine ((((h.set 0 (by omega) (g 0)).set 1 (by omega) (g 1)).set 2 (by omega) (g 2)).set 3 (by omega) (g 3)).congr fun j hj => ?_
  unfold upd
  obtain rfl | rfl | rfl | rfl : j = 0 ∨ j = 1 ∨ j = 2 ∨ j = 3 := by omega
  all_goals simp
theorem Arr.fill8 {w : World} {b : Nat} {f : Nat → UInt32} (h : Arr w b 8 f) (g : Nat → UInt32) :
    Arr ((((((((w.setCell ⟨b,0,none⟩ (.int .u32 (g 0).toNat)).setCell ⟨b,1,none⟩ (.int .u32 (g 1).toNat)).setCell ⟨b,2,none⟩ (.int .u32 (g 2).toNat)).setCell ⟨b,3,none⟩ (.int .u32 (g 3).toNat)).setCell ⟨b,4,none⟩ (.int .u32 (g 4).toNat)).setCell ⟨b,5,none⟩ (.int .u32 (g 5).toNat)).setCell ⟨b,6,none⟩ (.int .u32 (g 6).toNat)).setCell ⟨b,7,none⟩ (.int .u32 (g 7).toNat)) b 8 g := by
  refine ((((((((h.set 0 (by omega) (g 0)).set 1 (by omega) (g 1)).set 2 (by omega) (g 2)).set 3 (by omega) (g 3)).set 4 (by omega) (g 4)).set 5 (by omega) (g 5)).set 6 (by omega) (g 6)).set 7 (by omega) (g 7)).congr fun j hj => ?_
  unfold upd
  obtain rfl | rfl | rfl | rfl | rfl | rfl | rfl | rfl : j = 0 ∨ j = 1 ∨ j = 2 ∨ j = 3 ∨ j = 4 ∨ j = 5 ∨ j = 6 ∨ j = 7 := by omega
  all_goals simp
/-- Four, and eight, stores into a block from B on. -/
theorem _root_.Go.RowKit.Below.fill4 {B : Nat} {a w : World} (h : Below B a w) {b : Nat} (hp : B ≤ b) (v0 v1 v2 v3 : Value) : Below B a ((((w.setCell ⟨b,0,none⟩ v0).setCell ⟨b,1,none⟩ v1).setCell ⟨b,2,none⟩ v2).setCell ⟨b,3,none⟩ v3) :=
  (((h.setCell hp _).setCell hp _).setCell hp _).setCell hp _
theorem _root_.Go.RowKit.Below.fill8 {B : Nat} {a w : World} (h : Below B a w) {b : Nat} (hp : B ≤ b) (v0 v1 v2 v3 v4 v5 v6 v7 : Value) : Below B a ((((((((w.setCell ⟨b,0,none⟩ v0).setCell ⟨b,1,none⟩ v1).setCell ⟨b,2,none⟩ v2).setCell ⟨b,3,none⟩ v3).setCell ⟨b,4,none⟩ v4).setCell ⟨b,5,none⟩ v5).setCell ⟨b,6,none⟩ v6).setCell ⟨b,7,none⟩ v7) :=
  (((((((h.setCell hp _).setCell hp _).setCell hp _).setCell hp _).setCell hp _).setCell hp _).setCell hp _).setCell hp _
def Tn (w : World) : Prop := (w.cell? ⟨0,0,none⟩ = some (.int .i64 7) ∧ w.cell? ⟨0,1,none⟩ = some (.int .i64 9)) ∧ w.cell? ⟨0,2,none⟩ = some (.int .i64 13) ∧ w.cell? ⟨0,3,none⟩ = some (.int .i64 18)
theorem Tn.below {w w' : World} (h : Tn w) (hb : Below w.heap.size w w') : Tn w' :=
  ⟨⟨(hb.cell (World.block_lt_of_cell? w _ h.1.1)).trans h.1.1, (hb.cell (World.block_lt_of_cell? w _ h.1.2)).trans h.1.2⟩, (hb.cell (World.block_lt_of_cell? w _ h.2.1)).trans h.2.1, (hb.cell (World.block_lt_of_cell? w _ h.2.2)).trans h.2.2⟩
theorem Tn.drew {w : World} (h : Tn w) : Tn w.drew := h
theorem Tn.pos {w : World} (h : Tn w) : 0 < w.heap.size := World.block_lt_of_cell? w _ h.1.1
def rot (x : UInt32) (n : Nat) : UInt32 := UInt32.ofNat (x.toNat * 2 ^ n % 4294967296 + x.toNat / 2 ^ (32 - n))
theorem still_tail_drew {P : Program} {id : Nat} {Q : Exit → Act → World → Prop} {a : Act} {w : World} {l : List Oper} (n : Nat) (hm : P.follows .mixedOrders = true) (hB : Region.lexTailB .any l.toArray n = true)
    (h : wpStill P l.toArray w.drew (fun a' => wpList P l.toArray Q (l.drop n) a' w.drew) (l.take n) a) : (Code.region id l.toArray true).wp P Q a w :=
  wp_region_still_tail n hm hB h
def addW (a b : UInt32) : UInt32 := a + b
def xorW (a b : UInt32) : UInt32 := a ^^^ b
theorem addW_eq (a b : UInt32) : ((a.toNat : Int) + (b.toNat : Int)) % 4294967296 = ((addW a b).toNat : Int) := by
  unfold addW; rw [UInt32.toNat_add]; omega
theorem wraps_u32 (n : Int) (h₀ : 0 ≤ n) (h₁ : n < 2 ^ 32) : IntKind.u32.wrap n = n := by rw [IntKind.wrap_u32]; omega
theorem xorW_eq (a b : UInt32) : bits BinOp.xor IntKind.u32 (a.toNat : Int) (b.toNat : Int) = ((xorW a b).toNat : Int) := by
  have ha := a.toNat_lt; have hb := b.toNat_lt
  have hx : a.toNat ^^^ b.toNat < 2 ^ 32 := Nat.xor_lt_two_pow (by omega) (by omega)
  have h1 : (BitVec.ofInt 32 (a.toNat : Int)).toNat = a.toNat := by
    rw [BitVec.ofInt_natCast, BitVec.toNat_ofNat]; exact Nat.mod_eq_of_lt (by omega)
  have h2 : (BitVec.ofInt 32 (b.toNat : Int)).toNat = b.toNat := by
    rw [BitVec.ofInt_natCast, BitVec.toNat_ofNat]; exact Nat.mod_eq_of_lt (by omega)
  unfold xorW
  show IntKind.u32.wrap ((BitVec.ofInt 32 (a.toNat : Int) ^^^ BitVec.ofInt 32 (b.toNat : Int)).toNat : Int) = _
  rw [BitVec.toNat_xor, h1, h2, UInt32.toNat_xor, wraps_u32 _ (by omega) (by omega)]
/-- The place of a word that is turned: as math/bits has it. -/
theorem rot_eq (x : UInt32) (k : Nat) (hk : k < 32) : bits BinOp.or IntKind.u32 ((x.toNat : Int) * 2 ^ k % 4294967296) ((x.toNat : Int) / 2 ^ (32 - k)) = ((rot x k).toNat : Int) := by
  have hx := x.toNat_lt
  have hp : 2 ^ (32 - k) * 2 ^ k = 4294967296 := by rw [← Nat.pow_add, Nat.sub_add_cancel (by omega)]
  have hl : x.toNat / 2 ^ (32 - k) < 2 ^ k := by
    rw [Nat.div_lt_iff_lt_mul (Nat.two_pow_pos _), Nat.mul_comm, hp]; exact hx
  have e1 : x.toNat * 2 ^ k % 4294967296 = (x.toNat % 2 ^ (32 - k)) * 2 ^ k := by
    rw [← hp, Nat.mul_comm (2 ^ (32 - k)), Nat.mul_comm x.toNat, Nat.mul_mod_mul_left, Nat.mul_comm]
  have ha : x.toNat * 2 ^ k % 4294967296 < 2 ^ 32 := Nat.mod_lt _ (by decide)
  have hb : x.toNat / 2 ^ (32 - k) < 2 ^ 32 := Nat.lt_of_le_of_lt (Nat.div_le_self _ _) hx
  have h := (bits_nat .u32 32 (Nat.le_refl _) wraps_u32 (x.toNat * 2 ^ k % 4294967296) (x.toNat / 2 ^ (32 - k)) ha hb).2
  have c1 : ((x.toNat * 2 ^ k % 4294967296 : Nat) : Int) = (x.toNat : Int) * 2 ^ k % 4294967296 := by simp
  have c2 : ((x.toNat / 2 ^ (32 - k) : Nat) : Int) = (x.toNat : Int) / 2 ^ (32 - k) := by simp
  rw [c1, c2] at h
  rw [h, e1]
  have hor : (x.toNat % 2 ^ (32 - k)) * 2 ^ k ||| x.toNat / 2 ^ (32 - k) = (x.toNat % 2 ^ (32 - k)) * 2 ^ k + x.toNat / 2 ^ (32 - k) := by
    rw [Nat.mul_comm, ← Nat.two_pow_add_eq_or_of_lt hl]
  rw [hor, ← e1]
  have hlt : x.toNat * 2 ^ k % 4294967296 + x.toNat / 2 ^ (32 - k) < 4294967296 := by
    rw [e1]
    have : x.toNat % 2 ^ (32 - k) < 2 ^ (32 - k) := Nat.mod_lt _ (Nat.two_pow_pos _)
    calc (x.toNat % 2 ^ (32 - k)) * 2 ^ k + x.toNat / 2 ^ (32 - k) < (x.toNat % 2 ^ (32 - k)) * 2 ^ k + 2 ^ k := by omega
      _ = (x.toNat % 2 ^ (32 - k) + 1) * 2 ^ k := by rw [Nat.add_mul, Nat.one_mul]
      _ ≤ 2 ^ (32 - k) * 2 ^ k := Nat.mul_le_mul_right _ (by omega)
      _ = 4294967296 := hp
  unfold rot
  rw [UInt32.toNat_ofNat', Nat.mod_eq_of_lt hlt]
end Go.Proofs.YtpodfmnnabepaaaDoor
