/- Texts of this claim, merged: R6 Q33 Q34. Conditions: those written in each. -/
import Derived.Test.YtpodfmnnabepaaaDoorM2
import Derived.Test.YtpodfmnnabepaaaDoorM7
import Derived.Test.YtpodfmnnabepaaaDoorM8
import Derived.Test.YtpodfmnnabepaaaDoorM10
namespace Go
open Go.RowKit
section
variable {P : Program} {ops : Array Oper} {md : Region.Mode}
/-- What is listed of the head. -/
def listN (n : Nat) (listed : Array Bool) : Nat → Bool := fun j => decide (j < n) && listed.getD j true
def setL (L : Nat → Bool) (i : Nat) : Nat → Bool := fun j => if j = i then true else L j
/-- Operation i's part. -/
def OpYieldsA (P : Program) (md : Region.Mode) (ops : Array Oper) (Inv : (Nat → Bool) → (Nat → Value) → World → Prop) (n : Nat) (a0 : Act) (i : Nat) (o : Oper) : Prop :=
  ∀ (L : Nat → Bool) (us : Nat → Value) (w : World), Inv L us w → L i = false → (∀ j, (o.after.toList.any fun e => Region.binds md e && decide (e.on = j)) = true → L j = true) →
    (Region.wanted o (yielded ops (putAll ops us n a0).tmps) = true ∧ GivesK P (fun v w' => Inv (setL L i) (updV us i v) w') ((execOp (putAll ops us n a0).eval o).run P w)) ∨
    (Region.wanted o (yielded ops (putAll ops us n a0).tmps) = false ∧ Inv (setL L i) (updV us i undef) w)
theorem OpYieldsA.wpOp {G : Value → World → Prop} {n : Nat} {a0 : Act} {Q : Exit → Act → World → Prop} {i : Nat} {o : Oper} {us : Nat → Value} {w : World} (hi : ops[i]? = some o)
    (h0 : (Region.wanted o (yielded ops (putAll ops us n a0).tmps) = true ∧ GivesK P G ((execOp (putAll ops us n a0).eval o).run P w)) ∨ (Region.wanted o (yielded ops (putAll ops us n a0).tmps) = false ∧ G undef w))
    {K : Act → World → Prop} (h : ∀ v w', G v w' → K ((putAll ops us n a0).put o.dst v) w') : wpOp P ops Q i K (putAll ops us n a0) w := by
  generalize putAll ops us n a0 = a at *
  unfold Go.wpOp
  simp only [hi]
  rcases h0 with ⟨hw, h0⟩ | ⟨hw, h0⟩
  · rw [if_pos hw]
    refine .inl ?_
    unfold Oper.wp
    generalize (execOp a.eval o).run P w = r at h0
    cases r with
    | ok n w' =>
      cases n <;> simp only [GivesK] at h0
      case value u => exact h _ _ h0
      case skip => exact h _ _ h0
      case enter f args =>
        rw [Oper.upon_enter]
        refine h0.mono fun e w'' he => ?_
        obtain ⟨v, rfl, h2⟩ := he
        exact h v w'' h2
    | halt x w' => exact h0.elim
  · rw [if_neg (by rw [hw]; decide)]
    exact h _ _ h0
def invHeadA (P : Program) (md : Region.Mode) (ops : Array Oper) (Inv : (Nat → Bool) → (Nat → Value) → World → Prop) (n : Nat) (a0 : Act) : List Oper → Nat → Prop
  | [], _ => True
  | o :: l, k => OpYieldsA P md ops Inv n a0 k o ∧ invHeadA P md ops Inv n a0 l (k + 1)
theorem invHeadA_get {Inv : (Nat → Bool) → (Nat → Value) → World → Prop} {n : Nat} {a0 : Act} : ∀ (l : List Oper) (k : Nat), invHeadA P md ops Inv n a0 l k → ∀ j o, l[j]? = some o → OpYieldsA P md ops Inv n a0 (k + j) o
  | [], _, _, _, _, h => by simp at h
  | x :: l, k, h, 0, o, ho => by obtain rfl : x = o := by simpa using ho
                                 exact h.1
  | x :: l, k, h, j + 1, o, ho => by
    have := invHeadA_get l (k + 1) h.2 j o (by simpa using ho)
    rwa [show k + 1 + j = k + (j + 1) by omega] at this
theorem listN_set {n : Nat} {listed : Array Bool} {i : Nat} (hi : i < n) (hs : i < listed.size) : listN n (listed.setIfInBounds i true) = setL (listN n listed) i := by
  funext j
  unfold listN setL
  by_cases h : j = i
  · subst h; simp [hi, hs]
  · rw [if_neg h, getD_set_ne true (Ne.symm h)]
theorem wpAny_invA {Inv : (Nat → Bool) → (Nat → Value) → World → Prop} {n : Nat} {a0 : Act} {Q : Exit → Act → World → Prop} (hB : Region.invGB md ops n = true)
    (hop : ∀ i o, i < n → ops[i]? = some o → OpYieldsA P md ops Inv n a0 i o)
    (hend : ∀ us w, Inv (fun j => decide (j < n)) us w → wpAny P md ops Q (ops.size - n) (Region.headDone ops.size n) (putAll ops us n a0) w) :
    ∀ (f : Nat) (listed : Array Bool) (us : Nat → Value) (w : World), unlistedN listed n = f → HeadInv md ops n listed → Inv (listN n listed) us w →
      wpAny P md ops Q (f + (ops.size - n)) listed (putAll ops us n a0) w := by
  obtain ⟨hle, hsc, hops, hdst, _⟩ := invGB_spec hB
  intro f
  induction f with
  | zero =>
    intro listed us w hl inv hS
    have hdone : listed = Region.headDone ops.size n := by
      apply Array.ext
      · simp [Region.headDone, inv.size]
      · intro j h1 h2
        have hv : listed.getD j true = listed[j] := by simp [h1]
        have : (Region.headDone ops.size n)[j] = decide (j < n) := by simp [Region.headDone]
        rw [this]
        by_cases hjn : j < n
        · rw [← hv, unlistedN_zero hl j hjn]; simp [hjn]
        · rw [← hv, inv.tail j (by omega) (by rw [← inv.size]; exact h1)]; simp [hjn]
    have hL : listN n listed = fun j => decide (j < n) := by
      funext j
      unfold listN
      by_cases hjn : j < n
      · rw [unlistedN_zero hl j hjn]; simp
      · simp [hjn]
    rw [hL] at hS
    rw [Nat.zero_add, hdone]
    exact hend us w hS
  | succ f ih =>
    intro listed us w hl inv hS
    obtain ⟨k, hk, hku, hkl⟩ := unlistedN_pos (n := n) (listed := listed) (by omega)
    have hkr : k ∈ Region.ready md ops listed := by
      obtain ⟨o, ho, hlt⟩ := hops k hk
      refine mem_ready.2 ⟨hku, o, ho, fun e he _ => ?_⟩
      have h1 := hkl e.on (hlt e he)
      have h2 : e.on < listed.size := by rw [inv.size]; have := hlt e he; omega
      simp [h2] at h1 ⊢; exact h1
    rw [show f + 1 + (ops.size - n) = (f + (ops.size - n)) + 1 by omega]
    refine ⟨fun h0 => (by rw [h0] at hkr; cases hkr), fun i hi => ?_⟩
    obtain ⟨hiu, oi, hoi, hall⟩ := mem_ready.1 hi
    have hin : i < n := by
      rcases hsc with h | ⟨h1, h2⟩
      · rcases Nat.lt_or_ge i n with h' | h'
        · exact h'
        · rw [Array.getElem?_eq_none (by omega)] at hoi; cases hoi
      · rcases Nat.lt_or_ge n ops.size with h' | h'
        · exact Nat.lt_of_not_le fun h => tail_waits h1 h2 h' inv _ k rfl hk hku i h hi
        · rcases Nat.lt_or_ge i n with h'' | h''
          · exact h''
          · rw [Array.getElem?_eq_none (by omega)] at hoi; cases hoi
    obtain ⟨o', ho', _⟩ := hops i hin
    obtain rfl : oi = o' := Option.some.inj (hoi.symm.trans ho')
    have hd : dstOf ops i = oi.dst := by simp [dstOf, hoi]
    refine OpYieldsA.wpOp hoi (hop i oi hin hoi (listN n listed) us w hS (by unfold listN; rw [hiu]; simp) fun j hj => ?_) fun v w' hv => ?_
    · obtain ⟨e, he, hb⟩ : ∃ e ∈ oi.after, Region.binds md e = true ∧ e.on = j := by
        obtain ⟨e, he, hb⟩ := List.any_eq_true.1 hj
        exact ⟨e, by simpa using he, by simpa using hb⟩
      have h1 := hall e he hb.1
      rw [hb.2] at h1
      have hjn : j < n := by
        obtain ⟨o2, ho2, hlt⟩ := hops i hin
        obtain rfl : oi = o2 := Option.some.inj (hoi.symm.trans ho2)
        have := hlt e he; omega
      have h2 : j < listed.size := by rw [inv.size]; omega
      unfold listN
      have h3 : listed.getD j true = true := by simp [h2] at h1 ⊢; exact h1
      rw [h3]; simp [hjn]
    · rw [← hd, putAll_put n a0 hdst hin]
      refine ih _ (updV us i v) w' ?_ (inv.set hi hin) ?_
      · have := unlistedN_set hiu hin; omega
      · rw [listN_set hin (by rw [inv.size]; omega)]; exact hv
/-- THE LAW. -/
theorem wp_region_invA {id : Nat} {Q : Exit → Act → World → Prop} {a : Act} {w : World} {l : List Oper} (Inv : (Nat → Bool) → (Nat → Value) → World → Prop) (n : Nat) (hm : P.follows .mixedOrders = true) (hB : Region.invGB .any l.toArray n = true)
    (hS : ∀ us, Inv (fun _ => false) us w.drew)
    (hop : invHeadA P .any l.toArray Inv n a (l.take n) 0)
    (hend : ∀ us w', Inv (fun j => decide (j < n)) us w' → wpList P l.toArray Q (l.drop n) (putAll l.toArray us n a) w') : (Code.region id l.toArray true).wp P Q a w := by
  obtain ⟨hle, _, _, _, hseq⟩ := invGB_spec hB
  have hdl : (l.drop n).length = l.toArray.size - n := by simp
  have inv0 : HeadInv .any l.toArray n (Array.replicate l.toArray.size false) :=
    ⟨by simp, fun j oj _ hl => (by rw [getD_replicate_false] at hl; cases hl), fun t _ ht => getD_in (by simpa using ht) (getD_replicate_false _ _)⟩
  have hle' : n ≤ l.length := by simpa using hle
  refine wp_region_any hm ?_
  have hleft : ∀ m, m ≤ l.length → unlistedN (Array.replicate l.length false) m = m := by
    intro m
    induction m with
    | zero => intro _; rfl
    | succ m ih => intro hm; simp only [unlistedN]; rw [ih (by omega), getD_in (by simp; omega) (getD_replicate_false _ _)]; simp; omega
  have hL0 : listN n (Array.replicate l.toArray.size false) = fun _ => false := by
    funext j
    unfold listN
    by_cases hj : j < n
    · rw [getD_in (by simp; omega) (getD_replicate_false _ _)]; simp
    · simp [hj]
  have := wpAny_invA (P := P) (Q := Q) (a0 := a) hB (fun i o hi ho => by
      have := invHeadA_get (l.take n) 0 hop i o (by rw [List.getElem?_take_of_lt hi]; simpa using ho)
      rwa [Nat.zero_add] at this)
    (fun us w' hS' => by
      have := wpAny_of_seq (md := .any) (Q' := Q) (l.drop n) n (Region.headDone l.toArray.size n) (putAll l.toArray us n a) w' (fun j => by simp [List.getElem?_drop]) (by rw [hdl]; exact hseq) (hend us w' hS')
      rwa [hdl] at this)
    n (Array.replicate l.toArray.size false) (fun j => match dstOf l.toArray j with | some d => a.tmps.getD d undef | none => undef) w.drew (by simpa using hleft n hle') inv0 (by rw [hL0]; exact hS _)
  rw [show putAll l.toArray (fun j => match dstOf l.toArray j with | some d => a.tmps.getD d undef | none => undef) n a = a from putAll_self a n, show n + (l.toArray.size - n) = l.toArray.size by omega] at this
  exact this
end
end Go

namespace Go.Proofs.YtpodfmnnabepaaaDoor
open Go.RowKit
open Ot (Dg)
theorem SigAt.shp {w : World} {v : Value} {l : List Dg} (h : SigAt w v l) : ∃ A c, v = .slice A l.length c := by obtain ⟨A, c, h, _⟩ := h; exact ⟨A, c, h⟩
theorem PathAt.shp {w : World} {v : Value} {l : List Dg} (h : PathAt w v l) : ∃ A c, v = .slice A l.length c := by obtain ⟨A, c, h, _⟩ := h; exact ⟨A, c, h⟩
/-- The raw cells of signed messages. -/
def CellsOf (w : World) (cs : List Value) (L : List Sg) : Prop := cs.length = L.length * 7 ∧ (∀ u ∈ cs, u.oneCell' = true) ∧ ∀ i, i < L.length → ∃ v u, SigAt w v (L.getD i zeroSg).one ∧ PathAt w u (L.getD i zeroSg).path ∧
  ∀ j, j < 7 → cs[i * 7 + j]? = [Value.int .u32 (L.getD i zeroSg).b.a.toNat, .int .u32 (L.getD i zeroSg).b.b.toNat, .int .u32 (L.getD i zeroSg).b.c.toNat, .int .u32 (L.getD i zeroSg).b.d.toNat, .int .i64 (L.getD i zeroSg).i, v, u][j]?
theorem CellsOf.keep {w w' : World} {cs : List Value} {L : List Sg} (h : CellsOf w cs L) (hb : Below w.heap.size w w') : CellsOf w' cs L := by
  refine ⟨h.1, h.2.1, fun i hi => ?_⟩
  obtain ⟨v, u, h1, h2, h3⟩ := h.2.2 i hi
  exact ⟨v, u, h1.below hb, h2.keep hb, h3⟩
theorem CellsOf.nil (w : World) : CellsOf w [] [] := ⟨rfl, by simp, fun i hi => by simp at hi⟩
theorem CellsOf.append {w : World} {cs ds : List Value} {L M : List Sg} (h : CellsOf w cs L) (k : CellsOf w ds M) : CellsOf w (cs ++ ds) (L ++ M) := by
  refine ⟨by rw [List.length_append, List.length_append, h.1, k.1, Nat.add_mul], fun u hu => by rcases List.mem_append.1 hu with hu | hu; exact h.2.1 u hu; exact k.2.1 u hu, fun i hi => ?_⟩
  by_cases hl : i < L.length
  · obtain ⟨v, u, h1, h2, h3⟩ := h.2.2 i hl
    have e : (L ++ M).getD i zeroSg = L.getD i zeroSg := by simp [List.getD_eq_getElem?_getD, List.getElem?_append_left hl]
    rw [e]
    refine ⟨v, u, h1, h2, fun j hj => ?_⟩
    rw [List.getElem?_append_left (by rw [h.1]; omega)]
    exact h3 j hj
  · have hi2 : i - L.length < M.length := by rw [List.length_append] at hi; omega
    obtain ⟨v, u, h1, h2, h3⟩ := k.2.2 (i - L.length) hi2
    have e : (L ++ M).getD i zeroSg = M.getD (i - L.length) zeroSg := by simp [List.getD_eq_getElem?_getD, List.getElem?_append_right (Nat.le_of_not_lt hl)]
    rw [e]
    refine ⟨v, u, h1, h2, fun j hj => ?_⟩
    rw [List.getElem?_append_right (by rw [h.1]; omega), h.1, show i * 7 + j - L.length * 7 = (i - L.length) * 7 + j by omega]
    exact h3 j hj
/-- A row of the call's own reads as they are. -/
theorem own_sgs {w : World} {base : Nat} {v : Value} {cs : List Value} {L : List Sg} (h : w.ownsRow base 59 7 v L.length cs) (hc : CellsOf w cs L) : SgsAt w v L := by
  rcases h.2 with ⟨rfl, h0⟩ | ⟨g, cap, cur, rfl, hb, hh, h1, h2, _⟩
  · exact ⟨none, 0, by rw [h0], by omega, fun hp => by omega⟩
  · refine ⟨some ⟨g, 0, none⟩, cap, rfl, by simp only [maxLen] at h2; omega, fun _ => ⟨g, 0, rfl, fun i hi => ?_⟩⟩
    have ad : ∀ j, (⟨g, 0, none⟩ : Addr).add j = ⟨g, j, none⟩ := add_at g
    have c := fun j u hu => (ad j) ▸ h.cells (g := g) rfl j u hu
    obtain ⟨v, u, k1, k2, k3⟩ := hc.2.2 i hi
    rw [Nat.zero_add]
    exact ⟨⟨c _ _ (k3 0 (by decide)), c _ _ (k3 1 (by decide)), c _ _ (k3 2 (by decide)), c _ _ (k3 3 (by decide))⟩, c _ _ (k3 4 (by decide)), v, u, c _ _ (k3 5 (by decide)), c _ _ (k3 6 (by decide)), k1, k2⟩
/-- What an append reads. -/
def RowAt (w : World) (y : Value) (n : Nat) (cs : List Value) : Prop := (∃ c, y = .slice none 0 c ∧ n = 0 ∧ cs = []) ∨ ∃ a c, y = .slice (some a) n c ∧ cs.length = n * 7 ∧ ∀ j u, cs[j]? = some u → w.cell? (a.add j) = some u
theorem RowAt.keep {w w' : World} {y : Value} {n : Nat} {cs : List Value} (h : RowAt w y n cs) (hb : Below w.heap.size w w') : RowAt w' y n cs := by
  rcases h with h | ⟨a, c, h1, h2, h3⟩
  · exact .inl h
  · exact .inr ⟨a, c, h1, h2, fun j u hu => cell_keep (h3 j u hu) hb⟩
theorem getElem?_seven {x0 x1 x2 x3 x4 x5 x6 : Value} {j : Nat} (hj : j < 7) : ∃ u, [x0, x1, x2, x3, x4, x5, x6][j]? = some u := ⟨_, List.getElem?_eq_getElem (by simpa using hj)⟩
theorem add_plain0 (g o j : Nat) : (⟨g, o, none⟩ : Addr).add j = ⟨g, o + j, none⟩ := add_of g o j
theorem SgsAt.row {w : World} {y : Value} {L : List Sg} (h : SgsAt w y L) : ∃ cs, CellsOf w cs L ∧ RowAt w y L.length cs := by
  obtain ⟨A, c, rfl, hl, hc⟩ := h
  by_cases h0 : 0 < L.length
  · obtain ⟨b, off, rfl, hcs⟩ := hc h0
    have each : ∀ i, ∃ p : Value × Value, i < L.length → SigAt w p.1 (L.getD i zeroSg).one ∧ PathAt w p.2 (L.getD i zeroSg).path ∧ w.cell? ⟨b, off + i * 7 + 5, none⟩ = some p.1 ∧ w.cell? ⟨b, off + i * 7 + 6, none⟩ = some p.2 := fun i => by
      by_cases hi : i < L.length
      · obtain ⟨_, _, v, u, h1, h2, h3, h4⟩ := hcs i hi
        exact ⟨(v, u), fun _ => ⟨h3, h4, h1, h2⟩⟩
      · exact ⟨(undef, undef), fun h => absurd h hi⟩
    let f : Nat → Value × Value := fun i => Classical.choose (each i)
    have hf : ∀ i, i < L.length → SigAt w (f i).1 (L.getD i zeroSg).one ∧ PathAt w (f i).2 (L.getD i zeroSg).path ∧ w.cell? ⟨b, off + i * 7 + 5, none⟩ = some (f i).1 ∧ w.cell? ⟨b, off + i * 7 + 6, none⟩ = some (f i).2 := fun i => Classical.choose_spec (each i)
    generalize f = g at hf
    let cell : Nat → Value := fun k => [Value.int .u32 (L.getD (k / 7) zeroSg).b.a.toNat, .int .u32 (L.getD (k / 7) zeroSg).b.b.toNat, .int .u32 (L.getD (k / 7) zeroSg).b.c.toNat, .int .u32 (L.getD (k / 7) zeroSg).b.d.toNat, .int .i64 (L.getD (k / 7) zeroSg).i, (g (k / 7)).1, (g (k / 7)).2].getD (k % 7) undef
    have hcell : ∀ k, k < L.length * 7 → w.cell? ⟨b, off + k, none⟩ = some (cell k) ∧ (cell k).oneCell' = true := fun k hk => by
      have hi : k / 7 < L.length := by omega
      obtain ⟨⟨h0, h1, h2, h3⟩, h4, _⟩ := hcs (k / 7) hi
      obtain ⟨k1, k2, k5, k6⟩ := hf (k / 7) hi
      have hkk : off + k = off + k / 7 * 7 + k % 7 := by omega
      have hm : k % 7 < 7 := Nat.mod_lt _ (by decide)
      simp only [cell]
      rw [hkk]
      generalize k / 7 = i at *
      generalize k % 7 = j at *
      obtain ⟨A1, c1, e1⟩ := k1.shp
      obtain ⟨A2, c2, e2⟩ := k2.shp
      match j, hm with
      | 0, _ => exact ⟨h0, rfl⟩
      | 1, _ => exact ⟨h1, rfl⟩
      | 2, _ => exact ⟨h2, rfl⟩
      | 3, _ => exact ⟨h3, rfl⟩
      | 4, _ => exact ⟨h4, rfl⟩
      | 5, _ => exact ⟨k5, by show (g i).1.oneCell' = true; rw [e1]; rfl⟩
      | 6, _ => exact ⟨k6, by show (g i).2.oneCell' = true; rw [e2]; rfl⟩
    have hget : ∀ k, k < L.length * 7 → ((List.range (L.length * 7)).map cell)[k]? = some (cell k) := fun k hk => by
      rw [List.getElem?_map, List.getElem?_range hk]; rfl
    refine ⟨(List.range (L.length * 7)).map cell, ⟨by simp, fun u hu => ?_, fun i hi => ?_⟩, .inr ⟨⟨b, off, none⟩, c, rfl, by simp, fun j u hu => ?_⟩⟩
    · obtain ⟨k, hk, rfl⟩ := List.mem_map.1 hu
      exact (hcell k (List.mem_range.1 hk)).2
    · obtain ⟨k1, k2, _, _⟩ := hf i hi
      refine ⟨(g i).1, (g i).2, k1, k2, fun j hj => ?_⟩
      rw [hget (i * 7 + j) (by omega)]
      have e1 : (i * 7 + j) / 7 = i := by omega
      have e2 : (i * 7 + j) % 7 = j := by omega
      simp only [cell, e1, e2]
      match j, hj with
      | 0, _ => rfl
      | 1, _ => rfl
      | 2, _ => rfl
      | 3, _ => rfl
      | 4, _ => rfl
      | 5, _ => rfl
      | 6, _ => rfl
    · have hj : j < L.length * 7 := by
        have := (List.getElem?_eq_some_iff.1 hu).1; simpa using this
      rw [hget j hj] at hu
      cases hu
      rw [add_plain0]
      exact (hcell j hj).1
  · have hL : L = [] := List.eq_nil_of_length_eq_zero (by omega)
    subst hL
    refine ⟨[], CellsOf.nil w, ?_⟩
    cases A with
    | none => exact .inl ⟨c, rfl, rfl, rfl⟩
    | some a => exact .inr ⟨a, c, rfl, rfl, fun j u hu => by simp at hu⟩
theorem app_none (A : Option Addr) (n c c' : Nat) (ty : TypeId) (w : World) (h : n ≤ c) : (Builtin.append_ #[50, 50] ty #[.slice A n c, .slice none 0 c']).run Tryd.prog w = .ok (.slice A n c) w := by
  have h50 := Tryd.underlying50
  cases A with
  | none => simp [Builtin.append_, go_sem, h50, h, underlying, sizeOf]
  | some a => simp [Builtin.append_, go_sem, h50, h, underlying, sizeOf]
/-- An append of signed messages to a row of the call's own. -/
theorem app_any {w : World} {B n k : Nat} {v y : Value} {xs cs : List Value} (ty : TypeId) (hown : w.ownsRow B 59 7 v n xs) (hy : RowAt w y k cs) (h1 : ∀ u ∈ cs, u.oneCell' = true) (hnk : n + k ≤ 100000) (hB : B ≤ w.heap.size) :
    ∃ v' w', (Builtin.append_ #[50, 50] ty #[v, y]).run Tryd.prog w = .ok v' w' ∧ w'.ownsRow B 59 7 v' (n + k) (xs ++ cs) ∧ Below B w w' := by
  rcases hy with ⟨c', rfl, rfl, rfl⟩ | ⟨a, c, rfl, hl, hc⟩
  · obtain ⟨A, c, e, hnc⟩ : ∃ A c, v = .slice A n c ∧ n ≤ c := by
      rcases hown.2 with ⟨rfl, h0⟩ | ⟨g, cap, cur, rfl, hb, hh, h1, h2, _⟩
      · exact ⟨none, 0, by rw [h0], by omega⟩
      · exact ⟨_, _, rfl, h1⟩
    subst e
    exact ⟨_, _, app_none A n c c' ty w hnc, by simpa using hown, Below.refl _ _⟩
  · obtain ⟨j0, hj, hy0, hy1, hy2⟩ := info_parts Tryd.info59
    obtain ⟨v', w', hr, h2, h3, _⟩ := run_append_own_at (P := Tryd.prog) (w := w) B 50 ty 59 j0 _ 7 72 Tryd.underlying50 hj hy0 hy1 hy2 rfl (by decide) v n xs hown a k c cs hl hc h1 (by unfold maxLen; omega) (by omega) hB
    exact ⟨v', w', hr, h2, (Below.refl B w).grown h3 hB (fun q hq => (own_lt hown q hq).1)⟩
theorem gives_append {P : Program} {K : Value → World → Prop} {ev : Operand → Value} {o : Oper} {w w' : World} {v y v' : Value} (s x : Operand) (t : TypeId) (ho : o.op = .call { callee := .builtin .append, args := #[s, x], argTypes := #[t, t] }) (hs : ev s = v) (hx : ev x = y)
    (hr : (Builtin.append_ #[t, t] o.type #[v, y]).run P w = .ok v' w') (hk : K v' w') : GivesK P K ((execOp ev o).run P w) := by
  unfold execOp
  simp only [ho, resolve, invoke, builtin, Sem.run_bind, Sem.run_pure, Result.andThen_ok, List.map_toArray, List.map_cons, List.map_nil, hs, hx, hr]
  exact hk
end Go.Proofs.YtpodfmnnabepaaaDoor

namespace Go.Proofs.YtpodfmnnabepaaaDoor
open Go.RowKit
open Ot (Dg)
/-- Each twice, the last ones first. -/
def turn2 (L : List Sg) (k : Nat) : List Sg := (L.drop k).reverse.flatMap fun s => [s, s]
theorem turn2_end (L : List Sg) : turn2 L L.length = [] := by simp [turn2]
theorem turn2_step (L : List Sg) (j : Nat) (h : j < L.length) : turn2 L j = turn2 L (j + 1) ++ [L.getD j zeroSg, L.getD j zeroSg] := by
  unfold turn2
  rw [List.drop_eq_getElem_cons h, List.reverse_cons, List.flatMap_append]
  simp [List.getD_eq_getElem?_getD, List.getElem?_eq_getElem h]
theorem turn2_any (L : List Sg) (p : Sg → Bool) : (turn2 L 0).any p = L.any p := by
  rw [Bool.eq_iff_iff, List.any_eq_true, List.any_eq_true]
  simp only [turn2, List.drop_zero, List.mem_flatMap, List.mem_reverse]
  constructor
  · rintro ⟨x, ⟨y, hy, hx⟩, hp⟩
    simp at hx
    subst hx; exact ⟨x, hy, hp⟩
  · rintro ⟨x, hx, hp⟩
    exact ⟨x, ⟨x, hx, by simp⟩, hp⟩
theorem whoN_turn (bs : List Dg) (m : Dg) (L : List Sg) : whoN bs m (turn2 L 0) = whoN bs m L :=
  Qu.places_congr fun _ _ => turn2_any L _
theorem turn2_length (L : List Sg) (k : Nat) : (turn2 L k).length = 2 * (L.length - k) := by
  unfold turn2
  have : ∀ l : List Sg, (l.flatMap fun s => [s, s]).length = 2 * l.length := fun l => by induction l with
    | nil => rfl
    | cons a l ih => simp [ih]; omega
  rw [this]; simp
/-- The seven cells. -/
def c7 (s : Sg) (v u : Value) : List Value := [.int .u32 s.b.a.toNat, .int .u32 s.b.b.toNat, .int .u32 s.b.c.toNat, .int .u32 s.b.d.toNat, .int .i64 s.i, v, u]
theorem c7_one {w : World} {g o : Nat} {s : Sg} {v u : Value} (h : SgU w g o s v u) : CellsOf w (c7 s v u) [s] := by
  obtain ⟨_, _, _, _, h5, h6⟩ := h
  refine ⟨rfl, fun x hx => ?_, fun i hi => ?_⟩
  · obtain ⟨A1, n1, rfl⟩ := h5.shp
    obtain ⟨A2, n2, rfl⟩ := h6.shp
    simp only [c7, List.mem_cons, List.not_mem_nil, or_false] at hx
    rcases hx with rfl | rfl | rfl | rfl | rfl | rfl | rfl <;> rfl
  · obtain rfl : i = 0 := by simp at hi; omega
    exact ⟨v, u, h5, h6, fun j _ => by simp [c7]⟩
theorem c7_two {w : World} {g o : Nat} {s : Sg} {v u : Value} (h : SgU w g o s v u) : CellsOf w (c7 s v u ++ c7 s v u) [s, s] := (c7_one h).append (c7_one h)
theorem own_empty (w : World) (B : Nat) (hB : B ≤ w.heap.size) : (w.alloc (.cells #[] 59)).ownsRow B 59 7 (.slice (some ⟨w.heap.size, 0, none⟩) 0 0) 0 [] :=
  ⟨rfl, .inr ⟨w.heap.size, 0, #[], rfl, hB, by simp [World.alloc, -World.alloc_eq], Nat.le_refl _, by unfold maxLen; omega, rfl, rfl⟩⟩
/-- An invariant of a region: an order, a frame, and what each value is. -/
structure InvR (n : Nat) (Ord : (Nat → Bool) → Prop) (W : World) (F : (Nat → Bool) → Nat → Value → World → Prop) (L : Nat → Bool) (us : Nat → Value) (w : World) : Prop where
  ord : Ord L
  hb : Below W.heap.size W w
  hF : ∀ j, j < n → L j = true → F L j (us j) w
theorem InvR.set {n : Nat} {Ord : (Nat → Bool) → Prop} {W : World} {F : (Nat → Bool) → Nat → Value → World → Prop} {L : Nat → Bool} {us : Nat → Value} {w : World} (h : InvR n Ord W F L us w) {i : Nat} {v : Value} {w' : World} (ho : Ord (setL L i)) (hb : Below W.heap.size W w') (hi : F (setL L i) i v w')
    (hk : ∀ j u, j < n → j ≠ i → L j = true → F L j u w → F (setL L i) j u w') : InvR n Ord W F (setL L i) (updV us i v) w' := by
  refine ⟨ho, hb, fun j hj hL => ?_⟩
  by_cases e : j = i
  · subst e; simpa [updV] using hi
  · have hL' : L j = true := by simpa [setL, e] using hL
    simpa [updV, e] using hk j (us j) hj e hL' (h.hF j hj hL')
def Ord9 (L : Nat → Bool) : Prop := (L 6 = true → L 4 = true) ∧ (L 9 = true → L 6 = true) ∧ (L 10 = true → L 9 = true)
def F9 (P : Nat) (pv : Value) (m : Dg) (lv mv : Value) (B nM : Nat) (csM : List Value) (nA : Nat) (csA : List Value) (lc : List Nat) (L : Nat → Bool) : Nat → Value → World → Prop
  | 0, v, _ => v = .pointer (some ⟨P, 0, none⟩)
  | 1, v, _ => v = pv
  | 2, v, _ => v = .pointer (some ⟨P, 2, none⟩)
  | 3, v, _ => v = dgv m
  | 4, v, w => L 6 = true ∨ w.ownsRow B 59 7 v 0 []
  | 5, v, _ => v = mv
  | 6, v, w => L 9 = true ∨ w.ownsRow B 59 7 v nM csM
  | 7, v, _ => v = .pointer (some ⟨P, 6, none⟩)
  | 8, v, _ => v = lv
  | 9, v, w => w.ownsRow B 59 7 v nA csA
  | 10, v, w => IntsAt w v lc
  | _, _, _ => True
theorem F9.keep {P : Nat} {pv : Value} {m : Dg} {lv mv : Value} {B nM : Nat} {csM : List Value} {nA : Nat} {csA : List Value} {lc : List Nat} {L L' : Nat → Bool} : ∀ {j : Nat} {v : Value} {w w' : World}, F9 P pv m lv mv B nM csM nA csA lc L j v w → Below w.heap.size w w' → (L 6 = true → L' 6 = true) → (L 9 = true → L' 9 = true) → F9 P pv m lv mv B nM csM nA csA lc L' j v w'
  | 0, _, _, _, h, _, _, _ => h
  | 1, _, _, _, h, _, _, _ => h
  | 2, _, _, _, h, _, _, _ => h
  | 3, _, _, _, h, _, _, _ => h
  | 4, _, _, _, h, hb, h6, _ => h.elim (fun h => .inl (h6 h)) fun h => .inr (own_keep h hb)
  | 5, _, _, _, h, _, _, _ => h
  | 6, _, _, _, h, hb, _, h9 => h.elim (fun h => .inl (h9 h)) fun h => .inr (own_keep h hb)
  | 7, _, _, _, h, _, _, _ => h
  | 8, _, _, _, h, _, _, _ => h
  | 9, _, _, _, h, hb, _, _ => own_keep h hb
  | 10, _, _, _, h, hb, _, _ => IntsAt.keep h hb
  | _ + 11, _, _, _, _, _, _, _ => trivial
def Ord18 (L : Nat → Bool) : Prop := (L 24 = true → L 21 = true) ∧ (L 26 = true → L 24 = true) ∧ (L 27 = true → L 26 = true)
def F18 (P : Nat) (pv : Value) (m : Dg) (lv mv av : Value) (nl B nL : Nat) (csL : List Value) (nA : Nat) (csA : List Value) (L : Nat → Bool) : Nat → Value → World → Prop
  | 0, v, _ => v = .bool true
  | 1, v, _ => v = .bool true
  | 2, v, _ => v = .int .i64 (nl : Int)
  | 3, v, _ => v = av
  | 4, v, _ => v = .int .i64 (nl : Int)
  | 5, v, _ => v = .bool true
  | 6, v, _ => v = .bool true
  | 7, v, _ => v = .bool true
  | 8, v, _ => v = .pointer (some ⟨P, 0, none⟩)
  | 9, v, _ => v = pv
  | 10, v, _ => v = .pointer (some ⟨P, 2, none⟩)
  | 11, v, _ => v = dgv m
  | 12, v, _ => v = .pointer (some ⟨P, 6, none⟩)
  | 13, v, _ => v = lv
  | 14, v, _ => v = .bool true
  | 15, v, _ => v = .bool false
  | 16, v, _ => v = .bool false
  | 17, v, _ => v = .pointer (some ⟨P, 0, none⟩)
  | 18, v, _ => v = pv
  | 19, v, _ => v = .pointer (some ⟨P, 2, none⟩)
  | 20, v, _ => v = dgv m
  | 21, v, w => L 24 = true ∨ w.ownsRow B 59 7 v 0 []
  | 22, v, _ => v = .pointer (some ⟨P, 6, none⟩)
  | 23, v, _ => v = lv
  | 24, v, w => L 26 = true ∨ w.ownsRow B 59 7 v nL csL
  | 25, v, _ => v = mv
  | 26, v, w => L 27 = true ∨ w.ownsRow B 59 7 v nA csA
  | 27, v, _ => v = .bool true
  | 28, v, _ => v = .bool true
  | _, _, _ => True
theorem F18.keep {P : Nat} {pv : Value} {m : Dg} {lv mv av : Value} {nl B nL : Nat} {csL : List Value} {nA : Nat} {csA : List Value} {L L' : Nat → Bool} : ∀ {j : Nat} {v : Value} {w w' : World}, F18 P pv m lv mv av nl B nL csL nA csA L j v w → Below w.heap.size w w' → (L 24 = true → L' 24 = true) → (L 26 = true → L' 26 = true) → (L 27 = true → L' 27 = true) → F18 P pv m lv mv av nl B nL csL nA csA L' j v w'
  | 0, _, _, _, h, _, _, _, _ => h
  | 1, _, _, _, h, _, _, _, _ => h
  | 2, _, _, _, h, _, _, _, _ => h
  | 3, _, _, _, h, _, _, _, _ => h
  | 4, _, _, _, h, _, _, _, _ => h
  | 5, _, _, _, h, _, _, _, _ => h
  | 6, _, _, _, h, _, _, _, _ => h
  | 7, _, _, _, h, _, _, _, _ => h
  | 8, _, _, _, h, _, _, _, _ => h
  | 9, _, _, _, h, _, _, _, _ => h
  | 10, _, _, _, h, _, _, _, _ => h
  | 11, _, _, _, h, _, _, _, _ => h
  | 12, _, _, _, h, _, _, _, _ => h
  | 13, _, _, _, h, _, _, _, _ => h
  | 14, _, _, _, h, _, _, _, _ => h
  | 15, _, _, _, h, _, _, _, _ => h
  | 16, _, _, _, h, _, _, _, _ => h
  | 17, _, _, _, h, _, _, _, _ => h
  | 18, _, _, _, h, _, _, _, _ => h
  | 19, _, _, _, h, _, _, _, _ => h
  | 20, _, _, _, h, _, _, _, _ => h
  | 21, _, _, _, h, hb, h1, _, _ => h.elim (fun h => .inl (h1 h)) fun h => .inr (own_keep h hb)
  | 22, _, _, _, h, _, _, _, _ => h
  | 23, _, _, _, h, _, _, _, _ => h
  | 24, _, _, _, h, hb, _, h2, _ => h.elim (fun h => .inl (h2 h)) fun h => .inr (own_keep h hb)
  | 25, _, _, _, h, _, _, _, _ => h
  | 26, _, _, _, h, hb, _, _, h3 => h.elim (fun h => .inl (h3 h)) fun h => .inr (own_keep h hb)
  | 27, _, _, _, h, _, _, _, _ => h
  | 28, _, _, _, h, _, _, _, _ => h
  | _ + 29, _, _, _, _, _, _, _, _ => trivial
set_option maxRecDepth 100000 in
set_option maxHeartbeats 16000000 in
theorem lmore_any (bs : List Dg) (need : Int) (m : Dg) (L : List Sg) (bv lv : Value) (M : List Sg) (mv : Value) (w : World) (ht : Tn w) (hbs : SigAt w bv bs) (hcap : Capd bv) (hv : SgsAt w lv L) (_ : Capd lv) (_ : -9223372036854775808 ≤ need) (_ : need ≤ 9223372036854775807) (hmv : SgsAt w mv M) (_ : Capd mv) :
    Calls Tryd.prog 13 #[qaskV bv need m lv, mv] w fun e w' => e = .returned (.bool true) ∧ Below w.heap.size w w' := by
  have hA0 := AskB.new (need := need) (m := m) ht hbs hv
  obtain ⟨A, c, rfl, hlen, _⟩ := id hbs
  obtain ⟨B, d, rfl, hlL, _⟩ := id hv
  obtain ⟨E, f, rfl, hlM, _⟩ := id hmv
  have hba : Below w.heap.size w (w.alloc (.cells #[.slice A bs.length c, .int .i64 need, .int .u32 m.a.toNat, .int .u32 m.b.toNat, .int .u32 m.c.toNat, .int .u32 m.d.toNat, .slice B L.length d] 52)) := (Below.refl _ _).alloc (Nat.le_refl _) _
  have hmv1 := hmv.keep hba
  generalize hW : w.alloc (.cells #[.slice A bs.length c, .int .i64 need, .int .u32 m.a.toNat, .int .u32 m.b.toNat, .int .u32 m.c.toNat, .int .u32 m.d.toNat, .slice B L.length d] 52) = W at *
  have Hb0 := Lib.hid hba; have HA0 := Lib.hid hA0; have HM0 := Lib.hid hmv1
  have hA1 := hA0
  clear hA0 hbs hv ht hmv hmv1 hba
  unfold qaskV
  obtain ⟨c0, c1, c2, c3, c4, c5, c6, _, _, _⟩ := hA1
  have hsm := small_any bs need m L (.slice A bs.length c) (.slice B L.length d) W HA0.out.hbs HA0.out.hL
  unfold qaskV at hsm
  have Hsm := Lib.hid hsm; clear hsm
  go_enter Tryd.func13, Tryd.ntmps13
  go_wp2_with fail
  clear c0 c1 c2 c3 c4 c5 c6 hW
  refine Hsm.out.mono ?_
  rintro e w1 ⟨r, rfl, hr, hb1⟩
  have HA1 := Lib.hid (HA0.out.keep hb1)
  have Hb1 := Lib.hid (Hb0.out.trans (hb1.mono Hb0.out.size))
  have HM1 := Lib.hid (HM0.out.keep hb1)
  clear HA0 Hb0 hb1 HM0 Hsm
  cases r with
  | false =>
    go_wp2_with fail
    refine (qawake_any _ HA1.out.ht).mono ?_
    rintro e w2 ⟨rfl, hb2⟩
    go_wp2_with fail
    exact bodyPost_ret (v := .bool true) (by simp [results, Tryd.results13, go_sem]) rfl ⟨rfl, Hb1.out.trans (hb2.mono Hb1.out.size)⟩
  | true =>
    obtain ⟨hb8, hL8⟩ := hr rfl
    clear hr
    go_wp2_with fail
    have hsm2 := small_any [] 0 Ot.zeroD M (.slice none 0 0) (.slice E M.length f) w1 (SigAt_nil _) HM1.out
    refine Calls.mono hsm2 ?_
    rintro e w2 ⟨r, rfl, hr, hb2⟩
    have HA2 := Lib.hid (HA1.out.keep hb2)
    have Hb2 := Lib.hid (Hb1.out.trans (hb2.mono Hb1.out.size))
    have HM2 := Lib.hid (HM1.out.keep hb2)
    clear HA1 Hb1 hb2 HM1 hsm2
    cases r with
    | false =>
      go_wp2_with fail
      refine (qawake_any _ HA2.out.ht).mono ?_
      rintro e w3 ⟨rfl, hb3⟩
      go_wp2_with fail
      exact bodyPost_ret (v := .bool true) (by simp [results, Tryd.results13, go_sem]) rfl ⟨rfl, Hb2.out.trans (hb3.mono Hb2.out.size)⟩
    | true =>
      obtain ⟨_, hM8⟩ := hr rfl
      clear hr
      obtain ⟨j0, hj, hy0, hy1, hy2⟩ := info_parts Tryd.info59
      obtain ⟨csL, hcL, hrL⟩ := HA2.out.hL.row
      obtain ⟨csM, hcM, hrM⟩ := HM2.out.row
      obtain ⟨c0, c1, c2, c3, c4, c5, c6, _, _, _⟩ := HA2.out
      have hwl : IntKind.i64.wrap ((L.length : Int) - 1) = (L.length : Int) - 1 := IntWalk.i64_in _ (by omega)
      have HcL := Lib.hid hcL; have HrL := Lib.hid hrL; have HcM := Lib.hid hcM; have HrM := Lib.hid hrM
      clear hcL hrL hcM hrM hlen hlL hlM
      go_wp2_with fail
      clear c0 c1 c2 c3 c4 c5 c6
      go_loopw [5, 6] (fun tv i wr => ∃ (k : Nat) (cs : List Value), k ≤ L.length ∧ i = .int .i64 ((k : Int) - 1) ∧ wr.ownsRow w2.heap.size 59 7 tv (turn2 L k).length cs ∧ CellsOf w2 cs (turn2 L k) ∧ Below w2.heap.size w2 wr) (fun _ i _ => (intOf i + 1).toNat)
      case atStart => exact ⟨L.length, [], by omega, rfl, by rw [turn2_end]; exact World.ownsRow_nil _ _ _ _, by rw [turn2_end]; exact CellsOf.nil _, Below.refl _ _⟩
      case round =>
        obtain ⟨k, cs, hk, rfl, hown, hcs, hbr⟩ := hrel
        by_cases hk0 : 0 < k
        · obtain ⟨jj, rfl⟩ : ∃ jj, k = jj + 1 := ⟨k - 1, by omega⟩
          have hjj : ((jj + 1 : Nat) : Int) - 1 = (jj : Int) := by omega
          rw [hjj]
          have hjl : jj < L.length := by omega
          have hd0 : decide ((0 : Int) ≤ (jj : Int)) = true := decide_eq_true (by omega)
          have hj0 : (0 : Int) ≤ (jj : Int) := by omega
          have hj1 : (jj : Int) < L.length := by omega
          have q1 : IntKind.i64.wrap ((jj : Int) - 1) = (jj : Int) - 1 := IntWalk.i64_in _ (by omega)
          have hA := HA2.out.keep hbr
          obtain ⟨B', d', e, _, hcg⟩ := hA.hL
          cases e
          obtain ⟨g, o, rfl, hc⟩ := hcg (by omega)
          obtain ⟨v5, u6, hsg⟩ := (hc jj hjl).named
          have htt := turn2_step L jj hjl
          have hsgW : ∃ v u, SgU w2 g (o + jj * 7) (L.getD jj zeroSg) v u := by
            obtain ⟨B'', d'', e'', _, hcg2⟩ := HA2.out.hL
            cases e''
            obtain ⟨g', o', e3, hc2⟩ := hcg2 (by omega)
            cases e3
            exact (hc2 jj hjl).named
          obtain ⟨v5', u6', hsgW⟩ := hsgW
          have hsg2 := hsgW.keep hbr
          obtain rfl : v5' = v5 := by have := hsg2.2.2.1.symm.trans hsg.2.2.1; simpa using this
          obtain rfl : u6' = u6 := by have := hsg2.2.2.2.1.symm.trans hsg.2.2.2.1; simpa using this
          clear hsg2
          generalize L.getD jj zeroSg = s at *
          have hcells := c7_two hsgW
          have HS := Lib.hid (show AskB wr.drew w.heap.size bs need m L (.slice A bs.length c) (.slice (some ⟨g, o, none⟩) L.length d) ∧ wr.drew.ownsRow w2.heap.size 59 7 u5 (turn2 L (jj + 1)).length cs ∧ SgU wr.drew g (o + jj * 7) s v5' u6' ∧ Below w2.heap.size w2 wr.drew from ⟨hA.drewn, own_keep hown (Below.refl _ _).drew, hsg.keep (Below.refl _ _).drew, hbr.drew⟩)
          have Htt := Lib.hid htt; have Hcells := Lib.hid hcells; have Hcs := Lib.hid hcs; have HbrD := Lib.hid hbr
          clear htt hcells hcs hsg hsgW hA hcg hc hown hbr hk hk0 hjj
          go_upto_region 7 with fail
          refine wp_region_inv (fun wx => AskB wx w.heap.size bs need m L (.slice A bs.length c) (.slice (some ⟨g, o, none⟩) L.length d) ∧ wx.ownsRow w2.heap.size 59 7 u5 (turn2 L (jj + 1)).length cs ∧ SgU wx g (o + jj * 7) s v5' u6' ∧ Below w2.heap.size w2 wx) (fun j v w' => match j with | 0 => v = u5 | 1 => v = (.pointer (some ⟨w.heap.size, 6, none⟩)) | 2 => v = (.slice (some ⟨g, o, none⟩) L.length d) | 3 => v = (.int .i64 (jj : Int)) | 4 => v = (.pointer (some ⟨g, o + jj * 7, none⟩)) | 5 => v = sgdV s.b s.i v5' u6' | 6 => v = (.pointer (some ⟨w.heap.size, 6, none⟩)) | 7 => v = (.slice (some ⟨g, o, none⟩) L.length d) | 8 => v = (.int .i64 (jj : Int)) | 9 => v = (.pointer (some ⟨g, o + jj * 7, none⟩)) | 10 => v = sgdV s.b s.i v5' u6' | 11 => ∃ blk, v = .slice (some ⟨blk, 0, none⟩) 2 2 ∧ ∀ i x, (c7 s v5' u6' ++ c7 s v5' u6')[i]? = some x → w'.cell? ⟨blk, i, none⟩ = some x | _ => True) 12 (by kernel_rfl) (by kernel_rfl) HS.out (fun _ _ h hb => ⟨h.1.keep hb, own_keep h.2.1 hb, h.2.2.1.keep hb, h.2.2.2.trans (hb.mono h.2.2.2.size)⟩) ?_ ?_ ?_
          · rintro (_|_|_|_|_|_|_|_|_|_|_|_|j) v w1 w2 hb h
            all_goals first | exact h | (obtain ⟨blk, rfl, hc⟩ := h; exact ⟨blk, rfl, fun i x hi => cell_keep (hc i x hi) hb⟩)
          · refine ⟨fun us wx hx hd => ?_, fun us wx hx hd => ?_, fun us wx hx hd => ?_, fun us wx hx hd => ?_, fun us wx hx hd => ?_, fun us wx hx hd => ?_, fun us wx hx hd => ?_, fun us wx hx hd => ?_, fun us wx hx hd => ?_, fun us wx hx hd => ?_, fun us wx hx hd => ?_, fun us wx hx hd => ?_, trivial⟩
            all_goals simp only [putAll, dstOf, List.getElem?_toArray, List.getElem?_cons_succ, List.getElem?_cons_zero, Option.bind_some]
            all_goals go_frame
            · have HX := Lib.hid hx; clear hx
              go_simp
              first | exact Below.refl _ _ | exact ⟨rfl, Below.refl _ _⟩ | exact ⟨by and_intros <;> rfl, Below.refl _ _⟩ | exact ⟨by first | rfl | (congr 1; omega) | omega, Below.refl _ _⟩
            · have HX := Lib.hid hx; clear hx
              go_simp
              first | exact Below.refl _ _ | exact ⟨rfl, Below.refl _ _⟩ | exact ⟨by and_intros <;> rfl, Below.refl _ _⟩ | exact ⟨by first | rfl | (congr 1; omega) | omega, Below.refl _ _⟩
            · rw [show us 1 = (.pointer (some ⟨w.heap.size, 6, none⟩)) from hd 1 rfl]
              have c6 := hx.1.c6
              have HX := Lib.hid hx; clear hx
              go_simp
              first | exact Below.refl _ _ | exact ⟨rfl, Below.refl _ _⟩ | exact ⟨by and_intros <;> rfl, Below.refl _ _⟩ | exact ⟨by first | rfl | (congr 1; omega) | omega, Below.refl _ _⟩
            · have HX := Lib.hid hx; clear hx
              go_simp
              first | exact Below.refl _ _ | exact ⟨rfl, Below.refl _ _⟩ | exact ⟨by and_intros <;> rfl, Below.refl _ _⟩ | exact ⟨by first | rfl | (congr 1; omega) | omega, Below.refl _ _⟩
            · rw [show us 2 = (.slice (some ⟨g, o, none⟩) L.length d) from hd 2 rfl, show us 3 = (.int .i64 (jj : Int)) from hd 3 rfl]
              have HX := Lib.hid hx; clear hx
              go_simp
              first | exact Below.refl _ _ | exact ⟨rfl, Below.refl _ _⟩ | exact ⟨by and_intros <;> rfl, Below.refl _ _⟩ | exact ⟨by first | rfl | (congr 1; omega) | omega, Below.refl _ _⟩
            · rw [show us 4 = (.pointer (some ⟨g, o + jj * 7, none⟩)) from hd 4 rfl]
              obtain ⟨⟨c0, c1, c2, c3⟩, c4, c5, c6, _, _⟩ := hx.2.2.1
              unfold sgdV
              have HX := Lib.hid hx; clear hx
              go_simp
              first | exact Below.refl _ _ | exact ⟨rfl, Below.refl _ _⟩ | exact ⟨by and_intros <;> rfl, Below.refl _ _⟩ | exact ⟨by first | rfl | (congr 1; omega) | omega, Below.refl _ _⟩
            · have HX := Lib.hid hx; clear hx
              go_simp
              first | exact Below.refl _ _ | exact ⟨rfl, Below.refl _ _⟩ | exact ⟨by and_intros <;> rfl, Below.refl _ _⟩ | exact ⟨by first | rfl | (congr 1; omega) | omega, Below.refl _ _⟩
            · rw [show us 6 = (.pointer (some ⟨w.heap.size, 6, none⟩)) from hd 6 rfl]
              have c6 := hx.1.c6
              have HX := Lib.hid hx; clear hx
              go_simp
              first | exact Below.refl _ _ | exact ⟨rfl, Below.refl _ _⟩ | exact ⟨by and_intros <;> rfl, Below.refl _ _⟩ | exact ⟨by first | rfl | (congr 1; omega) | omega, Below.refl _ _⟩
            · have HX := Lib.hid hx; clear hx
              go_simp
              first | exact Below.refl _ _ | exact ⟨rfl, Below.refl _ _⟩ | exact ⟨by and_intros <;> rfl, Below.refl _ _⟩ | exact ⟨by first | rfl | (congr 1; omega) | omega, Below.refl _ _⟩
            · rw [show us 7 = (.slice (some ⟨g, o, none⟩) L.length d) from hd 7 rfl, show us 8 = (.int .i64 (jj : Int)) from hd 8 rfl]
              have HX := Lib.hid hx; clear hx
              go_simp
              first | exact Below.refl _ _ | exact ⟨rfl, Below.refl _ _⟩ | exact ⟨by and_intros <;> rfl, Below.refl _ _⟩ | exact ⟨by first | rfl | (congr 1; omega) | omega, Below.refl _ _⟩
            · rw [show us 9 = (.pointer (some ⟨g, o + jj * 7, none⟩)) from hd 9 rfl]
              obtain ⟨⟨c0, c1, c2, c3⟩, c4, c5, c6, _, _⟩ := hx.2.2.1
              unfold sgdV
              have HX := Lib.hid hx; clear hx
              go_simp
              first | exact Below.refl _ _ | exact ⟨rfl, Below.refl _ _⟩ | exact ⟨by and_intros <;> rfl, Below.refl _ _⟩ | exact ⟨by first | rfl | (congr 1; omega) | omega, Below.refl _ _⟩
            · rw [show us 5 = sgdV s.b s.i v5' u6' from hd 5 rfl, show us 10 = sgdV s.b s.i v5' u6' from hd 10 rfl]
              obtain ⟨A5, n5, hv5'⟩ := hx.2.2.1.2.2.2.2.1.shp
              obtain ⟨A6, n6, hu6'⟩ := hx.2.2.1.2.2.2.2.2.shp
              unfold sgdV
              rw [hv5', hu6']
              go_simp
              exact ⟨fun i x hi => by simpa [c7] using hi, (Below.refl _ _).alloc (Nat.le_refl _) _⟩
          rintro us W1 ⟨_, hown1, _, hb1⟩ hF
          have e0 : us 0 = u5 := hF 0 (by decide)
          obtain ⟨blk, e11, hc11⟩ := (hF 11 (by decide) : ∃ blk, us 11 = .slice (some ⟨blk, 0, none⟩) 2 2 ∧ ∀ i x, (c7 s v5' u6' ++ c7 s v5' u6')[i]? = some x → W1.cell? ⟨blk, i, none⟩ = some x)
          simp only [putAll, dstOf, List.getElem?_toArray, List.getElem?_cons_succ, List.getElem?_cons_zero, Option.bind_some, List.drop_succ_cons, List.drop_zero]
          rw [e0, e11]
          clear hF e0 e11
          have hlt2 := turn2_length L (jj + 1)
          have hlt3 := turn2_length L jj
          have Hc11 := Lib.hid hc11
          clear hc11
          go_frame
          go_wp2_with (at_builtin; refine wpList_append_own _ rfl _ _ 50 rfl w2.heap.size 59 j0 (.agg #[.int .u32 0, .int .u32 0, .int .u32 0, .int .u32 0, .int .i64 0, .slice none 0 0, .slice none 0 0]) 7 72 Tryd.underlying50 hj hy0 hy1 hy2 rfl (by decide) _ _ _ rfl hown1 ⟨blk, 0, none⟩ 2 2 (c7 s v5' u6' ++ c7 s v5' u6') rfl rfl ?c1 ?c2 ?c3 ?c4 ?c5 ?_)
          case c1 => intro i x hi; rw [add_at]; exact Hc11.out i x hi
          case c2 => exact Hcells.out.2.1
          case c3 => unfold maxLen; omega
          case c4 => omega
          case c5 => exact hb1.size
          intro v' w3 hown3 hg3 _
          have hb3 : Below w2.heap.size w2 w3 := hb1.grown hg3 hb1.size (fun q hq => (own_lt hown1 q hq).1)
          clear hg3 hown1
          go_wp2_with fail
          refine ⟨⟨jj, cs ++ (c7 s v5' u6' ++ c7 s v5' u6'), by omega, rfl, ?_, ?_, hb3⟩, ?_⟩
          · rw [hlt3, show 2 * (L.length - jj) = 2 * (L.length - (jj + 1)) + 2 by omega]; exact hown3
          · rw [Htt.out]; exact Hcs.out.append Hcells.out
          · first | omega | (simp [intOf]; omega) | simp [intOf]
        · obtain rfl : k = 0 := by omega
          have hd0 : decide ((0 : Int) ≤ -1) = false := by decide
          have hz0 : ((0 : Nat) : Int) - 1 = -1 := by decide
          rw [hz0]
          have hT := own_sgs hown (hcs.keep hbr)
          have HA3 := Lib.hid (HA2.out.keep hbr)
          have HM3 := Lib.hid (HM2.out.keep hbr)
          obtain ⟨T, tc, hte, _, _⟩ := id hT
          subst hte
          have HT := Lib.hid hT
          have hwt := whoN_turn bs m L
          have Hwt := Lib.hid hwt
          have HbrD := Lib.hid hbr
          clear hT hwt hown hcs hbr hk hk0 hz0
          generalize turn2 L 0 = TL at *
          go_upto_region 8 with fail
          refine wp_region_inv (fun wx => AskB wx w.heap.size bs need m L (.slice A bs.length c) (.slice B L.length d) ∧ SgsAt wx (.slice T TL.length tc) TL ∧ Below w2.heap.size w2 wx) (fun j v w' => match j with | 0 => v = .pointer (some ⟨w.heap.size, 0, none⟩) | 1 => v = polV (.slice A bs.length c) need | 2 => v = .pointer (some ⟨w.heap.size, 2, none⟩) | 3 => v = dgv m | 4 => v = .pointer (some ⟨w.heap.size, 6, none⟩) | 5 => v = (.slice B L.length d) | 6 => IntsAt w' v (whoN bs m L) | 7 => v = .pointer (some ⟨w.heap.size, 0, none⟩) | 8 => v = polV (.slice A bs.length c) need | 9 => v = .pointer (some ⟨w.heap.size, 2, none⟩) | 10 => v = dgv m | 11 => v = (.slice T TL.length tc) | 12 => IntsAt w' v (whoN bs m L) | _ => True) 13 (by kernel_rfl) (by kernel_rfl) ⟨HA3.out.drewn, HT.out.keep (Below.refl _ _).drew, HbrD.out.drew⟩ (fun _ _ h hb => ⟨h.1.keep hb, h.2.1.keep hb, h.2.2.trans (hb.mono h.2.2.size)⟩) ?_ ?_ ?_
          · rintro (_|_|_|_|_|_|_|_|_|_|_|_|_|j) v w1 w2 hb h
            all_goals first | exact h | exact IntsAt.keep h hb
          · refine ⟨fun us wx hx hd => ?_, fun us wx hx hd => ?_, fun us wx hx hd => ?_, fun us wx hx hd => ?_, fun us wx hx hd => ?_, fun us wx hx hd => ?_, fun us wx hx hd => ?_, fun us wx hx hd => ?_, fun us wx hx hd => ?_, fun us wx hx hd => ?_, fun us wx hx hd => ?_, fun us wx hx hd => ?_, fun us wx hx hd => ?_, trivial⟩
            all_goals simp only [putAll, dstOf, List.getElem?_toArray, List.getElem?_cons_succ, List.getElem?_cons_zero, Option.bind_some]
            all_goals go_frame
            · have HX := Lib.hid hx; clear hx
              go_simp
              first | exact Below.refl _ _ | exact ⟨rfl, Below.refl _ _⟩ | exact ⟨by and_intros <;> rfl, Below.refl _ _⟩ | exact ⟨by first | rfl | (congr 1; omega) | omega, Below.refl _ _⟩
            · rw [show us 0 = .pointer (some ⟨w.heap.size, 0, none⟩) from hd 0 rfl]
              have c0 := hx.1.c0
              have c1 := hx.1.c1
              unfold polV
              have HX := Lib.hid hx; clear hx
              go_simp
              first | exact Below.refl _ _ | exact ⟨rfl, Below.refl _ _⟩ | exact ⟨by and_intros <;> rfl, Below.refl _ _⟩ | exact ⟨by first | rfl | (congr 1; omega) | omega, Below.refl _ _⟩
            · have HX := Lib.hid hx; clear hx
              go_simp
              first | exact Below.refl _ _ | exact ⟨rfl, Below.refl _ _⟩ | exact ⟨by and_intros <;> rfl, Below.refl _ _⟩ | exact ⟨by first | rfl | (congr 1; omega) | omega, Below.refl _ _⟩
            · rw [show us 2 = .pointer (some ⟨w.heap.size, 2, none⟩) from hd 2 rfl]
              have c2 := hx.1.c2
              have c3 := hx.1.c3
              have c4 := hx.1.c4
              have c5 := hx.1.c5
              have HX := Lib.hid hx; clear hx
              go_simp
              first | exact Below.refl _ _ | exact ⟨rfl, Below.refl _ _⟩ | exact ⟨by and_intros <;> rfl, Below.refl _ _⟩ | exact ⟨by first | rfl | (congr 1; omega) | omega, Below.refl _ _⟩
            · have HX := Lib.hid hx; clear hx
              go_simp
              first | exact Below.refl _ _ | exact ⟨rfl, Below.refl _ _⟩ | exact ⟨by and_intros <;> rfl, Below.refl _ _⟩ | exact ⟨by first | rfl | (congr 1; omega) | omega, Below.refl _ _⟩
            · rw [show us 4 = .pointer (some ⟨w.heap.size, 6, none⟩) from hd 4 rfl]
              have c6 := hx.1.c6
              have HX := Lib.hid hx; clear hx
              go_simp
              first | exact Below.refl _ _ | exact ⟨rfl, Below.refl _ _⟩ | exact ⟨by and_intros <;> rfl, Below.refl _ _⟩ | exact ⟨by first | rfl | (congr 1; omega) | omega, Below.refl _ _⟩
            · rw [show us 1 = polV (.slice A bs.length c) need from hd 1 rfl, show us 3 = dgv m from hd 3 rfl, show us 5 = (.slice B L.length d) from hd 5 rfl]
              go_simp
              refine (who_any bs need m L _ _ _ hx.1.ht hx.1.hbs hx.1.hL hcap (by omega)).mono ?_
              rintro e w1 ⟨v1, rfl, hb1, hown⟩
              exact ⟨_, rfl, own_intsAt hown, hb1⟩
            · have HX := Lib.hid hx; clear hx
              go_simp
              first | exact Below.refl _ _ | exact ⟨rfl, Below.refl _ _⟩ | exact ⟨by and_intros <;> rfl, Below.refl _ _⟩ | exact ⟨by first | rfl | (congr 1; omega) | omega, Below.refl _ _⟩
            · rw [show us 7 = .pointer (some ⟨w.heap.size, 0, none⟩) from hd 7 rfl]
              have c0 := hx.1.c0
              have c1 := hx.1.c1
              unfold polV
              have HX := Lib.hid hx; clear hx
              go_simp
              first | exact Below.refl _ _ | exact ⟨rfl, Below.refl _ _⟩ | exact ⟨by and_intros <;> rfl, Below.refl _ _⟩ | exact ⟨by first | rfl | (congr 1; omega) | omega, Below.refl _ _⟩
            · have HX := Lib.hid hx; clear hx
              go_simp
              first | exact Below.refl _ _ | exact ⟨rfl, Below.refl _ _⟩ | exact ⟨by and_intros <;> rfl, Below.refl _ _⟩ | exact ⟨by first | rfl | (congr 1; omega) | omega, Below.refl _ _⟩
            · rw [show us 9 = .pointer (some ⟨w.heap.size, 2, none⟩) from hd 9 rfl]
              have c2 := hx.1.c2
              have c3 := hx.1.c3
              have c4 := hx.1.c4
              have c5 := hx.1.c5
              have HX := Lib.hid hx; clear hx
              go_simp
              first | exact Below.refl _ _ | exact ⟨rfl, Below.refl _ _⟩ | exact ⟨by and_intros <;> rfl, Below.refl _ _⟩ | exact ⟨by first | rfl | (congr 1; omega) | omega, Below.refl _ _⟩
            · have HX := Lib.hid hx; clear hx
              go_simp
              first | exact Below.refl _ _ | exact ⟨rfl, Below.refl _ _⟩ | exact ⟨by and_intros <;> rfl, Below.refl _ _⟩ | exact ⟨by first | rfl | (congr 1; omega) | omega, Below.refl _ _⟩
            · rw [show us 8 = polV (.slice A bs.length c) need from hd 8 rfl, show us 10 = dgv m from hd 10 rfl, show us 11 = (.slice T TL.length tc) from hd 11 rfl]
              go_simp
              refine (who_any bs need m TL _ _ _ hx.1.ht hx.1.hbs hx.2.1 hcap (by omega)).mono ?_
              rw [Hwt.out]
              rintro e w1 ⟨v1, rfl, hb1, hown⟩
              exact ⟨_, rfl, own_intsAt hown, hb1⟩
          rintro us W8 ⟨hA8, _, hb8⟩ hF
          have hi1 : IntsAt W8 (us 6) (whoN bs m L) := hF 6 (by decide)
          have hi2 : IntsAt W8 (us 12) (whoN bs m L) := hF 12 (by decide)
          simp only [putAll, dstOf, List.getElem?_toArray, List.getElem?_cons_succ, List.getElem?_cons_zero, Option.bind_some, List.drop_succ_cons, List.drop_zero]
          clear hF
          generalize us 6 = va at *
          generalize us 12 = vb at *
          have HA8 := Lib.hid hA8; have Hb8 := Lib.hid hb8
          have HcL8 := Lib.hid (HcL.out.keep hb8); have HcM8 := Lib.hid (HcM.out.keep hb8); have HrL8 := Lib.hid (HrL.out.keep hb8); have HrM8 := Lib.hid (HrM.out.keep hb8)
          have Hi1 := Lib.hid hi1; have Hi2 := Lib.hid hi2
          obtain ⟨VA, da, rfl, _, _⟩ := hi1
          obtain ⟨VB, db, rfl, _, _⟩ := hi2
          clear hA8 hb8 HT HA3 HM3 HbrD HrL HrM HcL HcM
          go_frame
          go_upto_region 9 with fail
          refine wp_region_invA (InvR 11 Ord9 W8 (F9 w.heap.size (polV (.slice A bs.length c) need) m (.slice B L.length d) (.slice E M.length f) W8.heap.size M.length csM (M.length + L.length) (csM ++ csL) (whoN bs m (M ++ L)))) 11 (by kernel_rfl) (by kernel_rfl) (fun us => ⟨by simp [Ord9], (Below.refl _ _).drew, fun j _ h => by cases h⟩) ?_ ?_
          · refine ⟨fun Lz us wx hI hLi hdep => ?_, fun Lz us wx hI hLi hdep => ?_, fun Lz us wx hI hLi hdep => ?_, fun Lz us wx hI hLi hdep => ?_, fun Lz us wx hI hLi hdep => ?_, fun Lz us wx hI hLi hdep => ?_, fun Lz us wx hI hLi hdep => ?_, fun Lz us wx hI hLi hdep => ?_, fun Lz us wx hI hLi hdep => ?_, fun Lz us wx hI hLi hdep => ?_, fun Lz us wx hI hLi hdep => ?_, trivial⟩
            all_goals simp only [putAll, dstOf, List.getElem?_toArray, List.getElem?_cons_succ, List.getElem?_cons_zero, Option.bind_some]
            all_goals go_frame
            · refine .inl ⟨?_, ?_⟩
              · rfl
              go_simp
              exact hI.set (by simpa [Ord9, setL] using hI.ord) hI.hb (by first | rfl | (congr 1; omega)) (fun j u _ _ _ h => F9.keep h (Below.refl _ _) (by simp [setL]) (by simp [setL]))
            · refine .inl ⟨?_, ?_⟩
              · rfl
              rw [show us 0 = .pointer (some ⟨w.heap.size, 0, none⟩) from hI.hF 0 (by decide) (hdep 0 rfl)]
              have hA := HA8.out.keep hI.hb
              have c0 := hA.c0
              have c1 := hA.c1
              have HX := Lib.hid hA; clear hA
              unfold polV
              go_simp
              exact hI.set (by simpa [Ord9, setL] using hI.ord) hI.hb (by first | rfl | (congr 1; omega)) (fun j u _ _ _ h => F9.keep h (Below.refl _ _) (by simp [setL]) (by simp [setL]))
            · refine .inl ⟨?_, ?_⟩
              · rfl
              go_simp
              exact hI.set (by simpa [Ord9, setL] using hI.ord) hI.hb (by first | rfl | (congr 1; omega)) (fun j u _ _ _ h => F9.keep h (Below.refl _ _) (by simp [setL]) (by simp [setL]))
            · refine .inl ⟨?_, ?_⟩
              · rfl
              rw [show us 2 = .pointer (some ⟨w.heap.size, 2, none⟩) from hI.hF 2 (by decide) (hdep 2 rfl)]
              have hA := HA8.out.keep hI.hb
              have c2 := hA.c2
              have c3 := hA.c3
              have c4 := hA.c4
              have c5 := hA.c5
              have HX := Lib.hid hA; clear hA
              go_simp
              exact hI.set (by simpa [Ord9, setL] using hI.ord) hI.hb (by first | rfl | (congr 1; omega)) (fun j u _ _ _ h => F9.keep h (Below.refl _ _) (by simp [setL]) (by simp [setL]))
            · refine .inl ⟨?_, ?_⟩
              · rfl
              go_simp
              exact hI.set ⟨fun _ => rfl, hI.ord.2.1, hI.ord.2.2⟩ (hI.hb.alloc hI.hb.size _) (.inr (own_empty _ _ hI.hb.size)) (fun j u _ _ _ h => F9.keep h ((Below.refl _ _).alloc (Nat.le_refl _) _) (by simp [setL]) (by simp [setL]))
            · refine .inl ⟨?_, ?_⟩
              · rfl
              go_simp
              exact hI.set (by simpa [Ord9, setL] using hI.ord) hI.hb (by first | rfl | (congr 1; omega)) (fun j u _ _ _ h => F9.keep h (Below.refl _ _) (by simp [setL]) (by simp [setL]))
            · refine .inl ⟨?_, ?_⟩
              · rfl
              rw [show us 5 = (.slice E M.length f) from hI.hF 5 (by decide) (hdep 5 rfl)]
              have h4 := ((hI.hF 4 (by decide) (hdep 4 rfl) : Lz 6 = true ∨ wx.ownsRow W8.heap.size 59 7 (us 4) 0 [])).resolve_left (by rw [hLi]; decide)
              obtain ⟨v', w', hr, hown, hbw⟩ := app_any 50 h4 (HrM8.out.keep hI.hb) HcM8.out.2.1 (by omega) hI.hb.size
              refine gives_append (.tmp 60) (.tmp 61) 50 rfl rfl rfl hr ?_
              refine hI.set (by have := hI.ord; simp [Ord9, setL] at this ⊢; exact ⟨hdep 4 rfl, this.2.2⟩) (hI.hb.trans hbw) (.inr (by simpa using hown)) ?_
              have h96 := hI.ord.2.1
              have h109 := hI.ord.2.2
              rintro (_|_|_|_|_|_|_|_|_|_|_|jj) u hj hne hL h
              all_goals first | exact h | exact absurd rfl hne | exact absurd (h96 hL) (by rw [hLi]; decide) | exact absurd (h96 (h109 hL)) (by rw [hLi]; decide) | exact .inl (by simp [setL]) | trivial
            · refine .inl ⟨?_, ?_⟩
              · rfl
              go_simp
              exact hI.set (by simpa [Ord9, setL] using hI.ord) hI.hb (by first | rfl | (congr 1; omega)) (fun j u _ _ _ h => F9.keep h (Below.refl _ _) (by simp [setL]) (by simp [setL]))
            · refine .inl ⟨?_, ?_⟩
              · rfl
              rw [show us 7 = .pointer (some ⟨w.heap.size, 6, none⟩) from hI.hF 7 (by decide) (hdep 7 rfl)]
              have hA := HA8.out.keep hI.hb
              have c6 := hA.c6
              have HX := Lib.hid hA; clear hA
              go_simp
              exact hI.set (by simpa [Ord9, setL] using hI.ord) hI.hb (by first | rfl | (congr 1; omega)) (fun j u _ _ _ h => F9.keep h (Below.refl _ _) (by simp [setL]) (by simp [setL]))
            · refine .inl ⟨?_, ?_⟩
              · rfl
              rw [show us 8 = (.slice B L.length d) from hI.hF 8 (by decide) (hdep 8 rfl)]
              have h6 := ((hI.hF 6 (by decide) (hdep 6 rfl) : Lz 9 = true ∨ wx.ownsRow W8.heap.size 59 7 (us 6) M.length csM)).resolve_left (by rw [hLi]; decide)
              obtain ⟨v', w', hr, hown, hbw⟩ := app_any 50 h6 (HrL8.out.keep hI.hb) HcL8.out.2.1 (by omega) hI.hb.size
              refine gives_append (.tmp 62) (.tmp 64) 50 rfl rfl rfl hr ?_
              have h64 := hI.ord.1
              have h109 := hI.ord.2.2
              refine hI.set ⟨fun _ => h64 (hdep 6 rfl), fun _ => hdep 6 rfl, fun _ => rfl⟩ (hI.hb.trans hbw) hown ?_
              rintro (_|_|_|_|_|_|_|_|_|_|_|jj) u hj hne hL h
              all_goals first | exact h | exact absurd rfl hne | exact .inl (hdep 6 rfl) | exact .inl (by simp [setL]) | exact absurd (h109 hL) (by rw [hLi]; decide) | trivial
            · refine .inl ⟨?_, ?_⟩
              · rfl
              rw [show us 1 = polV (.slice A bs.length c) need from hI.hF 1 (by decide) (hdep 1 rfl)]
              rw [show us 3 = dgv m from hI.hF 3 (by decide) (hdep 3 rfl)]
              go_simp
              have h9 : wx.ownsRow W8.heap.size 59 7 (us 9) (M.length + L.length) (csM ++ csL) := hI.hF 9 (by decide) (hdep 9 rfl)
              have hsg := own_sgs (L := M ++ L) (by rw [List.length_append]; exact h9) ((HcM8.out.append HcL8.out).keep hI.hb)
              have hA := HA8.out.keep hI.hb
              refine (who_any bs need m (M ++ L) _ _ _ hA.ht hA.hbs hsg hcap (by omega)).mono ?_
              rintro e w1 ⟨v1, rfl, hb1, hown⟩
              exact ⟨_, rfl, hI.set (by have := hI.ord; simp [Ord9, setL] at this ⊢; exact ⟨this.1, this.2.1, hdep 9 rfl⟩) (hI.hb.trans (hb1.mono hI.hb.size)) (own_intsAt hown) (fun j u _ _ _ h => F9.keep h hb1 (by simp [setL]) (by simp [setL]))⟩
          rintro us9 W9 hI9
          have hi3 : IntsAt W9 (us9 10) (whoN bs m (M ++ L)) := hI9.hF 10 (by decide) (by decide)
          have hb9 := hI9.hb
          simp only [putAll, dstOf, List.getElem?_toArray, List.getElem?_cons_succ, List.getElem?_cons_zero, Option.bind_some, List.drop_succ_cons, List.drop_zero]
          clear hI9
          generalize us9 10 = vc at *
          have hsub : (whoN bs m L).Sublist (whoN bs m (M ++ L)) := Qu.places_sub fun i _ h => by
            simp only [agN, List.any_append] at h ⊢
            rw [h, Bool.or_true]
          have hhold : holdsN bs need m L = true → holdsN bs need m (L ++ M) = true := fun h => by
            have hs : (whoN bs m L).length ≤ (whoN bs m (L ++ M)).length := Qu.places_mono fun i _ h => by
              simp only [agN, List.any_append] at h ⊢
              rw [h, Bool.true_or]
            simp only [holdsN, Bool.and_eq_true, decide_eq_true_eq] at h ⊢
            exact ⟨h.1, by omega⟩
          have Hsub := Lib.hid hsub; have Hhold := Lib.hid hhold
          clear hsub hhold
          have Hi3 := Lib.hid hi3
          have Hi1' := Lib.hid (Hi1.out.keep hb9); have Hi2' := Lib.hid (Hi2.out.keep hb9)
          have HA9 := Lib.hid (HA8.out.keep hb9)
          have Hb9 := Lib.hid (Hb8.out.trans (hb9.mono Hb8.out.size))
          have HcL9 := Lib.hid (HcL8.out.keep hb9); have HcM9 := Lib.hid (HcM8.out.keep hb9); have HrL9 := Lib.hid (HrL8.out.keep hb9); have HrM9 := Lib.hid (HrM8.out.keep hb9)
          obtain ⟨VC, dc, rfl, _, _⟩ := hi3
          clear hb9 Hi1 Hi2 HA8 Hb8 HcL8 HcM8 HrL8 HrM8
          have Hlc8 := Lib.hid (show (whoN bs m (M ++ L)).length ≤ bs.length from Qu.places_le _ _)
          generalize whoN bs m (M ++ L) = lc at *
          generalize whoN bs m L = la at *
          have hle : la.length ≤ lc.length := Hsub.out.length_le
          have hd10 : decide ((lc.length : Int) < (la.length : Int)) = false := decide_eq_false (by omega)
          have hn10 : ¬ lc.length < la.length := by omega
          go_frame
          go_wp2_with fail
          refine (qints_any _ _ la _ Hi1'.out Hi2'.out).mono ?_
          rintro e w10 ⟨rfl, hb10⟩
          have Ha := Lib.hid (Hi1'.out.keep hb10); have Hc := Lib.hid (Hi3.out.keep hb10)
          have HA10 := Lib.hid (HA9.out.keep hb10)
          have Hb10 := Lib.hid (Hb9.out.trans (hb10.mono Hb9.out.size))
          have HcL10 := Lib.hid (HcL9.out.keep hb10); have HcM10 := Lib.hid (HcM9.out.keep hb10); have HrL10 := Lib.hid (HrL9.out.keep hb10); have HrM10 := Lib.hid (HrM9.out.keep hb10)
          clear hb10 Hi1' Hi2' Hi3 HA9 Hb9 HcL9 HcM9 HrL9 HrM9
          go_wp2_with fail
          clear hd10 hn10
          go_loopw [10, 11] (fun k i wr => ∃ kk ii : Nat, kk ≤ la.length ∧ ii ≤ lc.length ∧ (la.drop kk).Sublist (lc.drop ii) ∧ k = .int .i64 kk ∧ i = .int .i64 ii ∧ Below w10.heap.size w10 wr) (fun _ i _ => lc.length - (intOf i).toNat)
          case atStart => exact ⟨0, 0, by omega, by omega, by simpa using Hsub.out, rfl, rfl, Below.refl _ _⟩
          case round =>
            obtain ⟨kk, ii, hkk, hii, hs, rfl, rfl, hbr⟩ := hrel
            by_cases h1 : ii < lc.length ∧ kk < la.length
            · have hi0 : (0 : Int) ≤ (ii : Int) := by omega
              have hi1 : (ii : Int) < lc.length := by omega
              have hk0 : (0 : Int) ≤ (kk : Int) := by omega
              have hk1 : (kk : Int) < la.length := by omega
              have hn1 : ii < lc.length := h1.1
              have hn2 : kk < la.length := h1.2
              have hd1 := decide_eq_true hi1
              have hd2 := decide_eq_true hk1
              obtain ⟨VA', da', e1, _, hca0⟩ := (Ha.out.keep hbr)
              cases e1
              obtain ⟨ga, rfl, hca⟩ := hca0 (by omega)
              obtain ⟨VC', dc', e2, _, hcc0⟩ := (Hc.out.keep hbr)
              cases e2
              obtain ⟨gc, rfl, hcc⟩ := hcc0 (by omega)
              have x0 := hcc ii hn1
              have y0 := hca kk hn2
              have hst := Qu.sub_step hs hn1 hn2
              have ex : lc.getD ii 0 = lc[ii]'hn1 := by simp [List.getD_eq_getElem?_getD, List.getElem?_eq_getElem hn1]
              have ey : la.getD kk 0 = la[kk]'hn2 := by simp [List.getD_eq_getElem?_getD, List.getElem?_eq_getElem hn2]
              rw [← ex, ← ey] at hst
              have q1 : IntKind.i64.wrap ((ii : Int) + 1) = (ii : Int) + 1 := IntWalk.i64_in _ (by have := Hlc8.out; omega)
              have q2 : IntKind.i64.wrap ((kk : Int) + 1) = (kk : Int) + 1 := IntWalk.i64_in _ (by omega)
              clear hca hcc hca0 hcc0 ex ey
              generalize lc.getD ii 0 = xx at *
              generalize la.getD kk 0 = yy at *
              have Hst := Lib.hid hst; have Hs := Lib.hid hs
              clear hst hs h1
              by_cases he : xx = yy
              · have hq : ((xx : Int) == (yy : Int)) = true := by simp [he]
                go_wp2_with fail
                go_quiet (fail)
                go_wp2_with fail
                refine ⟨⟨kk + 1, ii + 1, by omega, by omega, Hst.out.1 he, by simp, by simp, pw_drewN hbr _⟩, ?_⟩
                simp [intOf]; omega
              · have hq : ((xx : Int) == (yy : Int)) = false := by simp; omega
                go_wp2_with fail
                go_quiet (fail)
                go_wp2_with fail
                refine ⟨⟨kk, ii + 1, by omega, by omega, Hst.out.2 he, by simp, by simp, pw_drewN hbr _⟩, ?_⟩
                simp [intOf]; omega
            · have hke : kk = la.length := by
                by_cases h2 : ii < lc.length
                · omega
                · exact Qu.sub_end hs (by omega) hkk
              subst hke
              have hnxt : (decide ((ii : Int) < lc.length) = false ∧ ¬ ii < lc.length) ∨ (decide ((ii : Int) < lc.length) = true ∧ ii < lc.length) := by
                by_cases h2 : ii < lc.length
                · exact .inr ⟨decide_eq_true (by omega), h2⟩
                · exact .inl ⟨decide_eq_false (by omega), h2⟩
              obtain ⟨W18, hW18⟩ : ∃ W18, W18 = wr.drew := ⟨_, rfl⟩
              have hbrD := hbr.drew
              rw [← hW18] at hbrD
              have HW18 := Lib.hid hW18
              clear hW18
              have HA18 := Lib.hid (HA10.out.keep hbrD)
              have Hb18 := Lib.hid (Hb10.out.trans (hbrD.mono Hb10.out.size))
              have HcL18 := Lib.hid (HcL10.out.keep hbrD); have HcM18 := Lib.hid (HcM10.out.keep hbrD); have HrL18 := Lib.hid (HrL10.out.keep hbrD); have HrM18 := Lib.hid (HrM10.out.keep hbrD)
              have Hb0w := Lib.hid (Hb2.out.trans (Hb18.out.mono Hb2.out.size))
              have hdk : decide ((la.length : Int) < la.length) = false := by simp
              have hnk : ¬ la.length < la.length := by omega
              clear hs h1 hkk hii hbrD hbr Ha Hc HA10 Hb10 HcL10 HcM10 HrL10 HrM10
              generalize hh : holdsN bs need m L = h
              have Hh := Lib.hid hh
              clear hh
              rcases hnxt with ⟨hd1, hn1⟩ | ⟨hd1, hn1⟩
              · cases h with
                | false =>
                  go_upto_region 18 with fail
                  refine wp_region_invG (fun wx => AskB wx w.heap.size bs need m L (.slice A bs.length c) (.slice B L.length d) ∧ Below w.heap.size w wx) (fun j v w' => match j with | 0 => v = .bool true | 1 => v = .bool true | 2 => v = .int .i64 (la.length : Int) | 3 => v = .slice VA la.length da | 4 => v = .int .i64 (la.length : Int) | 5 => v = .bool true | 6 => v = .bool true | 7 => v = .bool true | 8 => v = .pointer (some ⟨w.heap.size, 0, none⟩) | 9 => v = polV (.slice A bs.length c) need | 10 => v = .pointer (some ⟨w.heap.size, 2, none⟩) | 11 => v = dgv m | 12 => v = .pointer (some ⟨w.heap.size, 6, none⟩) | 13 => v = (.slice B L.length d) | 14 => v = .bool false | 15 => v = .bool true | 16 => v = .bool true | 17 => v = undef | 18 => v = undef | 19 => v = undef | 20 => v = undef | 21 => v = undef | 22 => v = undef | 23 => v = undef | 24 => v = undef | 25 => v = undef | 26 => v = undef | 27 => v = undef | 28 => v = .bool true | _ => True) 29 (by kernel_rfl) (by kernel_rfl) (by rw [← HW18.out]; exact ⟨HA18.out, Hb0w.out⟩) (fun _ _ h hb => ⟨h.1.keep hb, h.2.trans (hb.mono h.2.size)⟩) ?_ ?_ ?_
                  · rintro (_|_|_|_|_|_|_|_|_|_|_|_|_|_|_|_|_|_|_|_|_|_|_|_|_|_|_|_|_|j) v w1 w2 hb h
                    all_goals exact h
                  · refine ⟨fun us wx hx hd => ?_, fun us wx hx hd => ?_, fun us wx hx hd => ?_, fun us wx hx hd => ?_, fun us wx hx hd => ?_, fun us wx hx hd => ?_, fun us wx hx hd => ?_, fun us wx hx hd => ?_, fun us wx hx hd => ?_, fun us wx hx hd => ?_, fun us wx hx hd => ?_, fun us wx hx hd => ?_, fun us wx hx hd => ?_, fun us wx hx hd => ?_, fun us wx hx hd => ?_, fun us wx hx hd => ?_, fun us wx hx hd => ?_, fun us wx hx hd => ?_, fun us wx hx hd => ?_, fun us wx hx hd => ?_, fun us wx hx hd => ?_, fun us wx hx hd => ?_, fun us wx hx hd => ?_, fun us wx hx hd => ?_, fun us wx hx hd => ?_, fun us wx hx hd => ?_, fun us wx hx hd => ?_, fun us wx hx hd => ?_, fun us wx hx hd => ?_, trivial⟩
                    all_goals simp only [putAll, dstOf, List.getElem?_toArray, List.getElem?_cons_succ, List.getElem?_cons_zero, Option.bind_some]
                    all_goals go_frame
                    · refine .inl ⟨?_, ?_⟩
                      · rfl
                      go_simp
                      refine (qawake_any _ hx.1.ht).mono ?_
                      rintro e w1 ⟨rfl, hb1⟩
                      exact ⟨_, rfl, by first | rfl | rw [Hh.out], hb1⟩
                    · refine .inl ⟨?_, ?_⟩
                      · rfl
                      rw [show us 0 = .bool true from hd 0 rfl]
                      have HX := Lib.hid hx; clear hx
                      go_simp
                      first | exact Below.refl _ _ | exact ⟨rfl, Below.refl _ _⟩ | exact ⟨by and_intros <;> rfl, Below.refl _ _⟩ | exact ⟨by first | rfl | (congr 1; omega) | omega, Below.refl _ _⟩
                    · refine .inl ⟨?_, ?_⟩
                      · rw [show us 1 = .bool true from hd 1 rfl]; rfl
                      have HX := Lib.hid hx; clear hx
                      go_simp
                      first | exact Below.refl _ _ | exact ⟨rfl, Below.refl _ _⟩ | exact ⟨by and_intros <;> rfl, Below.refl _ _⟩ | exact ⟨by first | rfl | (congr 1; omega) | omega, Below.refl _ _⟩
                    · refine .inl ⟨?_, ?_⟩
                      · rw [show us 1 = .bool true from hd 1 rfl]; rfl
                      have HX := Lib.hid hx; clear hx
                      go_simp
                      first | exact Below.refl _ _ | exact ⟨rfl, Below.refl _ _⟩ | exact ⟨by and_intros <;> rfl, Below.refl _ _⟩ | exact ⟨by first | rfl | (congr 1; omega) | omega, Below.refl _ _⟩
                    · refine .inl ⟨?_, ?_⟩
                      · rw [show us 1 = .bool true from hd 1 rfl]; rfl
                      rw [show us 3 = .slice VA la.length da from hd 3 rfl]
                      have HX := Lib.hid hx; clear hx
                      go_simp
                      first | exact Below.refl _ _ | exact ⟨rfl, Below.refl _ _⟩ | exact ⟨by and_intros <;> rfl, Below.refl _ _⟩ | exact ⟨by first | rfl | (congr 1; omega) | omega, Below.refl _ _⟩
                    · refine .inl ⟨?_, ?_⟩
                      · rw [show us 1 = .bool true from hd 1 rfl]; rfl
                      rw [show us 2 = .int .i64 (la.length : Int) from hd 2 rfl, show us 4 = .int .i64 (la.length : Int) from hd 4 rfl]
                      have HX := Lib.hid hx; clear hx
                      go_simp
                      first | exact Below.refl _ _ | exact ⟨rfl, Below.refl _ _⟩ | exact ⟨by and_intros <;> rfl, Below.refl _ _⟩ | exact ⟨by first | rfl | (congr 1; omega) | omega, Below.refl _ _⟩
                    · refine .inl ⟨?_, ?_⟩
                      · rfl
                      rw [show us 1 = .bool true from hd 1 rfl, show us 5 = .bool true from hd 5 rfl]
                      have HX := Lib.hid hx; clear hx
                      go_simp
                      first | exact Below.refl _ _ | exact ⟨rfl, Below.refl _ _⟩ | exact ⟨by and_intros <;> rfl, Below.refl _ _⟩ | exact ⟨by first | rfl | (congr 1; omega) | omega, Below.refl _ _⟩
                    · refine .inl ⟨?_, ?_⟩
                      · rfl
                      rw [show us 6 = .bool true from hd 6 rfl]
                      have HX := Lib.hid hx; clear hx
                      go_simp
                      first | exact Below.refl _ _ | exact ⟨rfl, Below.refl _ _⟩ | exact ⟨by and_intros <;> rfl, Below.refl _ _⟩ | exact ⟨by first | rfl | (congr 1; omega) | omega, Below.refl _ _⟩
                    · refine .inl ⟨?_, ?_⟩
                      · rw [show us 7 = .bool true from hd 7 rfl]; rfl
                      have HX := Lib.hid hx; clear hx
                      go_simp
                      first | exact Below.refl _ _ | exact ⟨rfl, Below.refl _ _⟩ | exact ⟨by and_intros <;> rfl, Below.refl _ _⟩ | exact ⟨by first | rfl | (congr 1; omega) | omega, Below.refl _ _⟩
                    · refine .inl ⟨?_, ?_⟩
                      · rw [show us 7 = .bool true from hd 7 rfl]; rfl
                      rw [show us 8 = .pointer (some ⟨w.heap.size, 0, none⟩) from hd 8 rfl]
                      have c0 := hx.1.c0
                      have c1 := hx.1.c1
                      unfold polV
                      have HX := Lib.hid hx; clear hx
                      go_simp
                      first | exact Below.refl _ _ | exact ⟨rfl, Below.refl _ _⟩ | exact ⟨by and_intros <;> rfl, Below.refl _ _⟩ | exact ⟨by first | rfl | (congr 1; omega) | omega, Below.refl _ _⟩
                    · refine .inl ⟨?_, ?_⟩
                      · rw [show us 7 = .bool true from hd 7 rfl]; rfl
                      have HX := Lib.hid hx; clear hx
                      go_simp
                      first | exact Below.refl _ _ | exact ⟨rfl, Below.refl _ _⟩ | exact ⟨by and_intros <;> rfl, Below.refl _ _⟩ | exact ⟨by first | rfl | (congr 1; omega) | omega, Below.refl _ _⟩
                    · refine .inl ⟨?_, ?_⟩
                      · rw [show us 7 = .bool true from hd 7 rfl]; rfl
                      rw [show us 10 = .pointer (some ⟨w.heap.size, 2, none⟩) from hd 10 rfl]
                      have c2 := hx.1.c2
                      have c3 := hx.1.c3
                      have c4 := hx.1.c4
                      have c5 := hx.1.c5
                      have HX := Lib.hid hx; clear hx
                      go_simp
                      first | exact Below.refl _ _ | exact ⟨rfl, Below.refl _ _⟩ | exact ⟨by and_intros <;> rfl, Below.refl _ _⟩ | exact ⟨by first | rfl | (congr 1; omega) | omega, Below.refl _ _⟩
                    · refine .inl ⟨?_, ?_⟩
                      · rw [show us 7 = .bool true from hd 7 rfl]; rfl
                      have HX := Lib.hid hx; clear hx
                      go_simp
                      first | exact Below.refl _ _ | exact ⟨rfl, Below.refl _ _⟩ | exact ⟨by and_intros <;> rfl, Below.refl _ _⟩ | exact ⟨by first | rfl | (congr 1; omega) | omega, Below.refl _ _⟩
                    · refine .inl ⟨?_, ?_⟩
                      · rw [show us 7 = .bool true from hd 7 rfl]; rfl
                      rw [show us 12 = .pointer (some ⟨w.heap.size, 6, none⟩) from hd 12 rfl]
                      have c6 := hx.1.c6
                      have HX := Lib.hid hx; clear hx
                      go_simp
                      first | exact Below.refl _ _ | exact ⟨rfl, Below.refl _ _⟩ | exact ⟨by and_intros <;> rfl, Below.refl _ _⟩ | exact ⟨by first | rfl | (congr 1; omega) | omega, Below.refl _ _⟩
                    · refine .inl ⟨?_, ?_⟩
                      · rw [show us 7 = .bool true from hd 7 rfl]; rfl
                      rw [show us 9 = polV (.slice A bs.length c) need from hd 9 rfl, show us 11 = dgv m from hd 11 rfl, show us 13 = (.slice B L.length d) from hd 13 rfl]
                      go_simp
                      refine (qholds_any bs need m L _ _ _ hx.1.ht hx.1.hbs hx.1.hL hcap (by omega)).mono ?_
                      rintro e w1 ⟨rfl, hb1⟩
                      exact ⟨_, rfl, by first | rfl | rw [Hh.out], hb1⟩
                    · refine .inl ⟨?_, ?_⟩
                      · rw [show us 7 = .bool true from hd 7 rfl]; rfl
                      rw [show us 14 = .bool false from hd 14 rfl]
                      have HX := Lib.hid hx; clear hx
                      go_simp
                      first | exact Below.refl _ _ | exact ⟨rfl, Below.refl _ _⟩ | exact ⟨by and_intros <;> rfl, Below.refl _ _⟩ | exact ⟨by first | rfl | (congr 1; omega) | omega, Below.refl _ _⟩
                    · refine .inl ⟨?_, ?_⟩
                      · rw [show us 7 = .bool true from hd 7 rfl]; rfl
                      rw [show us 15 = .bool true from hd 15 rfl]
                      have HX := Lib.hid hx; clear hx
                      go_simp
                      first | exact Below.refl _ _ | exact ⟨rfl, Below.refl _ _⟩ | exact ⟨by and_intros <;> rfl, Below.refl _ _⟩ | exact ⟨by first | rfl | (congr 1; omega) | omega, Below.refl _ _⟩
                    · refine .inr ⟨?_, by first | rfl | trivial⟩
                      rw [show us 16 = .bool true from hd 16 rfl]; rfl
                    · refine .inr ⟨?_, by first | rfl | trivial⟩
                      rw [show us 16 = .bool true from hd 16 rfl]; rfl
                    · refine .inr ⟨?_, by first | rfl | trivial⟩
                      rw [show us 16 = .bool true from hd 16 rfl]; rfl
                    · refine .inr ⟨?_, by first | rfl | trivial⟩
                      rw [show us 16 = .bool true from hd 16 rfl]; rfl
                    · refine .inr ⟨?_, by first | rfl | trivial⟩
                      rw [show us 16 = .bool true from hd 16 rfl]; rfl
                    · refine .inr ⟨?_, by first | rfl | trivial⟩
                      rw [show us 16 = .bool true from hd 16 rfl]; rfl
                    · refine .inr ⟨?_, by first | rfl | trivial⟩
                      rw [show us 16 = .bool true from hd 16 rfl]; rfl
                    · refine .inr ⟨?_, by first | rfl | trivial⟩
                      rw [show us 16 = .bool true from hd 16 rfl]; rfl
                    · refine .inr ⟨?_, by first | rfl | trivial⟩
                      rw [show us 16 = .bool true from hd 16 rfl]; rfl
                    · refine .inr ⟨?_, by first | rfl | trivial⟩
                      rw [show us 16 = .bool true from hd 16 rfl]; rfl
                    · refine .inr ⟨?_, by first | rfl | trivial⟩
                      rw [show us 16 = .bool true from hd 16 rfl]; rfl
                    · refine .inl ⟨?_, ?_⟩
                      · rw [show us 7 = .bool true from hd 7 rfl]; rfl
                      rw [show us 16 = .bool true from hd 16 rfl, show us 27 = undef from hd 27 rfl]
                      have HX := Lib.hid hx; clear hx
                      go_simp
                      first | exact Below.refl _ _ | exact ⟨rfl, Below.refl _ _⟩ | exact ⟨by and_intros <;> rfl, Below.refl _ _⟩ | exact ⟨by first | rfl | (congr 1; omega) | omega, Below.refl _ _⟩
                  rintro us18 W19 ⟨_, hb19⟩ hF
                  have e7 : us18 7 = .bool true := hF 7 (by decide)
                  have e28 : us18 28 = .bool true := hF 28 (by decide)
                  clear hF
                  simp only [putAll, dstOf, List.getElem?_toArray, List.getElem?_cons_succ, List.getElem?_cons_zero, Option.bind_some, List.drop_succ_cons, List.drop_zero]
                  rw [e7, e28]
                  clear e7 e28
                  go_frame
                  go_wp2_with fail
                  exact bodyPost_ret (v := .bool true) (by simp [results, Tryd.results13, go_sem]) rfl ⟨rfl, hb19⟩
                | true =>
                  go_upto_region 18 with fail
                  refine wp_region_invA (InvR 29 Ord18 W18 (F18 w.heap.size (polV (.slice A bs.length c) need) m (.slice B L.length d) (.slice E M.length f) (.slice VA la.length da) la.length W18.heap.size L.length csL (L.length + M.length) (csL ++ csM))) 29 (by kernel_rfl) (by kernel_rfl) (fun us => by rw [← HW18.out]; exact ⟨by simp [Ord18], (Below.refl _ _), fun j _ h => by cases h⟩) ?_ ?_
                  · refine ⟨fun Lz us wx hI hLi hdep => ?_, fun Lz us wx hI hLi hdep => ?_, fun Lz us wx hI hLi hdep => ?_, fun Lz us wx hI hLi hdep => ?_, fun Lz us wx hI hLi hdep => ?_, fun Lz us wx hI hLi hdep => ?_, fun Lz us wx hI hLi hdep => ?_, fun Lz us wx hI hLi hdep => ?_, fun Lz us wx hI hLi hdep => ?_, fun Lz us wx hI hLi hdep => ?_, fun Lz us wx hI hLi hdep => ?_, fun Lz us wx hI hLi hdep => ?_, fun Lz us wx hI hLi hdep => ?_, fun Lz us wx hI hLi hdep => ?_, fun Lz us wx hI hLi hdep => ?_, fun Lz us wx hI hLi hdep => ?_, fun Lz us wx hI hLi hdep => ?_, fun Lz us wx hI hLi hdep => ?_, fun Lz us wx hI hLi hdep => ?_, fun Lz us wx hI hLi hdep => ?_, fun Lz us wx hI hLi hdep => ?_, fun Lz us wx hI hLi hdep => ?_, fun Lz us wx hI hLi hdep => ?_, fun Lz us wx hI hLi hdep => ?_, fun Lz us wx hI hLi hdep => ?_, fun Lz us wx hI hLi hdep => ?_, fun Lz us wx hI hLi hdep => ?_, fun Lz us wx hI hLi hdep => ?_, fun Lz us wx hI hLi hdep => ?_, trivial⟩
                    all_goals simp only [putAll, dstOf, List.getElem?_toArray, List.getElem?_cons_succ, List.getElem?_cons_zero, Option.bind_some]
                    all_goals go_frame
                    · refine .inl ⟨?_, ?_⟩
                      · rfl
                      go_simp
                      refine (qawake_any _ (HA18.out.keep hI.hb).ht).mono ?_
                      rintro e w1 ⟨rfl, hb1⟩
                      exact ⟨_, rfl, hI.set (by simpa [Ord18, setL] using hI.ord) (hI.hb.trans (hb1.mono hI.hb.size)) (rfl) (fun j u _ _ _ h => F18.keep h hb1 (by simp [setL]) (by simp [setL]) (by simp [setL]))⟩
                    · refine .inl ⟨?_, ?_⟩
                      · rfl
                      rw [show us 0 = .bool true from hI.hF 0 (by decide) (hdep 0 rfl)]
                      go_simp
                      exact hI.set (by simpa [Ord18, setL] using hI.ord) hI.hb (by first | rfl | (congr 1; omega)) (fun j u _ _ _ h => F18.keep h (Below.refl _ _) (by simp [setL]) (by simp [setL]) (by simp [setL]))
                    · refine .inl ⟨?_, ?_⟩
                      · rw [show us 1 = .bool true from hI.hF 1 (by decide) (hdep 1 rfl)]; rfl
                      go_simp
                      exact hI.set (by simpa [Ord18, setL] using hI.ord) hI.hb (by first | rfl | (congr 1; omega)) (fun j u _ _ _ h => F18.keep h (Below.refl _ _) (by simp [setL]) (by simp [setL]) (by simp [setL]))
                    · refine .inl ⟨?_, ?_⟩
                      · rw [show us 1 = .bool true from hI.hF 1 (by decide) (hdep 1 rfl)]; rfl
                      go_simp
                      exact hI.set (by simpa [Ord18, setL] using hI.ord) hI.hb (by first | rfl | (congr 1; omega)) (fun j u _ _ _ h => F18.keep h (Below.refl _ _) (by simp [setL]) (by simp [setL]) (by simp [setL]))
                    · refine .inl ⟨?_, ?_⟩
                      · rw [show us 1 = .bool true from hI.hF 1 (by decide) (hdep 1 rfl)]; rfl
                      rw [show us 3 = .slice VA la.length da from hI.hF 3 (by decide) (hdep 3 rfl)]
                      go_simp
                      exact hI.set (by simpa [Ord18, setL] using hI.ord) hI.hb (by first | rfl | (congr 1; omega)) (fun j u _ _ _ h => F18.keep h (Below.refl _ _) (by simp [setL]) (by simp [setL]) (by simp [setL]))
                    · refine .inl ⟨?_, ?_⟩
                      · rw [show us 1 = .bool true from hI.hF 1 (by decide) (hdep 1 rfl)]; rfl
                      rw [show us 2 = .int .i64 (la.length : Int) from hI.hF 2 (by decide) (hdep 2 rfl)]
                      rw [show us 4 = .int .i64 (la.length : Int) from hI.hF 4 (by decide) (hdep 4 rfl)]
                      go_simp
                      exact hI.set (by simpa [Ord18, setL] using hI.ord) hI.hb (by first | rfl | (congr 1; omega)) (fun j u _ _ _ h => F18.keep h (Below.refl _ _) (by simp [setL]) (by simp [setL]) (by simp [setL]))
                    · refine .inl ⟨?_, ?_⟩
                      · rfl
                      rw [show us 1 = .bool true from hI.hF 1 (by decide) (hdep 1 rfl)]
                      rw [show us 5 = .bool true from hI.hF 5 (by decide) (hdep 5 rfl)]
                      go_simp
                      exact hI.set (by simpa [Ord18, setL] using hI.ord) hI.hb (by first | rfl | (congr 1; omega)) (fun j u _ _ _ h => F18.keep h (Below.refl _ _) (by simp [setL]) (by simp [setL]) (by simp [setL]))
                    · refine .inl ⟨?_, ?_⟩
                      · rfl
                      rw [show us 6 = .bool true from hI.hF 6 (by decide) (hdep 6 rfl)]
                      go_simp
                      exact hI.set (by simpa [Ord18, setL] using hI.ord) hI.hb (by first | rfl | (congr 1; omega)) (fun j u _ _ _ h => F18.keep h (Below.refl _ _) (by simp [setL]) (by simp [setL]) (by simp [setL]))
                    · refine .inl ⟨?_, ?_⟩
                      · rw [show us 7 = .bool true from hI.hF 7 (by decide) (hdep 7 rfl)]; rfl
                      go_simp
                      exact hI.set (by simpa [Ord18, setL] using hI.ord) hI.hb (by first | rfl | (congr 1; omega)) (fun j u _ _ _ h => F18.keep h (Below.refl _ _) (by simp [setL]) (by simp [setL]) (by simp [setL]))
                    · refine .inl ⟨?_, ?_⟩
                      · rw [show us 7 = .bool true from hI.hF 7 (by decide) (hdep 7 rfl)]; rfl
                      rw [show us 8 = .pointer (some ⟨w.heap.size, 0, none⟩) from hI.hF 8 (by decide) (hdep 8 rfl)]
                      have hA := HA18.out.keep hI.hb
                      have c0 := hA.c0
                      have c1 := hA.c1
                      have HX := Lib.hid hA; clear hA
                      unfold polV
                      go_simp
                      exact hI.set (by simpa [Ord18, setL] using hI.ord) hI.hb (by first | rfl | (congr 1; omega)) (fun j u _ _ _ h => F18.keep h (Below.refl _ _) (by simp [setL]) (by simp [setL]) (by simp [setL]))
                    · refine .inl ⟨?_, ?_⟩
                      · rw [show us 7 = .bool true from hI.hF 7 (by decide) (hdep 7 rfl)]; rfl
                      go_simp
                      exact hI.set (by simpa [Ord18, setL] using hI.ord) hI.hb (by first | rfl | (congr 1; omega)) (fun j u _ _ _ h => F18.keep h (Below.refl _ _) (by simp [setL]) (by simp [setL]) (by simp [setL]))
                    · refine .inl ⟨?_, ?_⟩
                      · rw [show us 7 = .bool true from hI.hF 7 (by decide) (hdep 7 rfl)]; rfl
                      rw [show us 10 = .pointer (some ⟨w.heap.size, 2, none⟩) from hI.hF 10 (by decide) (hdep 10 rfl)]
                      have hA := HA18.out.keep hI.hb
                      have c2 := hA.c2
                      have c3 := hA.c3
                      have c4 := hA.c4
                      have c5 := hA.c5
                      have HX := Lib.hid hA; clear hA
                      go_simp
                      exact hI.set (by simpa [Ord18, setL] using hI.ord) hI.hb (by first | rfl | (congr 1; omega)) (fun j u _ _ _ h => F18.keep h (Below.refl _ _) (by simp [setL]) (by simp [setL]) (by simp [setL]))
                    · refine .inl ⟨?_, ?_⟩
                      · rw [show us 7 = .bool true from hI.hF 7 (by decide) (hdep 7 rfl)]; rfl
                      go_simp
                      exact hI.set (by simpa [Ord18, setL] using hI.ord) hI.hb (by first | rfl | (congr 1; omega)) (fun j u _ _ _ h => F18.keep h (Below.refl _ _) (by simp [setL]) (by simp [setL]) (by simp [setL]))
                    · refine .inl ⟨?_, ?_⟩
                      · rw [show us 7 = .bool true from hI.hF 7 (by decide) (hdep 7 rfl)]; rfl
                      rw [show us 12 = .pointer (some ⟨w.heap.size, 6, none⟩) from hI.hF 12 (by decide) (hdep 12 rfl)]
                      have hA := HA18.out.keep hI.hb
                      have c6 := hA.c6
                      have HX := Lib.hid hA; clear hA
                      go_simp
                      exact hI.set (by simpa [Ord18, setL] using hI.ord) hI.hb (by first | rfl | (congr 1; omega)) (fun j u _ _ _ h => F18.keep h (Below.refl _ _) (by simp [setL]) (by simp [setL]) (by simp [setL]))
                    · refine .inl ⟨?_, ?_⟩
                      · rw [show us 7 = .bool true from hI.hF 7 (by decide) (hdep 7 rfl)]; rfl
                      rw [show us 9 = polV (.slice A bs.length c) need from hI.hF 9 (by decide) (hdep 9 rfl)]
                      rw [show us 11 = dgv m from hI.hF 11 (by decide) (hdep 11 rfl)]
                      rw [show us 13 = (.slice B L.length d) from hI.hF 13 (by decide) (hdep 13 rfl)]
                      have hA := HA18.out.keep hI.hb
                      go_simp
                      refine (qholds_any bs need m L _ _ _ hA.ht hA.hbs hA.hL hcap (by omega)).mono ?_
                      rintro e w1 ⟨rfl, hb1⟩
                      rw [Hh.out]
                      exact ⟨_, rfl, hI.set (by simpa [Ord18, setL] using hI.ord) (hI.hb.trans (hb1.mono hI.hb.size)) (rfl) (fun j u _ _ _ h => F18.keep h hb1 (by simp [setL]) (by simp [setL]) (by simp [setL]))⟩
                    · refine .inl ⟨?_, ?_⟩
                      · rw [show us 7 = .bool true from hI.hF 7 (by decide) (hdep 7 rfl)]; rfl
                      rw [show us 14 = .bool true from hI.hF 14 (by decide) (hdep 14 rfl)]
                      go_simp
                      exact hI.set (by simpa [Ord18, setL] using hI.ord) hI.hb (by first | rfl | (congr 1; omega)) (fun j u _ _ _ h => F18.keep h (Below.refl _ _) (by simp [setL]) (by simp [setL]) (by simp [setL]))
                    · refine .inl ⟨?_, ?_⟩
                      · rw [show us 7 = .bool true from hI.hF 7 (by decide) (hdep 7 rfl)]; rfl
                      rw [show us 15 = .bool false from hI.hF 15 (by decide) (hdep 15 rfl)]
                      go_simp
                      exact hI.set (by simpa [Ord18, setL] using hI.ord) hI.hb (by first | rfl | (congr 1; omega)) (fun j u _ _ _ h => F18.keep h (Below.refl _ _) (by simp [setL]) (by simp [setL]) (by simp [setL]))
                    · refine .inl ⟨?_, ?_⟩
                      · rw [show us 16 = .bool false from hI.hF 16 (by decide) (hdep 16 rfl)]; rfl
                      go_simp
                      exact hI.set (by simpa [Ord18, setL] using hI.ord) hI.hb (by first | rfl | (congr 1; omega)) (fun j u _ _ _ h => F18.keep h (Below.refl _ _) (by simp [setL]) (by simp [setL]) (by simp [setL]))
                    · refine .inl ⟨?_, ?_⟩
                      · rw [show us 16 = .bool false from hI.hF 16 (by decide) (hdep 16 rfl)]; rfl
                      rw [show us 17 = .pointer (some ⟨w.heap.size, 0, none⟩) from hI.hF 17 (by decide) (hdep 17 rfl)]
                      have hA := HA18.out.keep hI.hb
                      have c0 := hA.c0
                      have c1 := hA.c1
                      have HX := Lib.hid hA; clear hA
                      unfold polV
                      go_simp
                      exact hI.set (by simpa [Ord18, setL] using hI.ord) hI.hb (by first | rfl | (congr 1; omega)) (fun j u _ _ _ h => F18.keep h (Below.refl _ _) (by simp [setL]) (by simp [setL]) (by simp [setL]))
                    · refine .inl ⟨?_, ?_⟩
                      · rw [show us 16 = .bool false from hI.hF 16 (by decide) (hdep 16 rfl)]; rfl
                      go_simp
                      exact hI.set (by simpa [Ord18, setL] using hI.ord) hI.hb (by first | rfl | (congr 1; omega)) (fun j u _ _ _ h => F18.keep h (Below.refl _ _) (by simp [setL]) (by simp [setL]) (by simp [setL]))
                    · refine .inl ⟨?_, ?_⟩
                      · rw [show us 16 = .bool false from hI.hF 16 (by decide) (hdep 16 rfl)]; rfl
                      rw [show us 19 = .pointer (some ⟨w.heap.size, 2, none⟩) from hI.hF 19 (by decide) (hdep 19 rfl)]
                      have hA := HA18.out.keep hI.hb
                      have c2 := hA.c2
                      have c3 := hA.c3
                      have c4 := hA.c4
                      have c5 := hA.c5
                      have HX := Lib.hid hA; clear hA
                      go_simp
                      exact hI.set (by simpa [Ord18, setL] using hI.ord) hI.hb (by first | rfl | (congr 1; omega)) (fun j u _ _ _ h => F18.keep h (Below.refl _ _) (by simp [setL]) (by simp [setL]) (by simp [setL]))
                    · refine .inl ⟨?_, ?_⟩
                      · rw [show us 16 = .bool false from hI.hF 16 (by decide) (hdep 16 rfl)]; rfl
                      go_simp
                      exact hI.set ⟨fun _ => rfl, hI.ord.2.1, hI.ord.2.2⟩ (hI.hb.alloc hI.hb.size _) (.inr (own_empty _ _ hI.hb.size)) (fun j u _ _ _ h => F18.keep h ((Below.refl _ _).alloc (Nat.le_refl _) _) (by simp [setL]) (by simp [setL]) (by simp [setL]))
                    · refine .inl ⟨?_, ?_⟩
                      · rw [show us 16 = .bool false from hI.hF 16 (by decide) (hdep 16 rfl)]; rfl
                      go_simp
                      exact hI.set (by simpa [Ord18, setL] using hI.ord) hI.hb (by first | rfl | (congr 1; omega)) (fun j u _ _ _ h => F18.keep h (Below.refl _ _) (by simp [setL]) (by simp [setL]) (by simp [setL]))
                    · refine .inl ⟨?_, ?_⟩
                      · rw [show us 16 = .bool false from hI.hF 16 (by decide) (hdep 16 rfl)]; rfl
                      rw [show us 22 = .pointer (some ⟨w.heap.size, 6, none⟩) from hI.hF 22 (by decide) (hdep 22 rfl)]
                      have hA := HA18.out.keep hI.hb
                      have c6 := hA.c6
                      have HX := Lib.hid hA; clear hA
                      go_simp
                      exact hI.set (by simpa [Ord18, setL] using hI.ord) hI.hb (by first | rfl | (congr 1; omega)) (fun j u _ _ _ h => F18.keep h (Below.refl _ _) (by simp [setL]) (by simp [setL]) (by simp [setL]))
                    · refine .inl ⟨?_, ?_⟩
                      · rw [show us 16 = .bool false from hI.hF 16 (by decide) (hdep 16 rfl)]; rfl
                      rw [show us 23 = (.slice B L.length d) from hI.hF 23 (by decide) (hdep 23 rfl)]
                      have h4 := ((hI.hF 21 (by decide) (hdep 21 rfl) : Lz 24 = true ∨ wx.ownsRow W18.heap.size 59 7 (us 21) 0 [])).resolve_left (by rw [hLi]; decide)
                      obtain ⟨v', w', hr, hown, hbw⟩ := app_any 50 h4 (HrL18.out.keep hI.hb) HcL18.out.2.1 (by omega) hI.hb.size
                      refine gives_append (.tmp 122) (.tmp 124) 50 rfl rfl rfl hr ?_
                      have h96 := hI.ord.2.1
                      have h109 := hI.ord.2.2
                      refine hI.set ⟨fun _ => hdep 21 rfl, fun _ => rfl, h109⟩ (hI.hb.trans hbw) (.inr (by simpa using hown)) ?_
                      rintro (_|_|_|_|_|_|_|_|_|_|_|_|_|_|_|_|_|_|_|_|_|_|_|_|_|_|_|_|_|jj) u hj hne hL h
                      all_goals first | exact h | exact absurd rfl hne | exact absurd (h96 hL) (by rw [hLi]; decide) | exact absurd (h96 (h109 hL)) (by rw [hLi]; decide) | exact .inl (by simp [setL]) | trivial
                    · refine .inl ⟨?_, ?_⟩
                      · rw [show us 16 = .bool false from hI.hF 16 (by decide) (hdep 16 rfl)]; rfl
                      go_simp
                      exact hI.set (by simpa [Ord18, setL] using hI.ord) hI.hb (by first | rfl | (congr 1; omega)) (fun j u _ _ _ h => F18.keep h (Below.refl _ _) (by simp [setL]) (by simp [setL]) (by simp [setL]))
                    · refine .inl ⟨?_, ?_⟩
                      · rw [show us 16 = .bool false from hI.hF 16 (by decide) (hdep 16 rfl)]; rfl
                      rw [show us 25 = (.slice E M.length f) from hI.hF 25 (by decide) (hdep 25 rfl)]
                      have h6 := ((hI.hF 24 (by decide) (hdep 24 rfl) : Lz 26 = true ∨ wx.ownsRow W18.heap.size 59 7 (us 24) L.length csL)).resolve_left (by rw [hLi]; decide)
                      obtain ⟨v', w', hr, hown, hbw⟩ := app_any 50 h6 (HrM18.out.keep hI.hb) HcM18.out.2.1 (by omega) hI.hb.size
                      refine gives_append (.tmp 125) (.tmp 126) 50 rfl rfl rfl hr ?_
                      have h64 := hI.ord.1
                      have h109 := hI.ord.2.2
                      refine hI.set ⟨fun _ => h64 (hdep 24 rfl), fun _ => hdep 24 rfl, fun _ => rfl⟩ (hI.hb.trans hbw) (.inr hown) ?_
                      rintro (_|_|_|_|_|_|_|_|_|_|_|_|_|_|_|_|_|_|_|_|_|_|_|_|_|_|_|_|_|jj) u hj hne hL h
                      all_goals first | exact h | exact absurd rfl hne | exact .inl (hdep 24 rfl) | exact absurd (h109 hL) (by rw [hLi]; decide) | exact .inl (by simp [setL]) | trivial
                    · refine .inl ⟨?_, ?_⟩
                      · rw [show us 16 = .bool false from hI.hF 16 (by decide) (hdep 16 rfl)]; rfl
                      rw [show us 18 = polV (.slice A bs.length c) need from hI.hF 18 (by decide) (hdep 18 rfl)]
                      rw [show us 20 = dgv m from hI.hF 20 (by decide) (hdep 20 rfl)]
                      go_simp
                      have h9 := ((hI.hF 26 (by decide) (hdep 26 rfl) : Lz 27 = true ∨ wx.ownsRow W18.heap.size 59 7 (us 26) (L.length + M.length) (csL ++ csM))).resolve_left (by rw [hLi]; decide)
                      have hsg := own_sgs (L := L ++ M) (by rw [List.length_append]; exact h9) ((HcL18.out.append HcM18.out).keep hI.hb)
                      have hA := HA18.out.keep hI.hb
                      refine (qholds_any bs need m (L ++ M) _ _ _ hA.ht hA.hbs hsg hcap (by omega)).mono ?_
                      rw [Hhold.out Hh.out]
                      rintro e w1 ⟨rfl, hb1⟩
                      have h64 := hI.ord.1
                      have h96 := hI.ord.2.1
                      exact ⟨_, rfl, hI.set ⟨h64, h96, fun _ => hdep 26 rfl⟩ (hI.hb.trans (hb1.mono hI.hb.size)) rfl (fun j u _ _ _ h => F18.keep h hb1 (by simp [setL]) (by simp [setL]) (by simp [setL]))⟩
                    · refine .inl ⟨?_, ?_⟩
                      · rw [show us 7 = .bool true from hI.hF 7 (by decide) (hdep 7 rfl)]; rfl
                      rw [show us 16 = .bool false from hI.hF 16 (by decide) (hdep 16 rfl)]
                      rw [show us 27 = .bool true from hI.hF 27 (by decide) (hdep 27 rfl)]
                      go_simp
                      exact hI.set (by simpa [Ord18, setL] using hI.ord) hI.hb (by first | rfl | (congr 1; omega)) (fun j u _ _ _ h => F18.keep h (Below.refl _ _) (by simp [setL]) (by simp [setL]) (by simp [setL]))
                  rintro us18 W19 hI19
                  have e7 : us18 7 = .bool true := hI19.hF 7 (by decide) (by decide)
                  have e28 : us18 28 = .bool true := hI19.hF 28 (by decide) (by decide)
                  have hb19 := Hb0w.out.trans (hI19.hb.mono Hb0w.out.size)
                  clear hI19
                  simp only [putAll, dstOf, List.getElem?_toArray, List.getElem?_cons_succ, List.getElem?_cons_zero, Option.bind_some, List.drop_succ_cons, List.drop_zero]
                  rw [e7, e28]
                  clear e7 e28
                  go_frame
                  go_wp2_with fail
                  exact bodyPost_ret (v := .bool true) (by simp [results, Tryd.results13, go_sem]) rfl ⟨rfl, hb19⟩
              · cases h with
                | false =>
                  go_upto_region 18 with fail
                  refine wp_region_invG (fun wx => AskB wx w.heap.size bs need m L (.slice A bs.length c) (.slice B L.length d) ∧ Below w.heap.size w wx) (fun j v w' => match j with | 0 => v = .bool true | 1 => v = .bool true | 2 => v = .int .i64 (la.length : Int) | 3 => v = .slice VA la.length da | 4 => v = .int .i64 (la.length : Int) | 5 => v = .bool true | 6 => v = .bool true | 7 => v = .bool true | 8 => v = .pointer (some ⟨w.heap.size, 0, none⟩) | 9 => v = polV (.slice A bs.length c) need | 10 => v = .pointer (some ⟨w.heap.size, 2, none⟩) | 11 => v = dgv m | 12 => v = .pointer (some ⟨w.heap.size, 6, none⟩) | 13 => v = (.slice B L.length d) | 14 => v = .bool false | 15 => v = .bool true | 16 => v = .bool true | 17 => v = undef | 18 => v = undef | 19 => v = undef | 20 => v = undef | 21 => v = undef | 22 => v = undef | 23 => v = undef | 24 => v = undef | 25 => v = undef | 26 => v = undef | 27 => v = undef | 28 => v = .bool true | _ => True) 29 (by kernel_rfl) (by kernel_rfl) (by rw [← HW18.out]; exact ⟨HA18.out, Hb0w.out⟩) (fun _ _ h hb => ⟨h.1.keep hb, h.2.trans (hb.mono h.2.size)⟩) ?_ ?_ ?_
                  · rintro (_|_|_|_|_|_|_|_|_|_|_|_|_|_|_|_|_|_|_|_|_|_|_|_|_|_|_|_|_|j) v w1 w2 hb h
                    all_goals exact h
                  · refine ⟨fun us wx hx hd => ?_, fun us wx hx hd => ?_, fun us wx hx hd => ?_, fun us wx hx hd => ?_, fun us wx hx hd => ?_, fun us wx hx hd => ?_, fun us wx hx hd => ?_, fun us wx hx hd => ?_, fun us wx hx hd => ?_, fun us wx hx hd => ?_, fun us wx hx hd => ?_, fun us wx hx hd => ?_, fun us wx hx hd => ?_, fun us wx hx hd => ?_, fun us wx hx hd => ?_, fun us wx hx hd => ?_, fun us wx hx hd => ?_, fun us wx hx hd => ?_, fun us wx hx hd => ?_, fun us wx hx hd => ?_, fun us wx hx hd => ?_, fun us wx hx hd => ?_, fun us wx hx hd => ?_, fun us wx hx hd => ?_, fun us wx hx hd => ?_, fun us wx hx hd => ?_, fun us wx hx hd => ?_, fun us wx hx hd => ?_, fun us wx hx hd => ?_, trivial⟩
                    all_goals simp only [putAll, dstOf, List.getElem?_toArray, List.getElem?_cons_succ, List.getElem?_cons_zero, Option.bind_some]
                    all_goals go_frame
                    · refine .inl ⟨?_, ?_⟩
                      · rfl
                      go_simp
                      refine (qawake_any _ hx.1.ht).mono ?_
                      rintro e w1 ⟨rfl, hb1⟩
                      exact ⟨_, rfl, by first | rfl | rw [Hh.out], hb1⟩
                    · refine .inl ⟨?_, ?_⟩
                      · rfl
                      rw [show us 0 = .bool true from hd 0 rfl]
                      have HX := Lib.hid hx; clear hx
                      go_simp
                      first | exact Below.refl _ _ | exact ⟨rfl, Below.refl _ _⟩ | exact ⟨by and_intros <;> rfl, Below.refl _ _⟩ | exact ⟨by first | rfl | (congr 1; omega) | omega, Below.refl _ _⟩
                    · refine .inl ⟨?_, ?_⟩
                      · rw [show us 1 = .bool true from hd 1 rfl]; rfl
                      have HX := Lib.hid hx; clear hx
                      go_simp
                      first | exact Below.refl _ _ | exact ⟨rfl, Below.refl _ _⟩ | exact ⟨by and_intros <;> rfl, Below.refl _ _⟩ | exact ⟨by first | rfl | (congr 1; omega) | omega, Below.refl _ _⟩
                    · refine .inl ⟨?_, ?_⟩
                      · rw [show us 1 = .bool true from hd 1 rfl]; rfl
                      have HX := Lib.hid hx; clear hx
                      go_simp
                      first | exact Below.refl _ _ | exact ⟨rfl, Below.refl _ _⟩ | exact ⟨by and_intros <;> rfl, Below.refl _ _⟩ | exact ⟨by first | rfl | (congr 1; omega) | omega, Below.refl _ _⟩
                    · refine .inl ⟨?_, ?_⟩
                      · rw [show us 1 = .bool true from hd 1 rfl]; rfl
                      rw [show us 3 = .slice VA la.length da from hd 3 rfl]
                      have HX := Lib.hid hx; clear hx
                      go_simp
                      first | exact Below.refl _ _ | exact ⟨rfl, Below.refl _ _⟩ | exact ⟨by and_intros <;> rfl, Below.refl _ _⟩ | exact ⟨by first | rfl | (congr 1; omega) | omega, Below.refl _ _⟩
                    · refine .inl ⟨?_, ?_⟩
                      · rw [show us 1 = .bool true from hd 1 rfl]; rfl
                      rw [show us 2 = .int .i64 (la.length : Int) from hd 2 rfl, show us 4 = .int .i64 (la.length : Int) from hd 4 rfl]
                      have HX := Lib.hid hx; clear hx
                      go_simp
                      first | exact Below.refl _ _ | exact ⟨rfl, Below.refl _ _⟩ | exact ⟨by and_intros <;> rfl, Below.refl _ _⟩ | exact ⟨by first | rfl | (congr 1; omega) | omega, Below.refl _ _⟩
                    · refine .inl ⟨?_, ?_⟩
                      · rfl
                      rw [show us 1 = .bool true from hd 1 rfl, show us 5 = .bool true from hd 5 rfl]
                      have HX := Lib.hid hx; clear hx
                      go_simp
                      first | exact Below.refl _ _ | exact ⟨rfl, Below.refl _ _⟩ | exact ⟨by and_intros <;> rfl, Below.refl _ _⟩ | exact ⟨by first | rfl | (congr 1; omega) | omega, Below.refl _ _⟩
                    · refine .inl ⟨?_, ?_⟩
                      · rfl
                      rw [show us 6 = .bool true from hd 6 rfl]
                      have HX := Lib.hid hx; clear hx
                      go_simp
                      first | exact Below.refl _ _ | exact ⟨rfl, Below.refl _ _⟩ | exact ⟨by and_intros <;> rfl, Below.refl _ _⟩ | exact ⟨by first | rfl | (congr 1; omega) | omega, Below.refl _ _⟩
                    · refine .inl ⟨?_, ?_⟩
                      · rw [show us 7 = .bool true from hd 7 rfl]; rfl
                      have HX := Lib.hid hx; clear hx
                      go_simp
                      first | exact Below.refl _ _ | exact ⟨rfl, Below.refl _ _⟩ | exact ⟨by and_intros <;> rfl, Below.refl _ _⟩ | exact ⟨by first | rfl | (congr 1; omega) | omega, Below.refl _ _⟩
                    · refine .inl ⟨?_, ?_⟩
                      · rw [show us 7 = .bool true from hd 7 rfl]; rfl
                      rw [show us 8 = .pointer (some ⟨w.heap.size, 0, none⟩) from hd 8 rfl]
                      have c0 := hx.1.c0
                      have c1 := hx.1.c1
                      unfold polV
                      have HX := Lib.hid hx; clear hx
                      go_simp
                      first | exact Below.refl _ _ | exact ⟨rfl, Below.refl _ _⟩ | exact ⟨by and_intros <;> rfl, Below.refl _ _⟩ | exact ⟨by first | rfl | (congr 1; omega) | omega, Below.refl _ _⟩
                    · refine .inl ⟨?_, ?_⟩
                      · rw [show us 7 = .bool true from hd 7 rfl]; rfl
                      have HX := Lib.hid hx; clear hx
                      go_simp
                      first | exact Below.refl _ _ | exact ⟨rfl, Below.refl _ _⟩ | exact ⟨by and_intros <;> rfl, Below.refl _ _⟩ | exact ⟨by first | rfl | (congr 1; omega) | omega, Below.refl _ _⟩
                    · refine .inl ⟨?_, ?_⟩
                      · rw [show us 7 = .bool true from hd 7 rfl]; rfl
                      rw [show us 10 = .pointer (some ⟨w.heap.size, 2, none⟩) from hd 10 rfl]
                      have c2 := hx.1.c2
                      have c3 := hx.1.c3
                      have c4 := hx.1.c4
                      have c5 := hx.1.c5
                      have HX := Lib.hid hx; clear hx
                      go_simp
                      first | exact Below.refl _ _ | exact ⟨rfl, Below.refl _ _⟩ | exact ⟨by and_intros <;> rfl, Below.refl _ _⟩ | exact ⟨by first | rfl | (congr 1; omega) | omega, Below.refl _ _⟩
                    · refine .inl ⟨?_, ?_⟩
                      · rw [show us 7 = .bool true from hd 7 rfl]; rfl
                      have HX := Lib.hid hx; clear hx
                      go_simp
                      first | exact Below.refl _ _ | exact ⟨rfl, Below.refl _ _⟩ | exact ⟨by and_intros <;> rfl, Below.refl _ _⟩ | exact ⟨by first | rfl | (congr 1; omega) | omega, Below.refl _ _⟩
                    · refine .inl ⟨?_, ?_⟩
                      · rw [show us 7 = .bool true from hd 7 rfl]; rfl
                      rw [show us 12 = .pointer (some ⟨w.heap.size, 6, none⟩) from hd 12 rfl]
                      have c6 := hx.1.c6
                      have HX := Lib.hid hx; clear hx
                      go_simp
                      first | exact Below.refl _ _ | exact ⟨rfl, Below.refl _ _⟩ | exact ⟨by and_intros <;> rfl, Below.refl _ _⟩ | exact ⟨by first | rfl | (congr 1; omega) | omega, Below.refl _ _⟩
                    · refine .inl ⟨?_, ?_⟩
                      · rw [show us 7 = .bool true from hd 7 rfl]; rfl
                      rw [show us 9 = polV (.slice A bs.length c) need from hd 9 rfl, show us 11 = dgv m from hd 11 rfl, show us 13 = (.slice B L.length d) from hd 13 rfl]
                      go_simp
                      refine (qholds_any bs need m L _ _ _ hx.1.ht hx.1.hbs hx.1.hL hcap (by omega)).mono ?_
                      rintro e w1 ⟨rfl, hb1⟩
                      exact ⟨_, rfl, by first | rfl | rw [Hh.out], hb1⟩
                    · refine .inl ⟨?_, ?_⟩
                      · rw [show us 7 = .bool true from hd 7 rfl]; rfl
                      rw [show us 14 = .bool false from hd 14 rfl]
                      have HX := Lib.hid hx; clear hx
                      go_simp
                      first | exact Below.refl _ _ | exact ⟨rfl, Below.refl _ _⟩ | exact ⟨by and_intros <;> rfl, Below.refl _ _⟩ | exact ⟨by first | rfl | (congr 1; omega) | omega, Below.refl _ _⟩
                    · refine .inl ⟨?_, ?_⟩
                      · rw [show us 7 = .bool true from hd 7 rfl]; rfl
                      rw [show us 15 = .bool true from hd 15 rfl]
                      have HX := Lib.hid hx; clear hx
                      go_simp
                      first | exact Below.refl _ _ | exact ⟨rfl, Below.refl _ _⟩ | exact ⟨by and_intros <;> rfl, Below.refl _ _⟩ | exact ⟨by first | rfl | (congr 1; omega) | omega, Below.refl _ _⟩
                    · refine .inr ⟨?_, by first | rfl | trivial⟩
                      rw [show us 16 = .bool true from hd 16 rfl]; rfl
                    · refine .inr ⟨?_, by first | rfl | trivial⟩
                      rw [show us 16 = .bool true from hd 16 rfl]; rfl
                    · refine .inr ⟨?_, by first | rfl | trivial⟩
                      rw [show us 16 = .bool true from hd 16 rfl]; rfl
                    · refine .inr ⟨?_, by first | rfl | trivial⟩
                      rw [show us 16 = .bool true from hd 16 rfl]; rfl
                    · refine .inr ⟨?_, by first | rfl | trivial⟩
                      rw [show us 16 = .bool true from hd 16 rfl]; rfl
                    · refine .inr ⟨?_, by first | rfl | trivial⟩
                      rw [show us 16 = .bool true from hd 16 rfl]; rfl
                    · refine .inr ⟨?_, by first | rfl | trivial⟩
                      rw [show us 16 = .bool true from hd 16 rfl]; rfl
                    · refine .inr ⟨?_, by first | rfl | trivial⟩
                      rw [show us 16 = .bool true from hd 16 rfl]; rfl
                    · refine .inr ⟨?_, by first | rfl | trivial⟩
                      rw [show us 16 = .bool true from hd 16 rfl]; rfl
                    · refine .inr ⟨?_, by first | rfl | trivial⟩
                      rw [show us 16 = .bool true from hd 16 rfl]; rfl
                    · refine .inr ⟨?_, by first | rfl | trivial⟩
                      rw [show us 16 = .bool true from hd 16 rfl]; rfl
                    · refine .inl ⟨?_, ?_⟩
                      · rw [show us 7 = .bool true from hd 7 rfl]; rfl
                      rw [show us 16 = .bool true from hd 16 rfl, show us 27 = undef from hd 27 rfl]
                      have HX := Lib.hid hx; clear hx
                      go_simp
                      first | exact Below.refl _ _ | exact ⟨rfl, Below.refl _ _⟩ | exact ⟨by and_intros <;> rfl, Below.refl _ _⟩ | exact ⟨by first | rfl | (congr 1; omega) | omega, Below.refl _ _⟩
                  rintro us18 W19 ⟨_, hb19⟩ hF
                  have e7 : us18 7 = .bool true := hF 7 (by decide)
                  have e28 : us18 28 = .bool true := hF 28 (by decide)
                  clear hF
                  simp only [putAll, dstOf, List.getElem?_toArray, List.getElem?_cons_succ, List.getElem?_cons_zero, Option.bind_some, List.drop_succ_cons, List.drop_zero]
                  rw [e7, e28]
                  clear e7 e28
                  go_frame
                  go_wp2_with fail
                  exact bodyPost_ret (v := .bool true) (by simp [results, Tryd.results13, go_sem]) rfl ⟨rfl, hb19⟩
                | true =>
                  go_upto_region 18 with fail
                  refine wp_region_invA (InvR 29 Ord18 W18 (F18 w.heap.size (polV (.slice A bs.length c) need) m (.slice B L.length d) (.slice E M.length f) (.slice VA la.length da) la.length W18.heap.size L.length csL (L.length + M.length) (csL ++ csM))) 29 (by kernel_rfl) (by kernel_rfl) (fun us => by rw [← HW18.out]; exact ⟨by simp [Ord18], (Below.refl _ _), fun j _ h => by cases h⟩) ?_ ?_
                  · refine ⟨fun Lz us wx hI hLi hdep => ?_, fun Lz us wx hI hLi hdep => ?_, fun Lz us wx hI hLi hdep => ?_, fun Lz us wx hI hLi hdep => ?_, fun Lz us wx hI hLi hdep => ?_, fun Lz us wx hI hLi hdep => ?_, fun Lz us wx hI hLi hdep => ?_, fun Lz us wx hI hLi hdep => ?_, fun Lz us wx hI hLi hdep => ?_, fun Lz us wx hI hLi hdep => ?_, fun Lz us wx hI hLi hdep => ?_, fun Lz us wx hI hLi hdep => ?_, fun Lz us wx hI hLi hdep => ?_, fun Lz us wx hI hLi hdep => ?_, fun Lz us wx hI hLi hdep => ?_, fun Lz us wx hI hLi hdep => ?_, fun Lz us wx hI hLi hdep => ?_, fun Lz us wx hI hLi hdep => ?_, fun Lz us wx hI hLi hdep => ?_, fun Lz us wx hI hLi hdep => ?_, fun Lz us wx hI hLi hdep => ?_, fun Lz us wx hI hLi hdep => ?_, fun Lz us wx hI hLi hdep => ?_, fun Lz us wx hI hLi hdep => ?_, fun Lz us wx hI hLi hdep => ?_, fun Lz us wx hI hLi hdep => ?_, fun Lz us wx hI hLi hdep => ?_, fun Lz us wx hI hLi hdep => ?_, fun Lz us wx hI hLi hdep => ?_, trivial⟩
                    all_goals simp only [putAll, dstOf, List.getElem?_toArray, List.getElem?_cons_succ, List.getElem?_cons_zero, Option.bind_some]
                    all_goals go_frame
                    · refine .inl ⟨?_, ?_⟩
                      · rfl
                      go_simp
                      refine (qawake_any _ (HA18.out.keep hI.hb).ht).mono ?_
                      rintro e w1 ⟨rfl, hb1⟩
                      exact ⟨_, rfl, hI.set (by simpa [Ord18, setL] using hI.ord) (hI.hb.trans (hb1.mono hI.hb.size)) (rfl) (fun j u _ _ _ h => F18.keep h hb1 (by simp [setL]) (by simp [setL]) (by simp [setL]))⟩
                    · refine .inl ⟨?_, ?_⟩
                      · rfl
                      rw [show us 0 = .bool true from hI.hF 0 (by decide) (hdep 0 rfl)]
                      go_simp
                      exact hI.set (by simpa [Ord18, setL] using hI.ord) hI.hb (by first | rfl | (congr 1; omega)) (fun j u _ _ _ h => F18.keep h (Below.refl _ _) (by simp [setL]) (by simp [setL]) (by simp [setL]))
                    · refine .inl ⟨?_, ?_⟩
                      · rw [show us 1 = .bool true from hI.hF 1 (by decide) (hdep 1 rfl)]; rfl
                      go_simp
                      exact hI.set (by simpa [Ord18, setL] using hI.ord) hI.hb (by first | rfl | (congr 1; omega)) (fun j u _ _ _ h => F18.keep h (Below.refl _ _) (by simp [setL]) (by simp [setL]) (by simp [setL]))
                    · refine .inl ⟨?_, ?_⟩
                      · rw [show us 1 = .bool true from hI.hF 1 (by decide) (hdep 1 rfl)]; rfl
                      go_simp
                      exact hI.set (by simpa [Ord18, setL] using hI.ord) hI.hb (by first | rfl | (congr 1; omega)) (fun j u _ _ _ h => F18.keep h (Below.refl _ _) (by simp [setL]) (by simp [setL]) (by simp [setL]))
                    · refine .inl ⟨?_, ?_⟩
                      · rw [show us 1 = .bool true from hI.hF 1 (by decide) (hdep 1 rfl)]; rfl
                      rw [show us 3 = .slice VA la.length da from hI.hF 3 (by decide) (hdep 3 rfl)]
                      go_simp
                      exact hI.set (by simpa [Ord18, setL] using hI.ord) hI.hb (by first | rfl | (congr 1; omega)) (fun j u _ _ _ h => F18.keep h (Below.refl _ _) (by simp [setL]) (by simp [setL]) (by simp [setL]))
                    · refine .inl ⟨?_, ?_⟩
                      · rw [show us 1 = .bool true from hI.hF 1 (by decide) (hdep 1 rfl)]; rfl
                      rw [show us 2 = .int .i64 (la.length : Int) from hI.hF 2 (by decide) (hdep 2 rfl)]
                      rw [show us 4 = .int .i64 (la.length : Int) from hI.hF 4 (by decide) (hdep 4 rfl)]
                      go_simp
                      exact hI.set (by simpa [Ord18, setL] using hI.ord) hI.hb (by first | rfl | (congr 1; omega)) (fun j u _ _ _ h => F18.keep h (Below.refl _ _) (by simp [setL]) (by simp [setL]) (by simp [setL]))
                    · refine .inl ⟨?_, ?_⟩
                      · rfl
                      rw [show us 1 = .bool true from hI.hF 1 (by decide) (hdep 1 rfl)]
                      rw [show us 5 = .bool true from hI.hF 5 (by decide) (hdep 5 rfl)]
                      go_simp
                      exact hI.set (by simpa [Ord18, setL] using hI.ord) hI.hb (by first | rfl | (congr 1; omega)) (fun j u _ _ _ h => F18.keep h (Below.refl _ _) (by simp [setL]) (by simp [setL]) (by simp [setL]))
                    · refine .inl ⟨?_, ?_⟩
                      · rfl
                      rw [show us 6 = .bool true from hI.hF 6 (by decide) (hdep 6 rfl)]
                      go_simp
                      exact hI.set (by simpa [Ord18, setL] using hI.ord) hI.hb (by first | rfl | (congr 1; omega)) (fun j u _ _ _ h => F18.keep h (Below.refl _ _) (by simp [setL]) (by simp [setL]) (by simp [setL]))
                    · refine .inl ⟨?_, ?_⟩
                      · rw [show us 7 = .bool true from hI.hF 7 (by decide) (hdep 7 rfl)]; rfl
                      go_simp
                      exact hI.set (by simpa [Ord18, setL] using hI.ord) hI.hb (by first | rfl | (congr 1; omega)) (fun j u _ _ _ h => F18.keep h (Below.refl _ _) (by simp [setL]) (by simp [setL]) (by simp [setL]))
                    · refine .inl ⟨?_, ?_⟩
                      · rw [show us 7 = .bool true from hI.hF 7 (by decide) (hdep 7 rfl)]; rfl
                      rw [show us 8 = .pointer (some ⟨w.heap.size, 0, none⟩) from hI.hF 8 (by decide) (hdep 8 rfl)]
                      have hA := HA18.out.keep hI.hb
                      have c0 := hA.c0
                      have c1 := hA.c1
                      have HX := Lib.hid hA; clear hA
                      unfold polV
                      go_simp
                      exact hI.set (by simpa [Ord18, setL] using hI.ord) hI.hb (by first | rfl | (congr 1; omega)) (fun j u _ _ _ h => F18.keep h (Below.refl _ _) (by simp [setL]) (by simp [setL]) (by simp [setL]))
                    · refine .inl ⟨?_, ?_⟩
                      · rw [show us 7 = .bool true from hI.hF 7 (by decide) (hdep 7 rfl)]; rfl
                      go_simp
                      exact hI.set (by simpa [Ord18, setL] using hI.ord) hI.hb (by first | rfl | (congr 1; omega)) (fun j u _ _ _ h => F18.keep h (Below.refl _ _) (by simp [setL]) (by simp [setL]) (by simp [setL]))
                    · refine .inl ⟨?_, ?_⟩
                      · rw [show us 7 = .bool true from hI.hF 7 (by decide) (hdep 7 rfl)]; rfl
                      rw [show us 10 = .pointer (some ⟨w.heap.size, 2, none⟩) from hI.hF 10 (by decide) (hdep 10 rfl)]
                      have hA := HA18.out.keep hI.hb
                      have c2 := hA.c2
                      have c3 := hA.c3
                      have c4 := hA.c4
                      have c5 := hA.c5
                      have HX := Lib.hid hA; clear hA
                      go_simp
                      exact hI.set (by simpa [Ord18, setL] using hI.ord) hI.hb (by first | rfl | (congr 1; omega)) (fun j u _ _ _ h => F18.keep h (Below.refl _ _) (by simp [setL]) (by simp [setL]) (by simp [setL]))
                    · refine .inl ⟨?_, ?_⟩
                      · rw [show us 7 = .bool true from hI.hF 7 (by decide) (hdep 7 rfl)]; rfl
                      go_simp
                      exact hI.set (by simpa [Ord18, setL] using hI.ord) hI.hb (by first | rfl | (congr 1; omega)) (fun j u _ _ _ h => F18.keep h (Below.refl _ _) (by simp [setL]) (by simp [setL]) (by simp [setL]))
                    · refine .inl ⟨?_, ?_⟩
                      · rw [show us 7 = .bool true from hI.hF 7 (by decide) (hdep 7 rfl)]; rfl
                      rw [show us 12 = .pointer (some ⟨w.heap.size, 6, none⟩) from hI.hF 12 (by decide) (hdep 12 rfl)]
                      have hA := HA18.out.keep hI.hb
                      have c6 := hA.c6
                      have HX := Lib.hid hA; clear hA
                      go_simp
                      exact hI.set (by simpa [Ord18, setL] using hI.ord) hI.hb (by first | rfl | (congr 1; omega)) (fun j u _ _ _ h => F18.keep h (Below.refl _ _) (by simp [setL]) (by simp [setL]) (by simp [setL]))
                    · refine .inl ⟨?_, ?_⟩
                      · rw [show us 7 = .bool true from hI.hF 7 (by decide) (hdep 7 rfl)]; rfl
                      rw [show us 9 = polV (.slice A bs.length c) need from hI.hF 9 (by decide) (hdep 9 rfl)]
                      rw [show us 11 = dgv m from hI.hF 11 (by decide) (hdep 11 rfl)]
                      rw [show us 13 = (.slice B L.length d) from hI.hF 13 (by decide) (hdep 13 rfl)]
                      have hA := HA18.out.keep hI.hb
                      go_simp
                      refine (qholds_any bs need m L _ _ _ hA.ht hA.hbs hA.hL hcap (by omega)).mono ?_
                      rintro e w1 ⟨rfl, hb1⟩
                      rw [Hh.out]
                      exact ⟨_, rfl, hI.set (by simpa [Ord18, setL] using hI.ord) (hI.hb.trans (hb1.mono hI.hb.size)) (rfl) (fun j u _ _ _ h => F18.keep h hb1 (by simp [setL]) (by simp [setL]) (by simp [setL]))⟩
                    · refine .inl ⟨?_, ?_⟩
                      · rw [show us 7 = .bool true from hI.hF 7 (by decide) (hdep 7 rfl)]; rfl
                      rw [show us 14 = .bool true from hI.hF 14 (by decide) (hdep 14 rfl)]
                      go_simp
                      exact hI.set (by simpa [Ord18, setL] using hI.ord) hI.hb (by first | rfl | (congr 1; omega)) (fun j u _ _ _ h => F18.keep h (Below.refl _ _) (by simp [setL]) (by simp [setL]) (by simp [setL]))
                    · refine .inl ⟨?_, ?_⟩
                      · rw [show us 7 = .bool true from hI.hF 7 (by decide) (hdep 7 rfl)]; rfl
                      rw [show us 15 = .bool false from hI.hF 15 (by decide) (hdep 15 rfl)]
                      go_simp
                      exact hI.set (by simpa [Ord18, setL] using hI.ord) hI.hb (by first | rfl | (congr 1; omega)) (fun j u _ _ _ h => F18.keep h (Below.refl _ _) (by simp [setL]) (by simp [setL]) (by simp [setL]))
                    · refine .inl ⟨?_, ?_⟩
                      · rw [show us 16 = .bool false from hI.hF 16 (by decide) (hdep 16 rfl)]; rfl
                      go_simp
                      exact hI.set (by simpa [Ord18, setL] using hI.ord) hI.hb (by first | rfl | (congr 1; omega)) (fun j u _ _ _ h => F18.keep h (Below.refl _ _) (by simp [setL]) (by simp [setL]) (by simp [setL]))
                    · refine .inl ⟨?_, ?_⟩
                      · rw [show us 16 = .bool false from hI.hF 16 (by decide) (hdep 16 rfl)]; rfl
                      rw [show us 17 = .pointer (some ⟨w.heap.size, 0, none⟩) from hI.hF 17 (by decide) (hdep 17 rfl)]
                      have hA := HA18.out.keep hI.hb
                      have c0 := hA.c0
                      have c1 := hA.c1
                      have HX := Lib.hid hA; clear hA
                      unfold polV
                      go_simp
                      exact hI.set (by simpa [Ord18, setL] using hI.ord) hI.hb (by first | rfl | (congr 1; omega)) (fun j u _ _ _ h => F18.keep h (Below.refl _ _) (by simp [setL]) (by simp [setL]) (by simp [setL]))
                    · refine .inl ⟨?_, ?_⟩
                      · rw [show us 16 = .bool false from hI.hF 16 (by decide) (hdep 16 rfl)]; rfl
                      go_simp
                      exact hI.set (by simpa [Ord18, setL] using hI.ord) hI.hb (by first | rfl | (congr 1; omega)) (fun j u _ _ _ h => F18.keep h (Below.refl _ _) (by simp [setL]) (by simp [setL]) (by simp [setL]))
                    · refine .inl ⟨?_, ?_⟩
                      · rw [show us 16 = .bool false from hI.hF 16 (by decide) (hdep 16 rfl)]; rfl
                      rw [show us 19 = .pointer (some ⟨w.heap.size, 2, none⟩) from hI.hF 19 (by decide) (hdep 19 rfl)]
                      have hA := HA18.out.keep hI.hb
                      have c2 := hA.c2
                      have c3 := hA.c3
                      have c4 := hA.c4
                      have c5 := hA.c5
                      have HX := Lib.hid hA; clear hA
                      go_simp
                      exact hI.set (by simpa [Ord18, setL] using hI.ord) hI.hb (by first | rfl | (congr 1; omega)) (fun j u _ _ _ h => F18.keep h (Below.refl _ _) (by simp [setL]) (by simp [setL]) (by simp [setL]))
                    · refine .inl ⟨?_, ?_⟩
                      · rw [show us 16 = .bool false from hI.hF 16 (by decide) (hdep 16 rfl)]; rfl
                      go_simp
                      exact hI.set ⟨fun _ => rfl, hI.ord.2.1, hI.ord.2.2⟩ (hI.hb.alloc hI.hb.size _) (.inr (own_empty _ _ hI.hb.size)) (fun j u _ _ _ h => F18.keep h ((Below.refl _ _).alloc (Nat.le_refl _) _) (by simp [setL]) (by simp [setL]) (by simp [setL]))
                    · refine .inl ⟨?_, ?_⟩
                      · rw [show us 16 = .bool false from hI.hF 16 (by decide) (hdep 16 rfl)]; rfl
                      go_simp
                      exact hI.set (by simpa [Ord18, setL] using hI.ord) hI.hb (by first | rfl | (congr 1; omega)) (fun j u _ _ _ h => F18.keep h (Below.refl _ _) (by simp [setL]) (by simp [setL]) (by simp [setL]))
                    · refine .inl ⟨?_, ?_⟩
                      · rw [show us 16 = .bool false from hI.hF 16 (by decide) (hdep 16 rfl)]; rfl
                      rw [show us 22 = .pointer (some ⟨w.heap.size, 6, none⟩) from hI.hF 22 (by decide) (hdep 22 rfl)]
                      have hA := HA18.out.keep hI.hb
                      have c6 := hA.c6
                      have HX := Lib.hid hA; clear hA
                      go_simp
                      exact hI.set (by simpa [Ord18, setL] using hI.ord) hI.hb (by first | rfl | (congr 1; omega)) (fun j u _ _ _ h => F18.keep h (Below.refl _ _) (by simp [setL]) (by simp [setL]) (by simp [setL]))
                    · refine .inl ⟨?_, ?_⟩
                      · rw [show us 16 = .bool false from hI.hF 16 (by decide) (hdep 16 rfl)]; rfl
                      rw [show us 23 = (.slice B L.length d) from hI.hF 23 (by decide) (hdep 23 rfl)]
                      have h4 := ((hI.hF 21 (by decide) (hdep 21 rfl) : Lz 24 = true ∨ wx.ownsRow W18.heap.size 59 7 (us 21) 0 [])).resolve_left (by rw [hLi]; decide)
                      obtain ⟨v', w', hr, hown, hbw⟩ := app_any 50 h4 (HrL18.out.keep hI.hb) HcL18.out.2.1 (by omega) hI.hb.size
                      refine gives_append (.tmp 122) (.tmp 124) 50 rfl rfl rfl hr ?_
                      have h96 := hI.ord.2.1
                      have h109 := hI.ord.2.2
                      refine hI.set ⟨fun _ => hdep 21 rfl, fun _ => rfl, h109⟩ (hI.hb.trans hbw) (.inr (by simpa using hown)) ?_
                      rintro (_|_|_|_|_|_|_|_|_|_|_|_|_|_|_|_|_|_|_|_|_|_|_|_|_|_|_|_|_|jj) u hj hne hL h
                      all_goals first | exact h | exact absurd rfl hne | exact absurd (h96 hL) (by rw [hLi]; decide) | exact absurd (h96 (h109 hL)) (by rw [hLi]; decide) | exact .inl (by simp [setL]) | trivial
                    · refine .inl ⟨?_, ?_⟩
                      · rw [show us 16 = .bool false from hI.hF 16 (by decide) (hdep 16 rfl)]; rfl
                      go_simp
                      exact hI.set (by simpa [Ord18, setL] using hI.ord) hI.hb (by first | rfl | (congr 1; omega)) (fun j u _ _ _ h => F18.keep h (Below.refl _ _) (by simp [setL]) (by simp [setL]) (by simp [setL]))
                    · refine .inl ⟨?_, ?_⟩
                      · rw [show us 16 = .bool false from hI.hF 16 (by decide) (hdep 16 rfl)]; rfl
                      rw [show us 25 = (.slice E M.length f) from hI.hF 25 (by decide) (hdep 25 rfl)]
                      have h6 := ((hI.hF 24 (by decide) (hdep 24 rfl) : Lz 26 = true ∨ wx.ownsRow W18.heap.size 59 7 (us 24) L.length csL)).resolve_left (by rw [hLi]; decide)
                      obtain ⟨v', w', hr, hown, hbw⟩ := app_any 50 h6 (HrM18.out.keep hI.hb) HcM18.out.2.1 (by omega) hI.hb.size
                      refine gives_append (.tmp 125) (.tmp 126) 50 rfl rfl rfl hr ?_
                      have h64 := hI.ord.1
                      have h109 := hI.ord.2.2
                      refine hI.set ⟨fun _ => h64 (hdep 24 rfl), fun _ => hdep 24 rfl, fun _ => rfl⟩ (hI.hb.trans hbw) (.inr hown) ?_
                      rintro (_|_|_|_|_|_|_|_|_|_|_|_|_|_|_|_|_|_|_|_|_|_|_|_|_|_|_|_|_|jj) u hj hne hL h
                      all_goals first | exact h | exact absurd rfl hne | exact .inl (hdep 24 rfl) | exact absurd (h109 hL) (by rw [hLi]; decide) | exact .inl (by simp [setL]) | trivial
                    · refine .inl ⟨?_, ?_⟩
                      · rw [show us 16 = .bool false from hI.hF 16 (by decide) (hdep 16 rfl)]; rfl
                      rw [show us 18 = polV (.slice A bs.length c) need from hI.hF 18 (by decide) (hdep 18 rfl)]
                      rw [show us 20 = dgv m from hI.hF 20 (by decide) (hdep 20 rfl)]
                      go_simp
                      have h9 := ((hI.hF 26 (by decide) (hdep 26 rfl) : Lz 27 = true ∨ wx.ownsRow W18.heap.size 59 7 (us 26) (L.length + M.length) (csL ++ csM))).resolve_left (by rw [hLi]; decide)
                      have hsg := own_sgs (L := L ++ M) (by rw [List.length_append]; exact h9) ((HcL18.out.append HcM18.out).keep hI.hb)
                      have hA := HA18.out.keep hI.hb
                      refine (qholds_any bs need m (L ++ M) _ _ _ hA.ht hA.hbs hsg hcap (by omega)).mono ?_
                      rw [Hhold.out Hh.out]
                      rintro e w1 ⟨rfl, hb1⟩
                      have h64 := hI.ord.1
                      have h96 := hI.ord.2.1
                      exact ⟨_, rfl, hI.set ⟨h64, h96, fun _ => hdep 26 rfl⟩ (hI.hb.trans (hb1.mono hI.hb.size)) rfl (fun j u _ _ _ h => F18.keep h hb1 (by simp [setL]) (by simp [setL]) (by simp [setL]))⟩
                    · refine .inl ⟨?_, ?_⟩
                      · rw [show us 7 = .bool true from hI.hF 7 (by decide) (hdep 7 rfl)]; rfl
                      rw [show us 16 = .bool false from hI.hF 16 (by decide) (hdep 16 rfl)]
                      rw [show us 27 = .bool true from hI.hF 27 (by decide) (hdep 27 rfl)]
                      go_simp
                      exact hI.set (by simpa [Ord18, setL] using hI.ord) hI.hb (by first | rfl | (congr 1; omega)) (fun j u _ _ _ h => F18.keep h (Below.refl _ _) (by simp [setL]) (by simp [setL]) (by simp [setL]))
                  rintro us18 W19 hI19
                  have e7 : us18 7 = .bool true := hI19.hF 7 (by decide) (by decide)
                  have e28 : us18 28 = .bool true := hI19.hF 28 (by decide) (by decide)
                  have hb19 := Hb0w.out.trans (hI19.hb.mono Hb0w.out.size)
                  clear hI19
                  simp only [putAll, dstOf, List.getElem?_toArray, List.getElem?_cons_succ, List.getElem?_cons_zero, Option.bind_some, List.drop_succ_cons, List.drop_zero]
                  rw [e7, e28]
                  clear e7 e28
                  go_frame
                  go_wp2_with fail
                  exact bodyPost_ret (v := .bool true) (by simp [results, Tryd.results13, go_sem]) rfl ⟨rfl, hb19⟩
end Go.Proofs.YtpodfmnnabepaaaDoor
