/- The law of a drawn region by an invariant, with guarded operations in the head. -/
import Derived.Test.YtpodfmnnabepaaaDoorR3
namespace Go
open Go.RowKit
section
variable {P : Program} {ops : Array Oper} {md : Region.Mode}
def Region.invGB (md : Region.Mode) (ops : Array Oper) (n : Nat) : Bool :=
  decide (n ≤ ops.size) && (decide (n = ops.size) || (Region.sinkB md ops n && Region.chainB md ops n)) &&
  ((List.range n).all fun i => match ops[i]? with | some o => o.after.toList.all (fun e => decide (e.on < i)) | none => false) &&
  ((List.range n).all fun i => (List.range n).all fun j => decide (i = j) || decide (dstOf ops i = none) || decide (dstOf ops i ≠ dstOf ops j)) &&
  Region.seqB md ops (ops.size - n) n (Region.headDone ops.size n)

/-- Operation i's part: it is wanted and yields, or it is not wanted. -/
def OpYieldsG (P : Program) (md : Region.Mode) (ops : Array Oper) (S : World → Prop) (F : Nat → Value → World → Prop) (n : Nat) (a0 : Act) (i : Nat) (o : Oper) : Prop :=
  ∀ (us : Nat → Value) (w : World), S w → (∀ j, (o.after.toList.any fun e => Region.binds md e && decide (e.on = j)) = true → F j (us j) w) →
    (Region.wanted o (yielded ops (putAll ops us n a0).tmps) = true ∧ GivesK P (fun v w' => F i v w' ∧ Below w.heap.size w w') ((execOp (putAll ops us n a0).eval o).run P w)) ∨
    (Region.wanted o (yielded ops (putAll ops us n a0).tmps) = false ∧ F i undef w)

theorem OpYieldsG.wpOp {F : Nat → Value → World → Prop} {n : Nat} {a0 : Act} {Q : Exit → Act → World → Prop} {i : Nat} {o : Oper} {us : Nat → Value} {w : World} (hi : ops[i]? = some o)
    (h0 : (Region.wanted o (yielded ops (putAll ops us n a0).tmps) = true ∧ GivesK P (fun v w' => F i v w' ∧ Below w.heap.size w w') ((execOp (putAll ops us n a0).eval o).run P w)) ∨ (Region.wanted o (yielded ops (putAll ops us n a0).tmps) = false ∧ F i undef w))
    {K : Act → World → Prop} (h : ∀ v w', F i v w' ∧ Below w.heap.size w w' → K ((putAll ops us n a0).put o.dst v) w') : wpOp P ops Q i K (putAll ops us n a0) w := by
  generalize putAll ops us n a0 = a at *
  unfold Go.wpOp
  simp only [hi]
  rcases h0 with ⟨hw, h0⟩ | ⟨hw, h0⟩
  · rw [if_pos hw]
    refine .inl ?_
    unfold Oper.wp
    generalize (execOp a.eval o).run P w = r at h0
    cases r with
    | ok n w' =>
      cases n <;> simp only [GivesK] at h0
      case value u => exact h _ _ h0
      case skip => exact h _ _ h0
      case enter f args =>
        rw [Oper.upon_enter]
        refine h0.mono fun e w'' he => ?_
        obtain ⟨v, rfl, h2⟩ := he
        exact h v w'' h2
    | halt x w' => exact h0.elim
  · rw [if_neg (by rw [hw]; decide)]
    exact h _ _ ⟨h0, Below.refl _ _⟩

def invHeadG (P : Program) (md : Region.Mode) (ops : Array Oper) (S : World → Prop) (F : Nat → Value → World → Prop) (n : Nat) (a0 : Act) : List Oper → Nat → Prop
  | [], _ => True
  | o :: l, k => OpYieldsG P md ops S F n a0 k o ∧ invHeadG P md ops S F n a0 l (k + 1)

theorem invHeadG_get {S : World → Prop} {F : Nat → Value → World → Prop} {n : Nat} {a0 : Act} : ∀ (l : List Oper) (k : Nat), invHeadG P md ops S F n a0 l k → ∀ j o, l[j]? = some o → OpYieldsG P md ops S F n a0 (k + j) o
  | [], _, _, _, _, h => by simp at h
  | x :: l, k, h, 0, o, ho => by obtain rfl : x = o := by simpa using ho
                                 exact h.1
  | x :: l, k, h, j + 1, o, ho => by
    have := invHeadG_get l (k + 1) h.2 j o (by simpa using ho)
    rwa [show k + 1 + j = k + (j + 1) by omega] at this

theorem invGB_spec {n : Nat} (h : Region.invGB md ops n = true) : n ≤ ops.size ∧ (n = ops.size ∨ (Region.sinkB md ops n = true ∧ Region.chainB md ops n = true)) ∧
    (∀ i, i < n → ∃ o, ops[i]? = some o ∧ ∀ e ∈ o.after, e.on < i) ∧ (∀ j k, j < n → k < n → j ≠ k → dstOf ops j = none ∨ dstOf ops j ≠ dstOf ops k) ∧ Region.seqB md ops (ops.size - n) n (Region.headDone ops.size n) = true := by
  simp only [Region.invGB, Bool.and_eq_true, decide_eq_true_eq, Bool.or_eq_true] at h
  obtain ⟨⟨⟨⟨h1, h2⟩, h3⟩, h4⟩, h5⟩ := h
  refine ⟨h1, h2, fun i hi => ?_, fun j k hj hk hjk => ?_, h5⟩
  · have := List.all_eq_true.1 h3 i (List.mem_range.2 hi)
    revert this
    cases ho : ops[i]? with
    | none => simp
    | some o =>
      intro this
      exact ⟨o, rfl, fun e he => by simpa using (List.all_eq_true.1 this e (by simpa using he))⟩
  · have := List.all_eq_true.1 (List.all_eq_true.1 h4 j (List.mem_range.2 hj)) k (List.mem_range.2 hk)
    simp only [Bool.or_eq_true, decide_eq_true_eq] at this
    rcases this with (h | h) | h
    · exact absurd h hjk
    · exact .inl h
    · exact .inr h

theorem wpAny_invG {S : World → Prop} {F : Nat → Value → World → Prop} {n : Nat} {a0 : Act} {Q : Exit → Act → World → Prop} (hB : Region.invGB md ops n = true)
    (hSp : ∀ w w', S w → Below w.heap.size w w' → S w') (hFp : ∀ j v w w', Below w.heap.size w w' → F j v w → F j v w') (hop : ∀ i o, i < n → ops[i]? = some o → OpYieldsG P md ops S F n a0 i o)
    (hend : ∀ us w, S w → (∀ j, j < n → F j (us j) w) → wpAny P md ops Q (ops.size - n) (Region.headDone ops.size n) (putAll ops us n a0) w) :
    ∀ (f : Nat) (listed : Array Bool) (us : Nat → Value) (w : World), unlistedN listed n = f → HeadInv md ops n listed → S w → (∀ j, j < n → listed.getD j true = true → F j (us j) w) →
      wpAny P md ops Q (f + (ops.size - n)) listed (putAll ops us n a0) w := by
  obtain ⟨hle, hsc, hops, hdst, _⟩ := invGB_spec hB
  intro f
  induction f with
  | zero =>
    intro listed us w hl inv hS hF
    have hdone : listed = Region.headDone ops.size n := by
      apply Array.ext
      · simp [Region.headDone, inv.size]
      · intro j h1 h2
        have hv : listed.getD j true = listed[j] := by simp [h1]
        have : (Region.headDone ops.size n)[j] = decide (j < n) := by simp [Region.headDone]
        rw [this]
        by_cases hjn : j < n
        · rw [← hv, unlistedN_zero hl j hjn]; simp [hjn]
        · rw [← hv, inv.tail j (by omega) (by rw [← inv.size]; exact h1)]; simp [hjn]
    rw [Nat.zero_add, hdone]
    exact hend us w hS fun j hj => hF j hj (unlistedN_zero hl j hj)
  | succ f ih =>
    intro listed us w hl inv hS hF
    obtain ⟨k, hk, hku, hkl⟩ := unlistedN_pos (n := n) (listed := listed) (by omega)
    have hkr : k ∈ Region.ready md ops listed := by
      obtain ⟨o, ho, hlt⟩ := hops k hk
      refine mem_ready.2 ⟨hku, o, ho, fun e he _ => ?_⟩
      have h1 := hkl e.on (hlt e he)
      have h2 : e.on < listed.size := by rw [inv.size]; have := hlt e he; omega
      simp [h2] at h1 ⊢; exact h1
    rw [show f + 1 + (ops.size - n) = (f + (ops.size - n)) + 1 by omega]
    refine ⟨fun h0 => (by rw [h0] at hkr; cases hkr), fun i hi => ?_⟩
    obtain ⟨hiu, oi, hoi, hall⟩ := mem_ready.1 hi
    have hin : i < n := by
      rcases hsc with h | ⟨h1, h2⟩
      · rcases Nat.lt_or_ge i n with h' | h'
        · exact h'
        · rw [Array.getElem?_eq_none (by omega)] at hoi; cases hoi
      · rcases Nat.lt_or_ge n ops.size with h' | h'
        · exact Nat.lt_of_not_le fun h => tail_waits h1 h2 h' inv _ k rfl hk hku i h hi
        · rcases Nat.lt_or_ge i n with h'' | h''
          · exact h''
          · rw [Array.getElem?_eq_none (by omega)] at hoi; cases hoi
    obtain ⟨o', ho', _⟩ := hops i hin
    obtain rfl : oi = o' := Option.some.inj (hoi.symm.trans ho')
    have hd : dstOf ops i = oi.dst := by simp [dstOf, hoi]
    refine OpYieldsG.wpOp hoi (hop i oi hin hoi us w hS fun j hj => ?_) fun v w' hv => ?_
    · obtain ⟨e, he, hb⟩ : ∃ e ∈ oi.after, Region.binds md e = true ∧ e.on = j := by
        obtain ⟨e, he, hb⟩ := List.any_eq_true.1 hj
        exact ⟨e, by simpa using he, by simpa using hb⟩
      have h1 := hall e he hb.1
      rw [hb.2] at h1
      have hjn : j < n := by
        obtain ⟨o2, ho2, hlt⟩ := hops i hin
        obtain rfl : oi = o2 := Option.some.inj (hoi.symm.trans ho2)
        have := hlt e he; omega
      have h2 : j < listed.size := by rw [inv.size]; omega
      exact hF j hjn (by simp [h2] at h1 ⊢; exact h1)
    · rw [← hd, putAll_put n a0 hdst hin]
      refine ih _ (updV us i v) w' ?_ (inv.set hi hin) (hSp _ _ hS hv.2) fun j hj hjl => ?_
      · have := unlistedN_set hiu hin; omega
      · by_cases hji : j = i
        · subst hji; simpa [updV] using hv.1
        · rw [getD_set_ne true (Ne.symm hji)] at hjl
          simpa [updV, hji] using hFp j _ _ _ hv.2 (hF j hj hjl)

/-- THE LAW. -/
theorem wp_region_invG {id : Nat} {Q : Exit → Act → World → Prop} {a : Act} {w : World} {l : List Oper} (S : World → Prop) (F : Nat → Value → World → Prop) (n : Nat) (hm : P.follows .mixedOrders = true) (hB : Region.invGB .any l.toArray n = true)
    (hS : S w.drew) (hSp : ∀ w w', S w → Below w.heap.size w w' → S w') (hFp : ∀ j v w w', Below w.heap.size w w' → F j v w → F j v w')
    (hop : invHeadG P .any l.toArray S F n a (l.take n) 0)
    (hend : ∀ us w', S w' → (∀ j, j < n → F j (us j) w') → wpList P l.toArray Q (l.drop n) (putAll l.toArray us n a) w') : (Code.region id l.toArray true).wp P Q a w := by
  obtain ⟨hle, _, _, _, hseq⟩ := invGB_spec hB
  have hdl : (l.drop n).length = l.toArray.size - n := by simp
  have inv0 : HeadInv .any l.toArray n (Array.replicate l.toArray.size false) :=
    ⟨by simp, fun j oj _ hl => (by rw [getD_replicate_false] at hl; cases hl), fun t _ ht => getD_in (by simpa using ht) (getD_replicate_false _ _)⟩
  have hle' : n ≤ l.length := by simpa using hle
  refine wp_region_any hm ?_
  have hleft : ∀ m, m ≤ l.length → unlistedN (Array.replicate l.length false) m = m := by
    intro m
    induction m with
    | zero => intro _; rfl
    | succ m ih => intro hm; simp only [unlistedN]; rw [ih (by omega), getD_in (by simp; omega) (getD_replicate_false _ _)]; simp; omega
  have := wpAny_invG (P := P) (Q := Q) (a0 := a) hB hSp hFp (fun i o hi ho => by
      have := invHeadG_get (l.take n) 0 hop i o (by rw [List.getElem?_take_of_lt hi]; simpa using ho)
      rwa [Nat.zero_add] at this)
    (fun us w' hS' hF => by
      have := wpAny_of_seq (md := .any) (Q' := Q) (l.drop n) n (Region.headDone l.toArray.size n) (putAll l.toArray us n a) w' (fun j => by simp [List.getElem?_drop]) (by rw [hdl]; exact hseq) (hend us w' hS' hF)
      rwa [hdl] at this)
    n (Array.replicate l.toArray.size false) (fun j => match dstOf l.toArray j with | some d => a.tmps.getD d undef | none => undef) w.drew (by simpa using hleft n hle') inv0 hS (fun j hj hjl => by
      rw [getD_in (by simp; omega) (getD_replicate_false _ _)] at hjl; cases hjl)
  rw [show putAll l.toArray (fun j => match dstOf l.toArray j with | some d => a.tmps.getD d undef | none => undef) n a = a from putAll_self a n, show n + (l.toArray.size - n) = l.toArray.size by omega] at this
  exact this
end
end Go
