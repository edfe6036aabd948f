/- A region that draws its order and makes variables: as the law before, with operations that lay a new block beside the calls. -/
import Derived.Test.YtpodfmnnabepaaaDoorR
namespace Go
section
variable {P : Program} {ops : Array Oper} {S : (Nat → Option Nat) → World → Prop}

/-- Which block each laying operation has laid. -/
def laidAt (T : Nat → Option Nat) (q B : Nat) : Nat → Option Nat := fun j => if j = q then some B else T j
theorem laidAt_comm (T : Nat → Option Nat) {p q : Nat} (h : p ≠ q) (A B : Nat) : laidAt (laidAt T p A) q B = laidAt (laidAt T q B) p A := by
  funext j
  unfold laidAt
  by_cases h1 : j = q
  · by_cases h2 : j = p
    · exact absurd (h2.symm.trans h1) h
    · simp [h1, Ne.symm h]
  · simp [h1]

def YieldsT (P : Program) (ops : Array Oper) (S : (Nat → Option Nat) → World → Prop) (o : Oper) (v : Value) (a : Act) : Prop := ∀ T, YieldsS P ops (S T) o v a

/-- Operation q lays a block. -/
def Lays (P : Program) (ops : Array Oper) (S : (Nat → Option Nat) → World → Prop) (q : Nat) : Prop :=
  ∃ o d, ops[q]? = some o ∧ o.guard = none ∧ o.dst = some d ∧ ∀ (ρ : Operand → Value) T w, S T w → ∃ w', (execOp ρ o).run P w = .ok (.value (.pointer (some ⟨w.heap.size, 0, none⟩))) w' ∧ S (laidAt T q w.heap.size) w'

def dstOf (ops : Array Oper) (q : Nat) : Option Tmp := (ops[q]?).bind (·.dst)
def ptrTo (B : Nat) : Value := .pointer (some ⟨B, 0, none⟩)

def AnyT (P : Program) (md : Region.Mode) (ops : Array Oper) (S : (Nat → Option Nat) → World → Prop) (qs : List Nat) (n : Nat) (L : Array Bool → (Nat → Option Nat) → Act → Prop) : Nat → Array Bool → (Nat → Option Nat) → Act → Prop
  | 0, listed, T, a => L listed T a
  | f + 1, listed, T, a =>
    Region.ready md ops listed ≠ [] ∧ ∀ i ∈ Region.ready md ops listed, i < n ∧
      ((i ∈ qs ∧ ∀ B, AnyT P md ops S qs n L f (listed.setIfInBounds i true) (laidAt T i B) (a.put (dstOf ops i) (ptrTo B))) ∨
       (i ∉ qs ∧ ∃ o v, ops[i]? = some o ∧ YieldsT P ops S o v a ∧ AnyT P md ops S qs n L f (listed.setIfInBounds i true) T (a.put o.dst v)))

variable {md : Region.Mode} {qs : List Nat}

theorem Lays.wpOp {Q : Exit → Act → World → Prop} {q : Nat} {a : Act} {T : Nat → Option Nat} {w : World} (h : Lays P ops S q) (hS : S T w) {K : Act → World → Prop} (hK : ∀ B w', S (laidAt T q B) w' → K (a.put (dstOf ops q) (ptrTo B)) w') : wpOp P ops Q q K a w := by
  obtain ⟨o, d, ho, hg, hd, hr⟩ := h
  obtain ⟨w', hrun, hS'⟩ := hr a.eval T w hS
  have := hK _ _ hS'
  unfold Go.wpOp
  simp only [ho]
  rw [if_pos (by simp [Region.wanted, hg])]
  refine .inl ?_
  unfold Oper.wp
  rw [hrun, Oper.upon_value]
  simpa [dstOf, ho, ptrTo] using this

theorem wpAny_of_anyT (hQ : ∀ q ∈ qs, Lays P ops S q) {n g : Nat} {L : Array Bool → (Nat → Option Nat) → Act → Prop} {Q : Exit → Act → World → Prop} (hL : ∀ listed T a w, S T w → L listed T a → wpAny P md ops Q g listed a w) :
    ∀ (f : Nat) (listed : Array Bool) (T : Nat → Option Nat) (a : Act) (w : World), S T w → AnyT P md ops S qs n L f listed T a → wpAny P md ops Q (f + g) listed a w
  | 0, listed, T, a, w, hS, h => by rw [Nat.zero_add]; exact hL _ _ _ _ hS h
  | f + 1, listed, T, a, w, hS, h => by
    rw [show f + 1 + g = (f + g) + 1 by omega]
    refine ⟨fun h0 => absurd h0 h.1, fun i hi => ?_⟩
    obtain ⟨_, ⟨hq, hn⟩ | ⟨_, o, v, ho, hy, hn⟩⟩ := h.2 i hi
    · exact (hQ i hq).wpOp hS fun B w' hS' => wpAny_of_anyT hQ hL f _ _ _ w' hS' (hn B)
    · exact (hy T).wpOp ho hS fun w' hS' => wpAny_of_anyT hQ hL f _ _ _ w' hS' hn

/-- A fixed operation may be taken first. -/
theorem anyT_first {n i : Nat} {oi : Oper} {v : Value} {L : Array Bool → (Nat → Option Nat) → Act → Prop} (hi : ops[i]? = some oi) (hiq : i ∉ qs) (hsel : ∀ (j : Nat) (o : Oper) cs b, ops[j]? = some o → o.op ≠ .select cs b)
    (hs : Region.sinkB md ops n = true) (hc : Region.chainB md ops n = true) (hn : n < ops.size) (hin : i < n)
    (hdone : ∀ listed T a, L listed T a → ∀ j ∈ Region.ready md ops listed, n ≤ j) :
    ∀ (f : Nat) (listed : Array Bool) (T : Nat → Option Nat) (a : Act), HeadInv md ops n listed →
      (∀ j oj, ops[j]? = some oj → j ≠ i → listed.getD j true = false → (∀ e ∈ oj.after, Region.binds md e = true → e.on ≠ i) → oi.apart ops oj = true) →
      i ∈ Region.ready md ops listed → YieldsT P ops S oi v a →
      AnyT P md ops S qs n L f (listed.setIfInBounds i true) T (a.put oi.dst v) → AnyT P md ops S qs n L (f + 1) listed T a := by
  intro f
  induction f with
  | zero =>
    intro listed T a inv _ hr hy H
    have hun := (mem_ready.1 hr).1
    refine ⟨fun h => (by rw [h] at hr; cases hr), fun j hj => ?_⟩
    have hjn : j < n := Nat.lt_of_not_le fun h => tail_waits hs hc hn inv _ i rfl hin hun j h hj
    by_cases hji : j = i
    · subst hji; exact ⟨hjn, .inr ⟨hiq, oi, v, hi, hy, H⟩⟩
    · have := hdone _ _ _ H j (ready_mono hj hji)
      omega
  | succ f ih =>
    intro listed T a inv hfree hr hy H
    have hun := (mem_ready.1 hr).1
    refine ⟨fun h => (by rw [h] at hr; cases hr), fun j hj => ?_⟩
    have hjn : j < n := Nat.lt_of_not_le fun h => tail_waits hs hc hn inv _ i rfl hin hun j h hj
    by_cases hji : j = i
    · subst hji; exact ⟨hjn, .inr ⟨hiq, oi, v, hi, hy, H⟩⟩
    · obtain ⟨hjun, oj, hoj, hall⟩ := mem_ready.1 hj
      have hnot : ∀ e ∈ oj.after, Region.binds md e = true → e.on ≠ i := fun e he hb heq => by
        have h1 := hall e he hb
        rw [heq, getD_both hun] at h1
        cases h1
      obtain ⟨h1, h2, h3⟩ := Oper.apart_spec (hfree j oj hoj hji hjun hnot)
      have hfree' : ∀ k ok, ops[k]? = some ok → k ≠ i → (listed.setIfInBounds j true).getD k true = false →
          (∀ e ∈ ok.after, Region.binds md e = true → e.on ≠ i) → oi.apart ops ok = true := fun k ok hk hki hun' hno => by
        refine hfree k ok hk hki ?_ hno
        by_cases hjk : j = k
        · subst hjk; exact hjun
        · rw [getD_set_ne true hjk] at hun'; exact hun'
      have hkeep : ∀ u, YieldsT P ops S oi v (a.put oj.dst u) := fun u T' => (hy T').keep (fun cs b => hsel i oi cs b hi) h3 u
      obtain ⟨_, ⟨hjq, hrest⟩ | ⟨hjq, oj', u, hoj', hyj, hrest⟩⟩ := H.2 j (ready_mono hj hji)
      · refine ⟨hjn, .inl ⟨hjq, fun B => ?_⟩⟩
        have hdj : dstOf ops j = oj.dst := by simp [dstOf, hoj]
        rw [hdj]
        refine ih (listed.setIfInBounds j true) _ (a.put oj.dst (ptrTo B)) (inv.set hj hjn) hfree' (ready_mono hr (Ne.symm hji)) (hkeep _) ?_
        rw [Array.setIfInBounds_comm _ _ hji, ← Act.put_comm a v (ptrTo B) h2, ← hdj]
        exact hrest B
      · obtain rfl : oj = oj' := Option.some.inj (hoj.symm.trans hoj')
        refine ⟨hjn, .inr ⟨hjq, oj, u, hoj, fun T' => (hyj T').back (fun cs b => hsel j oj cs b hoj) h1, ?_⟩⟩
        refine ih (listed.setIfInBounds j true) T (a.put oj.dst u) (inv.set hj hjn) hfree' (ready_mono hr (Ne.symm hji)) (hkeep u) ?_
        rw [Array.setIfInBounds_comm _ _ hji, ← Act.put_comm a v u h2]
        exact hrest

/-- A laying operation may be taken first where laying operations alone are left. -/
theorem anyT_lay {n i : Nat} {oi : Oper} {L : Array Bool → (Nat → Option Nat) → Act → Prop} (hi : ops[i]? = some oi) (hiq : i ∈ qs)
    (hs : Region.sinkB md ops n = true) (hc : Region.chainB md ops n = true) (hn : n < ops.size) (hin : i < n)
    (hdone : ∀ listed T a, L listed T a → ∀ j ∈ Region.ready md ops listed, n ≤ j) :
    ∀ (f : Nat) (listed : Array Bool) (T : Nat → Option Nat) (a : Act), HeadInv md ops n listed →
      (∀ j, j < n → listed.getD j true = false → j ∈ qs) →
      (∀ j oj, ops[j]? = some oj → j ≠ i → listed.getD j true = false → (∀ e ∈ oj.after, Region.binds md e = true → e.on ≠ i) → oi.apart ops oj = true) →
      i ∈ Region.ready md ops listed →
      (∀ B, AnyT P md ops S qs n L f (listed.setIfInBounds i true) (laidAt T i B) (a.put (dstOf ops i) (ptrTo B))) → AnyT P md ops S qs n L (f + 1) listed T a := by
  intro f
  induction f with
  | zero =>
    intro listed T a inv _ _ hr H
    have hun := (mem_ready.1 hr).1
    refine ⟨fun h => (by rw [h] at hr; cases hr), fun j hj => ?_⟩
    have hjn : j < n := Nat.lt_of_not_le fun h => tail_waits hs hc hn inv _ i rfl hin hun j h hj
    by_cases hji : j = i
    · subst hji; exact ⟨hjn, .inl ⟨hiq, H⟩⟩
    · have := hdone _ _ _ (H 0) j (ready_mono hj hji)
      omega
  | succ f ih =>
    intro listed T a inv hrest hfree hr H
    have hun := (mem_ready.1 hr).1
    refine ⟨fun h => (by rw [h] at hr; cases hr), fun j hj => ?_⟩
    have hjn : j < n := Nat.lt_of_not_le fun h => tail_waits hs hc hn inv _ i rfl hin hun j h hj
    by_cases hji : j = i
    · subst hji; exact ⟨hjn, .inl ⟨hiq, H⟩⟩
    · obtain ⟨hjun, oj, hoj, hall⟩ := mem_ready.1 hj
      have hjq := hrest j hjn hjun
      have hnot : ∀ e ∈ oj.after, Region.binds md e = true → e.on ≠ i := fun e he hb heq => by
        have h1 := hall e he hb
        rw [heq, getD_both hun] at h1
        cases h1
      obtain ⟨h1, h2, h3⟩ := Oper.apart_spec (hfree j oj hoj hji hjun hnot)
      have hset : ∀ k, (listed.setIfInBounds j true).getD k true = false → listed.getD k true = false := fun k hk => by
        by_cases hjk : j = k
        · subst hjk; exact hjun
        · rw [getD_set_ne true hjk] at hk; exact hk
      refine ⟨hjn, .inl ⟨hjq, fun A => ?_⟩⟩
      refine ih (listed.setIfInBounds j true) _ _ (inv.set hj hjn) (fun k hk hu => hrest k hk (hset k hu)) (fun k ok hk hki hu hno => hfree k ok hk hki (hset k hu) hno) (ready_mono hr (Ne.symm hji)) (fun B => ?_)
      obtain ⟨_, ⟨_, hr2⟩ | ⟨hjq', _⟩⟩ := (H B).2 j (ready_mono hj hji)
      · have hdi : dstOf ops i = oi.dst := by simp [dstOf, hi]
        have hdj : dstOf ops j = oj.dst := by simp [dstOf, hoj]
        have := hr2 A
        rw [Array.setIfInBounds_comm _ _ (Ne.symm hji), laidAt_comm T (Ne.symm hji), hdi, hdj, Act.put_comm a (ptrTo B) (ptrTo A) h2] at this
        rw [hdi, hdj]
        exact this
      · exact absurd hjq hjq'

/-- The fixed operations in the order that is named, each value once. -/
def wpHeadT (P : Program) (ops : Array Oper) (S : (Nat → Option Nat) → World → Prop) (Q : Act → Prop) : List Oper → Act → Prop
  | [], a => Q a
  | o :: rest, a => ∃ v, YieldsT P ops S o v a ∧ wpHeadT P ops S Q rest (a.put o.dst v)
/-- Then the laid blocks. -/
def wpLays (ops : Array Oper) (Q : (Nat → Option Nat) → Act → Prop) : List Nat → (Nat → Option Nat) → Act → Prop
  | [], T, a => Q T a
  | q :: qs, T, a => ∀ B, wpLays ops Q qs (laidAt T q B) (a.put (dstOf ops q) (ptrTo B))

def Region.along (md : Region.Mode) (ops : Array Oper) (g n : Nat) : List Nat → Array Bool → Bool
  | [], listed => Region.seqB md ops g n listed
  | k :: ks, listed => decide (k < n) && (Region.ready md ops listed).contains k && Region.free md ops listed k && Region.along md ops g n ks (listed.setIfInBounds k true)
def Region.headB (md : Region.Mode) (ops : Array Oper) (n : Nat) (ks qs : List Nat) : Bool :=
  Region.noSelect ops && decide (n < ops.size) && Region.sinkB md ops n && Region.chainB md ops n && decide (ks.length + qs.length = n) && ks.all (fun k => !qs.contains k) && qs.all (fun q => q < n) && (List.range n).all (fun i => ks.contains i || qs.contains i) &&
    Region.along md ops (ops.size - n) n (ks ++ qs) (Array.replicate ops.size false)

theorem anyT_lays {n g : Nat} {Lq : (Nat → Option Nat) → Act → Prop} (hs : Region.sinkB md ops n = true) (hc : Region.chainB md ops n = true) (hn : n < ops.size) :
    ∀ (rs : List Nat), (∀ r ∈ rs, r ∈ qs) → ∀ (listed : Array Bool) (T : Nat → Option Nat) (a : Act), HeadInv md ops n listed → (∀ j, j < n → listed.getD j true = false → j ∈ qs) →
    Region.along md ops g n rs listed = true → wpLays ops Lq rs T a →
    AnyT P md ops S qs n (fun listed' T' a' => Region.seqB md ops g n listed' = true ∧ Lq T' a') rs.length listed T a
  | [], _, _, _, _, _, _, hB, h => ⟨by simpa [Region.along] using hB, h⟩
  | r :: rs, hrs, listed, T, a, inv, hall, hB, h => by
    simp only [Region.along, Bool.and_eq_true, decide_eq_true_eq] at hB
    obtain ⟨⟨⟨hk, hr⟩, hf⟩, hB'⟩ := hB
    have hr' : r ∈ Region.ready md ops listed := by simpa using hr
    obtain ⟨hrun, o, ho, _⟩ := mem_ready.1 hr'
    refine anyT_lay ho (hrs r (by simp)) hs hc hn hk (fun listed' T' a' hL => seqB_ready hL.1) rs.length listed T a inv hall (Region.free_spec ho hf) hr' (fun B => ?_)
    refine anyT_lays hs hc hn rs (fun x hx => hrs x (by simp [hx])) _ _ _ (inv.set hr' hk) (fun j hj hu => hall j hj ?_) hB' (h B)
    by_cases hjk : r = j
    · subst hjk; exact hrun
    · rw [getD_set_ne true hjk] at hu; exact hu

theorem anyT_along {n g : Nat} {Lq : (Nat → Option Nat) → Act → Prop} (hsel : Region.noSelect ops = true) (hs : Region.sinkB md ops n = true) (hc : Region.chainB md ops n = true) (hn : n < ops.size) (T : Nat → Option Nat) :
    ∀ (ks : List Nat) (l : List Oper), (∀ k ∈ ks, k ∉ qs) → l.map some = ks.map (fun k => ops[k]?) → ∀ (listed : Array Bool) (a : Act), HeadInv md ops n listed → (∀ j, j < n → listed.getD j true = false → j ∈ ks ∨ j ∈ qs) →
    Region.along md ops g n (ks ++ qs) listed = true → wpHeadT P ops S (fun a' => wpLays ops Lq qs T a') l a →
    AnyT P md ops S qs n (fun listed' T' a' => Region.seqB md ops g n listed' = true ∧ Lq T' a') (ks.length + qs.length) listed T a
  | [], l, _, hl, listed, a, inv, hall, hB, h => by
    obtain rfl : l = [] := by simpa using hl
    simp only [List.length_nil, Nat.zero_add]
    exact anyT_lays hs hc hn qs (fun _ h => h) listed T a inv (fun j hj hu => by simpa using hall j hj hu) (by simpa using hB) h
  | k :: ks, [], _, hl, _, _, _, _, _, _ => by simp at hl
  | k :: ks, o :: l, hkq, hl, listed, a, inv, hall, hB, h => by
    simp only [List.map_cons, List.cons.injEq] at hl
    obtain ⟨h0, hl⟩ := hl
    simp only [List.cons_append, Region.along, Bool.and_eq_true, decide_eq_true_eq] at hB
    obtain ⟨⟨⟨hk, hr⟩, hf⟩, hB'⟩ := hB
    have hr' : k ∈ Region.ready md ops listed := by simpa using hr
    have hkun := (mem_ready.1 hr').1
    obtain ⟨v, hy, hK⟩ := h
    rw [show (k :: ks).length + qs.length = (ks.length + qs.length) + 1 by simp; omega]
    refine anyT_first h0.symm (hkq k (by simp)) (Region.noSelect_spec hsel) hs hc hn hk (fun listed' T' a' hL => seqB_ready hL.1) _ listed T a inv (Region.free_spec h0.symm hf) hr' hy ?_
    refine anyT_along hsel hs hc hn T ks l (fun x hx => hkq x (by simp [hx])) hl _ _ (inv.set hr' hk) (fun j hj hu => ?_) hB' hK
    by_cases hjk : k = j
    · subst hjk
      have hsz : k < listed.size := by rw [inv.size]; exact Nat.lt_trans hk hn
      simp [hsz] at hu
    · rw [getD_set_ne true hjk] at hu
      rcases hall j hj hu with h | h
      · rcases List.mem_cons.1 h with h | h
        · exact absurd h.symm hjk
        · exact .inl h
      · exact .inr h

/-- THE LAW: 'ks': the head's fixed operations in an order; 'qs': those that lay a block. -/
theorem wp_region_lays {id : Nat} {Q : Exit → Act → World → Prop} {a : Act} {w : World} {l : List Oper} (S : (Nat → Option Nat) → World → Prop) (n : Nat) (ks qs : List Nat) (h0 : List Oper) (hm : P.follows .mixedOrders = true) (hB : Region.headB .any l.toArray n ks qs = true)
    (hl : h0.map some = ks.map (fun k => l.toArray[k]?)) (hQ : ∀ q ∈ qs, Lays P l.toArray S q)
    (hS : S (fun _ => none) w.drew) (h : wpHeadT P l.toArray S (fun a' => wpLays l.toArray (fun T a'' => ∀ w', S T w' → wpList P l.toArray Q (l.drop n) a'' w') qs (fun _ => none) a') h0 a) : (Code.region id l.toArray true).wp P Q a w := by
  simp only [Region.headB, Bool.and_eq_true, decide_eq_true_eq] at hB
  obtain ⟨⟨⟨⟨⟨⟨⟨⟨hsel, hn⟩, hs⟩, hc⟩, hlen⟩, hkq⟩, hqn⟩, hcov⟩, hal⟩ := hB
  have hn' : n < l.length := by simpa using hn
  have hdl : (l.drop n).length = l.toArray.size - n := by simp
  have inv0 : HeadInv .any l.toArray n (Array.replicate l.toArray.size false) :=
    ⟨by simp, fun j oj _ hl => (by rw [getD_replicate_false] at hl; cases hl), fun t _ ht => getD_in (by simpa using ht) (getD_replicate_false _ _)⟩
  have H := anyT_along (md := .any) (g := l.toArray.size - n) hsel hs hc hn (fun _ => none) ks h0 (fun k hk => by
    have := List.all_eq_true.1 hkq k hk
    simpa using this) hl _ a inv0 (fun j hj _ => by
    have := List.all_eq_true.1 hcov j (List.mem_range.2 hj)
    simpa using this) hal h
  refine wp_region_any hm ?_
  have := wpAny_of_anyT hQ (Q := Q) (g := l.toArray.size - n) (fun listed T a' w' hS' hL => by
    have := wpAny_of_seq (md := .any) (Q' := Q) (l.drop n) n listed a' w' (fun j => by simp [List.getElem?_drop]) (by rw [hdl]; exact hL.1) (hL.2 w' hS')
    rwa [hdl] at this) _ _ _ _ w.drew hS H
  rw [hlen, show n + (l.toArray.size - n) = l.toArray.size by omega] at this
  exact this
theorem pick_all (l : List Oper) : ∀ (ks : List Nat), (∀ k ∈ ks, k < l.length) → (ks.filterMap fun k => l[k]?).map some = ks.map (fun k => l.toArray[k]?)
  | [], _ => rfl
  | k :: ks, h => by
    have hk : k < l.length := h k (by simp)
    have ih := pick_all l ks (fun x hx => h x (by simp [hx]))
    rw [List.filterMap_cons_some (List.getElem?_eq_getElem hk), List.map_cons, List.map_cons, ih]
    simp [hk]
/-- The same, the head's operations picked out of the text. -/
theorem wp_region_pick {id : Nat} {Q : Exit → Act → World → Prop} {a : Act} {w : World} {l : List Oper} (S : (Nat → Option Nat) → World → Prop) (n : Nat) (ks qs : List Nat) (hm : P.follows .mixedOrders = true) (hB : (Region.headB .any l.toArray n ks qs && ks.all (fun k => k < l.length)) = true)
    (hQ : ∀ q ∈ qs, Lays P l.toArray S q)
    (hS : S (fun _ => none) w.drew) (h : wpHeadT P l.toArray S (fun a' => wpLays l.toArray (fun T a'' => ∀ w', S T w' → wpList P l.toArray Q (l.drop n) a'' w') qs (fun _ => none) a') (ks.filterMap fun k => l[k]?) a) : (Code.region id l.toArray true).wp P Q a w := by
  simp only [Bool.and_eq_true] at hB
  exact wp_region_lays S n ks qs _ hm hB.1 (pick_all l ks (fun k hk => by have := List.all_eq_true.1 hB.2 k hk; simpa using this)) hQ hS h
theorem lays_alloc {q : Nat} {o : Oper} {d : Tmp} (e : TypeId) (obj : Obj) (ho : ops[q]? = some o) (hop : o.op = .alloc e) (hg : o.guard = none) (hd : o.dst = some d)
    (hrun : ∀ w, (Instr.alloc e true (.tuple #[])).run P w = .ok (.pointer (some ⟨w.heap.size, 0, none⟩)) (w.alloc obj)) (hS : ∀ T w, S T w → S (laidAt T q w.heap.size) (w.alloc obj)) : Lays P ops S q :=
  ⟨o, d, ho, hg, hd, fun ρ T w hs => ⟨_, by simp [execOp, hop, hrun, Result.andThen], hS T w hs⟩⟩
theorem wpHeadT_cons {Q : Act → Prop} {a : Act} {o : Oper} {rest : List Oper} (hg : o.guard = none) (v : Value) (hv : ∀ T w, S T w → Gives P (S T) v ((execOp a.eval o).run P w)) (h : wpHeadT P ops S Q rest (a.put o.dst v)) : wpHeadT P ops S Q (o :: rest) a :=
  ⟨v, fun T => .inl ⟨by simp [Region.wanted, hg], hv T⟩, h⟩
theorem wpHeadT_nil {Q : Act → Prop} {a : Act} (h : Q a) : wpHeadT P ops S Q [] a := h
end
end Go
