/- Four laws of regions that draw their order (as for the other seat). No conditions but those written. -/
import Derived.StillTail
import Derived.KernelRfl
import Derived.Test.YtakbpbifgemcdaaDoorT6
namespace Go
section
variable {P : Program} {ops : Array Oper} {S : World → Prop}

/-- What comes of an operation: the value v, and S is kept. -/
def Gives (P : Program) (S : World → Prop) (v : Value) : Result Next → Prop
  | .ok (.value u) w' => u = v ∧ S w'
  | .ok .skip w' => v = undef ∧ S w'
  | .ok (.enter f args) w' => Calls P f args w' (fun e w'' => e = .returned v ∧ S w'')
  | _ => False

/-- In every world that meets S the operation yields v and keeps S. -/
def YieldsS (P : Program) (ops : Array Oper) (S : World → Prop) (o : Oper) (v : Value) (a : Act) : Prop :=
  (Region.wanted o (yielded ops a.tmps) = true ∧ ∀ w, S w → Gives P S v ((execOp a.eval o).run P w)) ∨
  (Region.wanted o (yielded ops a.tmps) = false ∧ v = undef)

theorem YieldsS.of_same {o : Oper} {v : Value} {a a' : Act} (hy : YieldsS P ops S o v a) (he : execOp a'.eval o = execOp a.eval o)
    (hw : Region.wanted o (yielded ops a'.tmps) = Region.wanted o (yielded ops a.tmps)) : YieldsS P ops S o v a' := by
  unfold YieldsS at *
  rw [he, hw]
  exact hy

theorem YieldsS.wpOp {Q : Exit → Act → World → Prop} {i : Nat} {o : Oper} {v : Value} {a : Act} {w : World} (hi : ops[i]? = some o) (hy : YieldsS P ops S o v a) (hS : S w)
    {K : Act → World → Prop} (h : ∀ w', S w' → K (a.put o.dst v) w') : wpOp P ops Q i K a w := by
  unfold Go.wpOp
  simp only [hi]
  rcases hy with ⟨hw, hv⟩ | ⟨hw, rfl⟩
  · simp only [hw, if_true]
    refine .inl ?_
    have hg := hv w hS
    unfold Oper.wp
    generalize (execOp a.eval o).run P w = r at hg
    cases r with
    | ok n w' =>
      cases n <;> simp only [Gives] at hg
      case value u => obtain ⟨rfl, h2⟩ := hg; exact h w' h2
      case skip => obtain ⟨rfl, h2⟩ := hg; exact h w' h2
      case enter f args =>
        rw [Oper.upon_enter]
        refine hg.mono fun e w'' he => ?_
        obtain ⟨rfl, h2⟩ := he
        exact h w'' h2
    | halt x w' => exact hg.elim
  · simp only [hw, Bool.false_eq_true, if_false]; exact h w hS

/-- Every order of the head that the edges allow comes to L. -/
def AnyS (P : Program) (md : Region.Mode) (ops : Array Oper) (S : World → Prop) (n : Nat) (L : Array Bool → Act → Prop) : Nat → Array Bool → Act → Prop
  | 0, listed, a => L listed a
  | f + 1, listed, a =>
    Region.ready md ops listed ≠ [] ∧ ∀ i ∈ Region.ready md ops listed, i < n ∧ ∃ o v, ops[i]? = some o ∧ YieldsS P ops S o v a ∧ AnyS P md ops S n L f (listed.setIfInBounds i true) (a.put o.dst v)

variable {md : Region.Mode}

theorem wpAny_of_anyS {n g : Nat} {L : Array Bool → Act → Prop} {Q : Exit → Act → World → Prop} (hL : ∀ listed a w, S w → L listed a → wpAny P md ops Q g listed a w) :
    ∀ (f : Nat) (listed : Array Bool) (a : Act) (w : World), S w → AnyS P md ops S n L f listed a → wpAny P md ops Q (f + g) listed a w
  | 0, listed, a, w, hS, h => by rw [Nat.zero_add]; exact hL _ _ _ hS h
  | f + 1, listed, a, w, hS, h => by
    rw [show f + 1 + g = (f + g) + 1 by omega]
    refine ⟨fun h0 => absurd h0 h.1, fun i hi => ?_⟩
    obtain ⟨_, o, v, ho, hy, hn⟩ := h.2 i hi
    exact hy.wpOp ho hS fun w' hS' => wpAny_of_anyS hL f _ _ w' hS' hn

theorem YieldsS.keep {oi oj : Oper} {v : Value} {a : Act} (hsi : ∀ cs b, oi.op ≠ .select cs b) (h3 : ∀ d, oj.dst = some d → d ∉ oi.looksAt ops) (hy : YieldsS P ops S oi v a) (u : Value) : YieldsS P ops S oi v (a.put oj.dst u) :=
  hy.of_same (execOp_put oi hsi a oj.dst u h3) (wanted_put oi a oj.dst u h3)
theorem YieldsS.back {oi oj : Oper} {v u : Value} {a : Act} (hsj : ∀ cs b, oj.op ≠ .select cs b) (h1 : ∀ d, oi.dst = some d → d ∉ oj.looksAt ops) (hy : YieldsS P ops S oj u (a.put oi.dst v)) : YieldsS P ops S oj u a :=
  hy.of_same (execOp_put oj hsj a oi.dst v h1).symm (wanted_put oj a oi.dst v h1).symm

theorem anyS_first {n i : Nat} {oi : Oper} {v : Value} {L : Array Bool → Act → Prop} (hi : ops[i]? = some oi) (hsel : ∀ (j : Nat) (o : Oper) cs b, ops[j]? = some o → o.op ≠ .select cs b)
    (hs : Region.sinkB md ops n = true) (hc : Region.chainB md ops n = true) (hn : n < ops.size) (hin : i < n)
    (hdone : ∀ listed a, L listed a → ∀ j ∈ Region.ready md ops listed, n ≤ j) :
    ∀ (f : Nat) (listed : Array Bool) (a : Act), HeadInv md ops n listed →
      (∀ j oj, ops[j]? = some oj → j ≠ i → listed.getD j true = false → (∀ e ∈ oj.after, Region.binds md e = true → e.on ≠ i) → oi.apart ops oj = true) →
      i ∈ Region.ready md ops listed → YieldsS P ops S oi v a →
      AnyS P md ops S n L f (listed.setIfInBounds i true) (a.put oi.dst v) → AnyS P md ops S n L (f + 1) listed a := by
  intro f
  induction f with
  | zero =>
    intro listed a inv _ hr hy H
    have hun := (mem_ready.1 hr).1
    refine ⟨fun h => (by rw [h] at hr; cases hr), fun j hj => ?_⟩
    have hjn : j < n := Nat.lt_of_not_le fun h => tail_waits hs hc hn inv _ i rfl hin hun j h hj
    by_cases hji : j = i
    · subst hji; exact ⟨hjn, oi, v, hi, hy, H⟩
    · have := hdone _ _ H j (ready_mono hj hji)
      omega
  | succ f ih =>
    intro listed a inv hfree hr hy H
    have hun := (mem_ready.1 hr).1
    refine ⟨fun h => (by rw [h] at hr; cases hr), fun j hj => ?_⟩
    have hjn : j < n := Nat.lt_of_not_le fun h => tail_waits hs hc hn inv _ i rfl hin hun j h hj
    by_cases hji : j = i
    · subst hji; exact ⟨hjn, oi, v, hi, hy, H⟩
    · obtain ⟨_, oj, u, hoj, hyj, hrest⟩ := H.2 j (ready_mono hj hji)
      obtain ⟨hjun, oj', hoj', hall⟩ := mem_ready.1 hj
      obtain rfl : oj = oj' := Option.some.inj (hoj.symm.trans hoj')
      have hnot : ∀ e ∈ oj.after, Region.binds md e = true → e.on ≠ i := fun e he hb heq => by
        have h1 := hall e he hb
        rw [heq, getD_both hun] at h1
        cases h1
      obtain ⟨h1, h2, h3⟩ := Oper.apart_spec (hfree j oj hoj hji hjun hnot)
      refine ⟨hjn, oj, u, hoj, hyj.back (fun cs b => hsel j oj cs b hoj) h1, ?_⟩
      refine ih (listed.setIfInBounds j true) (a.put oj.dst u) (inv.set hj hjn) (fun k ok hk hki hun' hno => ?_) (ready_mono hr (Ne.symm hji)) (hy.keep (fun cs b => hsel i oi cs b hi) h3 u) ?_
      · refine hfree k ok hk hki ?_ hno
        by_cases hjk : j = k
        · subst hjk; exact hjun
        · rw [getD_set_ne true hjk] at hun'; exact hun'
      · rw [Array.setIfInBounds_comm _ _ hji, ← Act.put_comm a v u h2]
        exact hrest

/-- The head in the order of the text, each operation's value once. -/
def wpHead (P : Program) (ops : Array Oper) (S : World → Prop) (Q : Act → Prop) : List Oper → Act → Prop
  | [], a => Q a
  | o :: rest, a => ∃ v, YieldsS P ops S o v a ∧ wpHead P ops S Q rest (a.put o.dst v)

theorem anyS_lex {n g : Nat} {Lq : Act → Prop} (hsel : Region.noSelect ops = true) (hs : Region.sinkB md ops n = true) (hc : Region.chainB md ops n = true) (hn : n < ops.size) :
    ∀ (l : List Oper) (k : Nat) (listed : Array Bool) (a : Act), (∀ j, j < l.length → l[j]? = ops[k + j]?) → k + l.length = n → HeadInv md ops n listed →
    Region.lexHead md ops g l.length k listed = true → wpHead P ops S Lq l a →
    AnyS P md ops S n (fun listed' a' => Region.seqB md ops g n listed' = true ∧ Lq a') l.length listed a
  | [], k, listed, a, _, hk, _, hB, h => by
    obtain rfl : k = n := by simpa using hk
    exact ⟨by simpa [Region.lexHead] using hB, h⟩
  | o :: l, k, listed, a, hl, hk, inv, hB, h => by
    have h0 : ops[k]? = some o := by simpa using (hl 0 (by simp)).symm
    simp only [List.length_cons, Region.lexHead, Bool.and_eq_true] at hB
    obtain ⟨⟨hr, hf⟩, hB'⟩ := hB
    have hkn : k < n := by simp only [List.length_cons] at hk; omega
    have hr' : k ∈ Region.ready md ops listed := by simpa using hr
    obtain ⟨v, hy, hK⟩ := h
    exact anyS_first h0 (Region.noSelect_spec hsel) hs hc hn hkn (fun listed' a' hL => seqB_ready hL.1) l.length listed a inv (Region.free_spec h0 hf) hr' hy
      (anyS_lex hsel hs hc hn l (k + 1) _ _ (fun j hj => by have := hl (j + 1) (by simp; omega); simpa [Nat.add_assoc, Nat.add_comm 1 j] using this) (by simp only [List.length_cons] at hk; omega) (inv.set hr' hkn) hB' hK)

/-- THE LAW: n operations of the head, then the tail. -/
theorem wp_region_head {id : Nat} {Q : Exit → Act → World → Prop} {a : Act} {w : World} {l : List Oper} (S : World → Prop) (n : Nat) (hm : P.follows .mixedOrders = true) (hB : Region.lexTailB .any l.toArray n = true)
    (hS : S w.drew) (h : wpHead P l.toArray S (fun a' => ∀ w', S w' → wpList P l.toArray Q (l.drop n) a' w') (l.take n) a) : (Code.region id l.toArray true).wp P Q a w := by
  simp only [Region.lexTailB, Bool.and_eq_true, decide_eq_true_eq] at hB
  obtain ⟨⟨⟨⟨hsel, hn⟩, hs⟩, hc⟩, hlex⟩ := hB
  have hn' : n < l.length := by simpa using hn
  have htl : (l.take n).length = n := by simp; omega
  have hdl : (l.drop n).length = l.toArray.size - n := by simp
  have inv0 : HeadInv .any l.toArray n (Array.replicate l.toArray.size false) :=
    ⟨by simp, fun j oj _ hl => (by rw [getD_replicate_false] at hl; cases hl), fun t _ ht => getD_in (by simpa using ht) (getD_replicate_false _ _)⟩
  have H := anyS_lex (md := .any) (g := l.toArray.size - n) hsel hs hc hn (l.take n) 0 _ a (fun j hj => by
    have hj' : j < n := by rw [htl] at hj; exact hj
    simp [hj']) (by simpa using htl) inv0 (by rw [htl]; exact hlex) h
  refine wp_region_any hm ?_
  have := wpAny_of_anyS (Q := Q) (g := l.toArray.size - n) (fun listed a' w' hS' hL => by
    have := wpAny_of_seq (md := .any) (Q' := Q) (l.drop n) n listed a' w' (fun j => by simp [List.getElem?_drop]) (by rw [hdl]; exact hL.1) (hL.2 w' hS')
    rwa [hdl] at this) _ _ _ w.drew hS H
  rw [htl, show n + (l.toArray.size - n) = l.toArray.size by omega] at this
  exact this
/-- One operation of the head. -/
theorem wpHead_cons {Q : Act → Prop} {a : Act} {o : Oper} {rest : List Oper} (hg : o.guard = none) (v : Value) (hv : ∀ w, S w → Gives P S v ((execOp a.eval o).run P w)) (h : wpHead P ops S Q rest (a.put o.dst v)) : wpHead P ops S Q (o :: rest) a :=
  ⟨v, .inl ⟨by simp [Region.wanted, hg], hv⟩, h⟩
theorem wpHead_nil {Q : Act → Prop} {a : Act} (h : Q a) : wpHead P ops S Q [] a := h
theorem Gives_value (v u : Value) (w : World) : Gives P S v (.ok (.value u) w) = (u = v ∧ S w) := rfl
theorem Gives_enter (v : Value) (f : FuncId) (args : Array Value) (w : World) : Gives P S v (.ok (.enter f args) w) = Calls P f args w (fun e w'' => e = .returned v ∧ S w'') := rfl
attribute [go_sem] Gives_value Gives_enter
end
end Go
namespace Go
section
variable {P : Program} {ops : Array Oper} {S : (Nat → Option Nat) → World → Prop}

/-- Which block each laying operation has laid. -/
def laidAt (T : Nat → Option Nat) (q B : Nat) : Nat → Option Nat := fun j => if j = q then some B else T j
theorem laidAt_comm (T : Nat → Option Nat) {p q : Nat} (h : p ≠ q) (A B : Nat) : laidAt (laidAt T p A) q B = laidAt (laidAt T q B) p A := by
  funext j
  unfold laidAt
  by_cases h1 : j = q
  · by_cases h2 : j = p
    · exact absurd (h2.symm.trans h1) h
    · simp [h1, Ne.symm h]
  · simp [h1]

def YieldsT (P : Program) (ops : Array Oper) (S : (Nat → Option Nat) → World → Prop) (o : Oper) (v : Value) (a : Act) : Prop := ∀ T, YieldsS P ops (S T) o v a

/-- Operation q lays a block. -/
def Lays (P : Program) (ops : Array Oper) (S : (Nat → Option Nat) → World → Prop) (q : Nat) : Prop :=
  ∃ o d, ops[q]? = some o ∧ o.guard = none ∧ o.dst = some d ∧ ∀ (ρ : Operand → Value) T w, S T w → ∃ w', (execOp ρ o).run P w = .ok (.value (.pointer (some ⟨w.heap.size, 0, none⟩))) w' ∧ S (laidAt T q w.heap.size) w'

def dstOf (ops : Array Oper) (q : Nat) : Option Tmp := (ops[q]?).bind (·.dst)
def ptrTo (B : Nat) : Value := .pointer (some ⟨B, 0, none⟩)

def AnyT (P : Program) (md : Region.Mode) (ops : Array Oper) (S : (Nat → Option Nat) → World → Prop) (qs : List Nat) (n : Nat) (L : Array Bool → (Nat → Option Nat) → Act → Prop) : Nat → Array Bool → (Nat → Option Nat) → Act → Prop
  | 0, listed, T, a => L listed T a
  | f + 1, listed, T, a =>
    Region.ready md ops listed ≠ [] ∧ ∀ i ∈ Region.ready md ops listed, i < n ∧
      ((i ∈ qs ∧ ∀ B, AnyT P md ops S qs n L f (listed.setIfInBounds i true) (laidAt T i B) (a.put (dstOf ops i) (ptrTo B))) ∨
       (i ∉ qs ∧ ∃ o v, ops[i]? = some o ∧ YieldsT P ops S o v a ∧ AnyT P md ops S qs n L f (listed.setIfInBounds i true) T (a.put o.dst v)))

variable {md : Region.Mode} {qs : List Nat}

theorem Lays.wpOp {Q : Exit → Act → World → Prop} {q : Nat} {a : Act} {T : Nat → Option Nat} {w : World} (h : Lays P ops S q) (hS : S T w) {K : Act → World → Prop} (hK : ∀ B w', S (laidAt T q B) w' → K (a.put (dstOf ops q) (ptrTo B)) w') : wpOp P ops Q q K a w := by
  obtain ⟨o, d, ho, hg, hd, hr⟩ := h
  obtain ⟨w', hrun, hS'⟩ := hr a.eval T w hS
  have := hK _ _ hS'
  unfold Go.wpOp
  simp only [ho]
  rw [if_pos (by simp [Region.wanted, hg])]
  refine .inl ?_
  unfold Oper.wp
  rw [hrun, Oper.upon_value]
  simpa [dstOf, ho, ptrTo] using this

theorem wpAny_of_anyT (hQ : ∀ q ∈ qs, Lays P ops S q) {n g : Nat} {L : Array Bool → (Nat → Option Nat) → Act → Prop} {Q : Exit → Act → World → Prop} (hL : ∀ listed T a w, S T w → L listed T a → wpAny P md ops Q g listed a w) :
    ∀ (f : Nat) (listed : Array Bool) (T : Nat → Option Nat) (a : Act) (w : World), S T w → AnyT P md ops S qs n L f listed T a → wpAny P md ops Q (f + g) listed a w
  | 0, listed, T, a, w, hS, h => by rw [Nat.zero_add]; exact hL _ _ _ _ hS h
  | f + 1, listed, T, a, w, hS, h => by
    rw [show f + 1 + g = (f + g) + 1 by omega]
    refine ⟨fun h0 => absurd h0 h.1, fun i hi => ?_⟩
    obtain ⟨_, ⟨hq, hn⟩ | ⟨_, o, v, ho, hy, hn⟩⟩ := h.2 i hi
    · exact (hQ i hq).wpOp hS fun B w' hS' => wpAny_of_anyT hQ hL f _ _ _ w' hS' (hn B)
    · exact (hy T).wpOp ho hS fun w' hS' => wpAny_of_anyT hQ hL f _ _ _ w' hS' hn

/-- A fixed operation may be taken first. -/
theorem anyT_first {n i : Nat} {oi : Oper} {v : Value} {L : Array Bool → (Nat → Option Nat) → Act → Prop} (hi : ops[i]? = some oi) (hiq : i ∉ qs) (hsel : ∀ (j : Nat) (o : Oper) cs b, ops[j]? = some o → o.op ≠ .select cs b)
    (hs : Region.sinkB md ops n = true) (hc : Region.chainB md ops n = true) (hn : n < ops.size) (hin : i < n)
    (hdone : ∀ listed T a, L listed T a → ∀ j ∈ Region.ready md ops listed, n ≤ j) :
    ∀ (f : Nat) (listed : Array Bool) (T : Nat → Option Nat) (a : Act), HeadInv md ops n listed →
      (∀ j oj, ops[j]? = some oj → j ≠ i → listed.getD j true = false → (∀ e ∈ oj.after, Region.binds md e = true → e.on ≠ i) → oi.apart ops oj = true) →
      i ∈ Region.ready md ops listed → YieldsT P ops S oi v a →
      AnyT P md ops S qs n L f (listed.setIfInBounds i true) T (a.put oi.dst v) → AnyT P md ops S qs n L (f + 1) listed T a := by
  intro f
  induction f with
  | zero =>
    intro listed T a inv _ hr hy H
    have hun := (mem_ready.1 hr).1
    refine ⟨fun h => (by rw [h] at hr; cases hr), fun j hj => ?_⟩
    have hjn : j < n := Nat.lt_of_not_le fun h => tail_waits hs hc hn inv _ i rfl hin hun j h hj
    by_cases hji : j = i
    · subst hji; exact ⟨hjn, .inr ⟨hiq, oi, v, hi, hy, H⟩⟩
    · have := hdone _ _ _ H j (ready_mono hj hji)
      omega
  | succ f ih =>
    intro listed T a inv hfree hr hy H
    have hun := (mem_ready.1 hr).1
    refine ⟨fun h => (by rw [h] at hr; cases hr), fun j hj => ?_⟩
    have hjn : j < n := Nat.lt_of_not_le fun h => tail_waits hs hc hn inv _ i rfl hin hun j h hj
    by_cases hji : j = i
    · subst hji; exact ⟨hjn, .inr ⟨hiq, oi, v, hi, hy, H⟩⟩
    · obtain ⟨hjun, oj, hoj, hall⟩ := mem_ready.1 hj
      have hnot : ∀ e ∈ oj.after, Region.binds md e = true → e.on ≠ i := fun e he hb heq => by
        have h1 := hall e he hb
        rw [heq, getD_both hun] at h1
        cases h1
      obtain ⟨h1, h2, h3⟩ := Oper.apart_spec (hfree j oj hoj hji hjun hnot)
      have hfree' : ∀ k ok, ops[k]? = some ok → k ≠ i → (listed.setIfInBounds j true).getD k true = false →
          (∀ e ∈ ok.after, Region.binds md e = true → e.on ≠ i) → oi.apart ops ok = true := fun k ok hk hki hun' hno => by
        refine hfree k ok hk hki ?_ hno
        by_cases hjk : j = k
        · subst hjk; exact hjun
        · rw [getD_set_ne true hjk] at hun'; exact hun'
      have hkeep : ∀ u, YieldsT P ops S oi v (a.put oj.dst u) := fun u T' => (hy T').keep (fun cs b => hsel i oi cs b hi) h3 u
      obtain ⟨_, ⟨hjq, hrest⟩ | ⟨hjq, oj', u, hoj', hyj, hrest⟩⟩ := H.2 j (ready_mono hj hji)
      · refine ⟨hjn, .inl ⟨hjq, fun B => ?_⟩⟩
        have hdj : dstOf ops j = oj.dst := by simp [dstOf, hoj]
        rw [hdj]
        refine ih (listed.setIfInBounds j true) _ (a.put oj.dst (ptrTo B)) (inv.set hj hjn) hfree' (ready_mono hr (Ne.symm hji)) (hkeep _) ?_
        rw [Array.setIfInBounds_comm _ _ hji, ← Act.put_comm a v (ptrTo B) h2, ← hdj]
        exact hrest B
      · obtain rfl : oj = oj' := Option.some.inj (hoj.symm.trans hoj')
        refine ⟨hjn, .inr ⟨hjq, oj, u, hoj, fun T' => (hyj T').back (fun cs b => hsel j oj cs b hoj) h1, ?_⟩⟩
        refine ih (listed.setIfInBounds j true) T (a.put oj.dst u) (inv.set hj hjn) hfree' (ready_mono hr (Ne.symm hji)) (hkeep u) ?_
        rw [Array.setIfInBounds_comm _ _ hji, ← Act.put_comm a v u h2]
        exact hrest

/-- A laying operation may be taken first where laying operations alone are left. -/
theorem anyT_lay {n i : Nat} {oi : Oper} {L : Array Bool → (Nat → Option Nat) → Act → Prop} (hi : ops[i]? = some oi) (hiq : i ∈ qs)
    (hs : Region.sinkB md ops n = true) (hc : Region.chainB md ops n = true) (hn : n < ops.size) (hin : i < n)
    (hdone : ∀ listed T a, L listed T a → ∀ j ∈ Region.ready md ops listed, n ≤ j) :
    ∀ (f : Nat) (listed : Array Bool) (T : Nat → Option Nat) (a : Act), HeadInv md ops n listed →
      (∀ j, j < n → listed.getD j true = false → j ∈ qs) →
      (∀ j oj, ops[j]? = some oj → j ≠ i → listed.getD j true = false → (∀ e ∈ oj.after, Region.binds md e = true → e.on ≠ i) → oi.apart ops oj = true) →
      i ∈ Region.ready md ops listed →
      (∀ B, AnyT P md ops S qs n L f (listed.setIfInBounds i true) (laidAt T i B) (a.put (dstOf ops i) (ptrTo B))) → AnyT P md ops S qs n L (f + 1) listed T a := by
  intro f
  induction f with
  | zero =>
    intro listed T a inv _ _ hr H
    have hun := (mem_ready.1 hr).1
    refine ⟨fun h => (by rw [h] at hr; cases hr), fun j hj => ?_⟩
    have hjn : j < n := Nat.lt_of_not_le fun h => tail_waits hs hc hn inv _ i rfl hin hun j h hj
    by_cases hji : j = i
    · subst hji; exact ⟨hjn, .inl ⟨hiq, H⟩⟩
    · have := hdone _ _ _ (H 0) j (ready_mono hj hji)
      omega
  | succ f ih =>
    intro listed T a inv hrest hfree hr H
    have hun := (mem_ready.1 hr).1
    refine ⟨fun h => (by rw [h] at hr; cases hr), fun j hj => ?_⟩
    have hjn : j < n := Nat.lt_of_not_le fun h => tail_waits hs hc hn inv _ i rfl hin hun j h hj
    by_cases hji : j = i
    · subst hji; exact ⟨hjn, .inl ⟨hiq, H⟩⟩
    · obtain ⟨hjun, oj, hoj, hall⟩ := mem_ready.1 hj
      have hjq := hrest j hjn hjun
      have hnot : ∀ e ∈ oj.after, Region.binds md e = true → e.on ≠ i := fun e he hb heq => by
        have h1 := hall e he hb
        rw [heq, getD_both hun] at h1
        cases h1
      obtain ⟨h1, h2, h3⟩ := Oper.apart_spec (hfree j oj hoj hji hjun hnot)
      have hset : ∀ k, (listed.setIfInBounds j true).getD k true = false → listed.getD k true = false := fun k hk => by
        by_cases hjk : j = k
        · subst hjk; exact hjun
        · rw [getD_set_ne true hjk] at hk; exact hk
      refine ⟨hjn, .inl ⟨hjq, fun A => ?_⟩⟩
      refine ih (listed.setIfInBounds j true) _ _ (inv.set hj hjn) (fun k hk hu => hrest k hk (hset k hu)) (fun k ok hk hki hu hno => hfree k ok hk hki (hset k hu) hno) (ready_mono hr (Ne.symm hji)) (fun B => ?_)
      obtain ⟨_, ⟨_, hr2⟩ | ⟨hjq', _⟩⟩ := (H B).2 j (ready_mono hj hji)
      · have hdi : dstOf ops i = oi.dst := by simp [dstOf, hi]
        have hdj : dstOf ops j = oj.dst := by simp [dstOf, hoj]
        have := hr2 A
        rw [Array.setIfInBounds_comm _ _ (Ne.symm hji), laidAt_comm T (Ne.symm hji), hdi, hdj, Act.put_comm a (ptrTo B) (ptrTo A) h2] at this
        rw [hdi, hdj]
        exact this
      · exact absurd hjq hjq'

/-- The fixed operations in the order that is named, each value once. -/
def wpHeadT (P : Program) (ops : Array Oper) (S : (Nat → Option Nat) → World → Prop) (Q : Act → Prop) : List Oper → Act → Prop
  | [], a => Q a
  | o :: rest, a => ∃ v, YieldsT P ops S o v a ∧ wpHeadT P ops S Q rest (a.put o.dst v)
/-- Then the laid blocks. -/
def wpLays (ops : Array Oper) (Q : (Nat → Option Nat) → Act → Prop) : List Nat → (Nat → Option Nat) → Act → Prop
  | [], T, a => Q T a
  | q :: qs, T, a => ∀ B, wpLays ops Q qs (laidAt T q B) (a.put (dstOf ops q) (ptrTo B))

def Region.along (md : Region.Mode) (ops : Array Oper) (g n : Nat) : List Nat → Array Bool → Bool
  | [], listed => Region.seqB md ops g n listed
  | k :: ks, listed => decide (k < n) && (Region.ready md ops listed).contains k && Region.free md ops listed k && Region.along md ops g n ks (listed.setIfInBounds k true)
def Region.headB (md : Region.Mode) (ops : Array Oper) (n : Nat) (ks qs : List Nat) : Bool :=
  Region.noSelect ops && decide (n < ops.size) && Region.sinkB md ops n && Region.chainB md ops n && decide (ks.length + qs.length = n) && ks.all (fun k => !qs.contains k) && qs.all (fun q => q < n) && (List.range n).all (fun i => ks.contains i || qs.contains i) &&
    Region.along md ops (ops.size - n) n (ks ++ qs) (Array.replicate ops.size false)

theorem anyT_lays {n g : Nat} {Lq : (Nat → Option Nat) → Act → Prop} (hs : Region.sinkB md ops n = true) (hc : Region.chainB md ops n = true) (hn : n < ops.size) :
    ∀ (rs : List Nat), (∀ r ∈ rs, r ∈ qs) → ∀ (listed : Array Bool) (T : Nat → Option Nat) (a : Act), HeadInv md ops n listed → (∀ j, j < n → listed.getD j true = false → j ∈ qs) →
    Region.along md ops g n rs listed = true → wpLays ops Lq rs T a →
    AnyT P md ops S qs n (fun listed' T' a' => Region.seqB md ops g n listed' = true ∧ Lq T' a') rs.length listed T a
  | [], _, _, _, _, _, _, hB, h => ⟨by simpa [Region.along] using hB, h⟩
  | r :: rs, hrs, listed, T, a, inv, hall, hB, h => by
    simp only [Region.along, Bool.and_eq_true, decide_eq_true_eq] at hB
    obtain ⟨⟨⟨hk, hr⟩, hf⟩, hB'⟩ := hB
    have hr' : r ∈ Region.ready md ops listed := by simpa using hr
    obtain ⟨hrun, o, ho, _⟩ := mem_ready.1 hr'
    refine anyT_lay ho (hrs r (by simp)) hs hc hn hk (fun listed' T' a' hL => seqB_ready hL.1) rs.length listed T a inv hall (Region.free_spec ho hf) hr' (fun B => ?_)
    refine anyT_lays hs hc hn rs (fun x hx => hrs x (by simp [hx])) _ _ _ (inv.set hr' hk) (fun j hj hu => hall j hj ?_) hB' (h B)
    by_cases hjk : r = j
    · subst hjk; exact hrun
    · rw [getD_set_ne true hjk] at hu; exact hu

theorem anyT_along {n g : Nat} {Lq : (Nat → Option Nat) → Act → Prop} (hsel : Region.noSelect ops = true) (hs : Region.sinkB md ops n = true) (hc : Region.chainB md ops n = true) (hn : n < ops.size) (T : Nat → Option Nat) :
    ∀ (ks : List Nat) (l : List Oper), (∀ k ∈ ks, k ∉ qs) → l.map some = ks.map (fun k => ops[k]?) → ∀ (listed : Array Bool) (a : Act), HeadInv md ops n listed → (∀ j, j < n → listed.getD j true = false → j ∈ ks ∨ j ∈ qs) →
    Region.along md ops g n (ks ++ qs) listed = true → wpHeadT P ops S (fun a' => wpLays ops Lq qs T a') l a →
    AnyT P md ops S qs n (fun listed' T' a' => Region.seqB md ops g n listed' = true ∧ Lq T' a') (ks.length + qs.length) listed T a
  | [], l, _, hl, listed, a, inv, hall, hB, h => by
    obtain rfl : l = [] := by simpa using hl
    simp only [List.length_nil, Nat.zero_add]
    exact anyT_lays hs hc hn qs (fun _ h => h) listed T a inv (fun j hj hu => by simpa using hall j hj hu) (by simpa using hB) h
  | k :: ks, [], _, hl, _, _, _, _, _, _ => by simp at hl
  | k :: ks, o :: l, hkq, hl, listed, a, inv, hall, hB, h => by
    simp only [List.map_cons, List.cons.injEq] at hl
    obtain ⟨h0, hl⟩ := hl
    simp only [List.cons_append, Region.along, Bool.and_eq_true, decide_eq_true_eq] at hB
    obtain ⟨⟨⟨hk, hr⟩, hf⟩, hB'⟩ := hB
    have hr' : k ∈ Region.ready md ops listed := by simpa using hr
    have hkun := (mem_ready.1 hr').1
    obtain ⟨v, hy, hK⟩ := h
    rw [show (k :: ks).length + qs.length = (ks.length + qs.length) + 1 by simp; omega]
    refine anyT_first h0.symm (hkq k (by simp)) (Region.noSelect_spec hsel) hs hc hn hk (fun listed' T' a' hL => seqB_ready hL.1) _ listed T a inv (Region.free_spec h0.symm hf) hr' hy ?_
    refine anyT_along hsel hs hc hn T ks l (fun x hx => hkq x (by simp [hx])) hl _ _ (inv.set hr' hk) (fun j hj hu => ?_) hB' hK
    by_cases hjk : k = j
    · subst hjk
      have hsz : k < listed.size := by rw [inv.size]; exact Nat.lt_trans hk hn
      simp [hsz] at hu
    · rw [getD_set_ne true hjk] at hu
      rcases hall j hj hu with h | h
      · rcases List.mem_cons.1 h with h | h
        · exact absurd h.symm hjk
        · exact .inl h
      · exact .inr h

/-- THE LAW: 'ks': the head's fixed operations in an order; 'qs': those that lay a block. -/
theorem wp_region_lays {id : Nat} {Q : Exit → Act → World → Prop} {a : Act} {w : World} {l : List Oper} (S : (Nat → Option Nat) → World → Prop) (n : Nat) (ks qs : List Nat) (h0 : List Oper) (hm : P.follows .mixedOrders = true) (hB : Region.headB .any l.toArray n ks qs = true)
    (hl : h0.map some = ks.map (fun k => l.toArray[k]?)) (hQ : ∀ q ∈ qs, Lays P l.toArray S q)
    (hS : S (fun _ => none) w.drew) (h : wpHeadT P l.toArray S (fun a' => wpLays l.toArray (fun T a'' => ∀ w', S T w' → wpList P l.toArray Q (l.drop n) a'' w') qs (fun _ => none) a') h0 a) : (Code.region id l.toArray true).wp P Q a w := by
  simp only [Region.headB, Bool.and_eq_true, decide_eq_true_eq] at hB
  obtain ⟨⟨⟨⟨⟨⟨⟨⟨hsel, hn⟩, hs⟩, hc⟩, hlen⟩, hkq⟩, hqn⟩, hcov⟩, hal⟩ := hB
  have hn' : n < l.length := by simpa using hn
  have hdl : (l.drop n).length = l.toArray.size - n := by simp
  have inv0 : HeadInv .any l.toArray n (Array.replicate l.toArray.size false) :=
    ⟨by simp, fun j oj _ hl => (by rw [getD_replicate_false] at hl; cases hl), fun t _ ht => getD_in (by simpa using ht) (getD_replicate_false _ _)⟩
  have H := anyT_along (md := .any) (g := l.toArray.size - n) hsel hs hc hn (fun _ => none) ks h0 (fun k hk => by
    have := List.all_eq_true.1 hkq k hk
    simpa using this) hl _ a inv0 (fun j hj _ => by
    have := List.all_eq_true.1 hcov j (List.mem_range.2 hj)
    simpa using this) hal h
  refine wp_region_any hm ?_
  have := wpAny_of_anyT hQ (Q := Q) (g := l.toArray.size - n) (fun listed T a' w' hS' hL => by
    have := wpAny_of_seq (md := .any) (Q' := Q) (l.drop n) n listed a' w' (fun j => by simp [List.getElem?_drop]) (by rw [hdl]; exact hL.1) (hL.2 w' hS')
    rwa [hdl] at this) _ _ _ _ w.drew hS H
  rw [hlen, show n + (l.toArray.size - n) = l.toArray.size by omega] at this
  exact this
theorem pick_all (l : List Oper) : ∀ (ks : List Nat), (∀ k ∈ ks, k < l.length) → (ks.filterMap fun k => l[k]?).map some = ks.map (fun k => l.toArray[k]?)
  | [], _ => rfl
  | k :: ks, h => by
    have hk : k < l.length := h k (by simp)
    have ih := pick_all l ks (fun x hx => h x (by simp [hx]))
    rw [List.filterMap_cons_some (List.getElem?_eq_getElem hk), List.map_cons, List.map_cons, ih]
    simp [hk]
/-- The same, the head's operations picked out of the text. -/
theorem wp_region_pick {id : Nat} {Q : Exit → Act → World → Prop} {a : Act} {w : World} {l : List Oper} (S : (Nat → Option Nat) → World → Prop) (n : Nat) (ks qs : List Nat) (hm : P.follows .mixedOrders = true) (hB : (Region.headB .any l.toArray n ks qs && ks.all (fun k => k < l.length)) = true)
    (hQ : ∀ q ∈ qs, Lays P l.toArray S q)
    (hS : S (fun _ => none) w.drew) (h : wpHeadT P l.toArray S (fun a' => wpLays l.toArray (fun T a'' => ∀ w', S T w' → wpList P l.toArray Q (l.drop n) a'' w') qs (fun _ => none) a') (ks.filterMap fun k => l[k]?) a) : (Code.region id l.toArray true).wp P Q a w := by
  simp only [Bool.and_eq_true] at hB
  exact wp_region_lays S n ks qs _ hm hB.1 (pick_all l ks (fun k hk => by have := List.all_eq_true.1 hB.2 k hk; simpa using this)) hQ hS h
theorem lays_alloc {q : Nat} {o : Oper} {d : Tmp} (e : TypeId) (obj : Obj) (ho : ops[q]? = some o) (hop : o.op = .alloc e) (hg : o.guard = none) (hd : o.dst = some d)
    (hrun : ∀ w, (Instr.alloc e true (.tuple #[])).run P w = .ok (.pointer (some ⟨w.heap.size, 0, none⟩)) (w.alloc obj)) (hS : ∀ T w, S T w → S (laidAt T q w.heap.size) (w.alloc obj)) : Lays P ops S q :=
  ⟨o, d, ho, hg, hd, fun ρ T w hs => ⟨_, by simp [execOp, hop, hrun, Result.andThen], hS T w hs⟩⟩
theorem wpHeadT_cons {Q : Act → Prop} {a : Act} {o : Oper} {rest : List Oper} (hg : o.guard = none) (v : Value) (hv : ∀ T w, S T w → Gives P (S T) v ((execOp a.eval o).run P w)) (h : wpHeadT P ops S Q rest (a.put o.dst v)) : wpHeadT P ops S Q (o :: rest) a :=
  ⟨v, fun T => .inl ⟨by simp [Region.wanted, hg], hv T⟩, h⟩
theorem wpHeadT_nil {Q : Act → Prop} {a : Act} (h : Q a) : wpHeadT P ops S Q [] a := h
end
end Go
namespace Go
open Go.RowKit
section
variable {P : Program} {ops : Array Oper} {md : Region.Mode}

def Region.headDone (m n : Nat) : Array Bool := ((List.range m).map fun j => decide (j < n)).toArray
def Region.invB (md : Region.Mode) (ops : Array Oper) (n : Nat) : Bool :=
  decide (n ≤ ops.size) && (decide (n = ops.size) || (Region.sinkB md ops n && Region.chainB md ops n)) &&
  ((List.range n).all fun i => match ops[i]? with | some o => o.guard.isNone && o.after.toList.all (fun e => decide (e.on < i)) | none => false) &&
  ((List.range n).all fun i => (List.range n).all fun j => decide (i = j) || decide (dstOf ops i = none) || decide (dstOf ops i ≠ dstOf ops j)) &&
  Region.seqB md ops (ops.size - n) n (Region.headDone ops.size n)

/-- What comes of an operation: some value, with K of it. -/
def GivesK (P : Program) (K : Value → World → Prop) : Result Next → Prop
  | .ok (.value u) w' => K u w'
  | .ok .skip w' => K undef w'
  | .ok (.enter f args) w' => Calls P f args w' (fun e w'' => ∃ v, e = .returned v ∧ K v w'')
  | _ => False
theorem GivesK_value (K : Value → World → Prop) (u : Value) (w : World) : GivesK P K (.ok (.value u) w) = K u w := rfl
theorem GivesK_enter (K : Value → World → Prop) (f : FuncId) (args : Array Value) (w : World) : GivesK P K (.ok (.enter f args) w) = Calls P f args w (fun e w'' => ∃ v, e = .returned v ∧ K v w'') := rfl
attribute [go_sem] GivesK_value GivesK_enter

/-- The head's values, put in the order of the text. -/
def putAll (ops : Array Oper) (us : Nat → Value) : Nat → Act → Act
  | 0, a => a
  | k + 1, a => (putAll ops us k a).put (dstOf ops k) (us k)

def updV (us : Nat → Value) (i : Nat) (v : Value) : Nat → Value := fun j => if j = i then v else us j

theorem putAll_congr {us vs : Nat → Value} : ∀ (n : Nat) (a : Act), (∀ j, j < n → us j = vs j) → putAll ops us n a = putAll ops vs n a
  | 0, _, _ => rfl
  | n + 1, a, h => by
    show (putAll ops us n a).put _ _ = (putAll ops vs n a).put _ _
    rw [putAll_congr n a fun j hj => h j (by omega), h n (by omega)]

theorem put_put (a : Act) (d : Option Tmp) (u v : Value) : (a.put d u).put d v = a.put d v := by
  cases d with
  | none => rfl
  | some d => simp [Act.put]

theorem putAll_put {us : Nat → Value} {i : Nat} {v : Value} : ∀ (n : Nat) (a : Act), (∀ j k, j < n → k < n → j ≠ k → dstOf ops j = none ∨ dstOf ops j ≠ dstOf ops k) → i < n →
    (putAll ops us n a).put (dstOf ops i) v = putAll ops (updV us i v) n a
  | 0, _, _, hi => absurd hi (by omega)
  | n + 1, a, hd, hi => by
    show ((putAll ops us n a).put (dstOf ops n) (us n)).put (dstOf ops i) v = (putAll ops (updV us i v) n a).put (dstOf ops n) (updV us i v n)
    by_cases hin : i = n
    · subst hin
      rw [put_put, putAll_congr (us := us) (vs := updV us i v) i a fun j hj => by simp [updV, Nat.ne_of_lt hj]]
      simp [updV]
    · have h1 : updV us i v n = us n := by simp [updV, Ne.symm hin]
      have ih := putAll_put (us := us) (v := v) n a (fun j k hj hk => hd j k (by omega) (by omega)) (show i < n by omega)
      rw [h1, ← ih]
      have hcase := hd i n (by omega) (by omega) hin
      cases hi1 : dstOf ops i with
      | none => rfl
      | some d =>
        cases hn1 : dstOf ops n with
        | none => rfl
        | some e =>
          have hne : d ≠ e := by
            rcases hcase with h | h
            · rw [hi1] at h; cases h
            · rw [hi1, hn1] at h; exact fun h' => h (by rw [h'])
          simp only [Act.put]
          rw [Array.setIfInBounds_comm _ _ (Ne.symm hne)]

theorem putAll_self (a : Act) : ∀ (n : Nat), putAll ops (fun j => match dstOf ops j with | some d => a.tmps.getD d undef | none => undef) n a = a
  | 0 => rfl
  | n + 1 => by
    show (putAll ops _ n a).put (dstOf ops n) _ = a
    rw [putAll_self a n]
    cases h : dstOf ops n with
    | none => rfl
    | some d =>
      simp only [Act.put, h]
      have : a.tmps.setIfInBounds d (a.tmps.getD d undef) = a.tmps := by
        apply Array.ext
        · simp
        · intro j h1 h2
          rw [Array.getElem_setIfInBounds (by simpa using h2)]
          split
          · rename_i he; subst he; simp [h2]
          · rfl
      rw [this]

/-- Operation i's part. -/
def OpYields (P : Program) (md : Region.Mode) (ops : Array Oper) (S : World → Prop) (F : Nat → Value → World → Prop) (n : Nat) (a0 : Act) (i : Nat) (o : Oper) : Prop :=
  ∀ (us : Nat → Value) (w : World), S w → (∀ j, (o.after.toList.any fun e => Region.binds md e && decide (e.on = j)) = true → F j (us j) w) →
    GivesK P (fun v w' => F i v w' ∧ Below w.heap.size w w') ((execOp (putAll ops us n a0).eval o).run P w)

theorem GivesK.wpOp {Q : Exit → Act → World → Prop} {i : Nat} {o : Oper} {a : Act} {w : World} {R : Value → World → Prop} (hi : ops[i]? = some o) (hg : o.guard = none) (h0 : GivesK P R ((execOp a.eval o).run P w))
    {K : Act → World → Prop} (h : ∀ v w', R v w' → K (a.put o.dst v) w') : wpOp P ops Q i K a w := by
  unfold Go.wpOp
  simp only [hi]
  rw [if_pos (by simp [Region.wanted, hg])]
  refine .inl ?_
  unfold Oper.wp
  generalize (execOp a.eval o).run P w = r at h0
  cases r with
  | ok n w' =>
    cases n <;> simp only [GivesK] at h0
    case value u => exact h _ _ h0
    case skip => exact h _ _ h0
    case enter f args =>
      rw [Oper.upon_enter]
      refine h0.mono fun e w'' he => ?_
      obtain ⟨v, rfl, h2⟩ := he
      exact h v w'' h2
  | halt x w' => exact h0.elim

def invHead (P : Program) (md : Region.Mode) (ops : Array Oper) (S : World → Prop) (F : Nat → Value → World → Prop) (n : Nat) (a0 : Act) : List Oper → Nat → Prop
  | [], _ => True
  | o :: l, k => OpYields P md ops S F n a0 k o ∧ invHead P md ops S F n a0 l (k + 1)

theorem invHead_get {S : World → Prop} {F : Nat → Value → World → Prop} {n : Nat} {a0 : Act} : ∀ (l : List Oper) (k : Nat), invHead P md ops S F n a0 l k → ∀ j o, l[j]? = some o → OpYields P md ops S F n a0 (k + j) o
  | [], _, _, _, _, h => by simp at h
  | x :: l, k, h, 0, o, ho => by obtain rfl : x = o := by simpa using ho
                                 exact h.1
  | x :: l, k, h, j + 1, o, ho => by
    have := invHead_get l (k + 1) h.2 j o (by simpa using ho)
    rwa [show k + 1 + j = k + (j + 1) by omega] at this

theorem invB_spec {n : Nat} (h : Region.invB md ops n = true) : n ≤ ops.size ∧ (n = ops.size ∨ (Region.sinkB md ops n = true ∧ Region.chainB md ops n = true)) ∧
    (∀ i, i < n → ∃ o, ops[i]? = some o ∧ o.guard = none ∧ ∀ e ∈ o.after, e.on < i) ∧ (∀ j k, j < n → k < n → j ≠ k → dstOf ops j = none ∨ dstOf ops j ≠ dstOf ops k) ∧ Region.seqB md ops (ops.size - n) n (Region.headDone ops.size n) = true := by
  simp only [Region.invB, Bool.and_eq_true, decide_eq_true_eq, Bool.or_eq_true] at h
  obtain ⟨⟨⟨⟨h1, h2⟩, h3⟩, h4⟩, h5⟩ := h
  refine ⟨h1, h2, fun i hi => ?_, fun j k hj hk hjk => ?_, h5⟩
  · have := List.all_eq_true.1 h3 i (List.mem_range.2 hi)
    revert this
    cases ho : ops[i]? with
    | none => simp
    | some o =>
      intro this
      simp only [Bool.and_eq_true, Option.isNone_iff_eq_none] at this
      exact ⟨o, rfl, this.1, fun e he => by simpa using (List.all_eq_true.1 this.2 e (by simpa using he))⟩
  · have := List.all_eq_true.1 (List.all_eq_true.1 h4 j (List.mem_range.2 hj)) k (List.mem_range.2 hk)
    simp only [Bool.or_eq_true, decide_eq_true_eq] at this
    rcases this with (h | h) | h
    · exact absurd h hjk
    · exact .inl h
    · exact .inr h

/-- How many of the head are not listed. -/
def unlistedN (listed : Array Bool) : Nat → Nat
  | 0 => 0
  | n + 1 => (if listed.getD n true = false then 1 else 0) + unlistedN listed n
theorem unlistedN_zero {listed : Array Bool} : ∀ {n : Nat}, unlistedN listed n = 0 → ∀ j, j < n → listed.getD j true = true
  | 0, _, _, hj => absurd hj (by omega)
  | n + 1, h, j, hj => by
    simp only [unlistedN] at h
    by_cases hjn : j = n
    · subst hjn
      cases hh : listed.getD j true with
      | true => rfl
      | false => rw [hh] at h; simp at h
    · exact unlistedN_zero (n := n) (by omega) j (by omega)
theorem unlistedN_pos {listed : Array Bool} : ∀ {n : Nat}, unlistedN listed n ≠ 0 → ∃ j, j < n ∧ listed.getD j true = false ∧ ∀ k, k < j → listed.getD k true = true
  | 0, h => absurd rfl h
  | n + 1, h => by
    by_cases h0 : unlistedN listed n = 0
    · refine ⟨n, by omega, ?_, fun k hk => unlistedN_zero h0 k hk⟩
      cases hh : listed.getD n true with
      | false => rfl
      | true => simp [unlistedN, hh, h0] at h
    · obtain ⟨j, hj, hr⟩ := unlistedN_pos h0
      exact ⟨j, by omega, hr⟩
theorem unlistedN_set {listed : Array Bool} {i : Nat} (hi : listed.getD i true = false) : ∀ {n : Nat}, i < n → unlistedN (listed.setIfInBounds i true) n + 1 = unlistedN listed n
  | 0, h => absurd h (by omega)
  | n + 1, h => by
    have hsz : i < listed.size := by
      rcases Nat.lt_or_ge i listed.size with h' | h'
      · exact h'
      · simp [Array.getElem?_eq_none h'] at hi
    have hself : (listed.setIfInBounds i true).getD i true = true := by simp [hsz]
    simp only [unlistedN]
    by_cases hin : i = n
    · subst hin
      rw [hself, hi]
      have : unlistedN (listed.setIfInBounds i true) i = unlistedN listed i := by
        have : ∀ m, m ≤ i → unlistedN (listed.setIfInBounds i true) m = unlistedN listed m := by
          intro m
          induction m with
          | zero => intro _; rfl
          | succ m ih => intro hm; simp only [unlistedN]; rw [ih (by omega), getD_set_ne true (by omega)]
        exact this i (Nat.le_refl _)
      rw [this]; simp; omega
    · rw [getD_set_ne true hin, ← unlistedN_set hi (show i < n by omega)]; omega

theorem wpAny_inv {S : World → Prop} {F : Nat → Value → World → Prop} {n : Nat} {a0 : Act} {Q : Exit → Act → World → Prop} (hB : Region.invB md ops n = true)
    (hSp : ∀ w w', S w → Below w.heap.size w w' → S w') (hFp : ∀ j v w w', Below w.heap.size w w' → F j v w → F j v w') (hop : ∀ i o, i < n → ops[i]? = some o → OpYields P md ops S F n a0 i o)
    (hend : ∀ us w, S w → (∀ j, j < n → F j (us j) w) → wpAny P md ops Q (ops.size - n) (Region.headDone ops.size n) (putAll ops us n a0) w) :
    ∀ (f : Nat) (listed : Array Bool) (us : Nat → Value) (w : World), unlistedN listed n = f → HeadInv md ops n listed → S w → (∀ j, j < n → listed.getD j true = true → F j (us j) w) →
      wpAny P md ops Q (f + (ops.size - n)) listed (putAll ops us n a0) w := by
  obtain ⟨hle, hsc, hops, hdst, _⟩ := invB_spec hB
  intro f
  induction f with
  | zero =>
    intro listed us w hl inv hS hF
    have hdone : listed = Region.headDone ops.size n := by
      apply Array.ext
      · simp [Region.headDone, inv.size]
      · intro j h1 h2
        have hv : listed.getD j true = listed[j] := by simp [h1]
        have : (Region.headDone ops.size n)[j] = decide (j < n) := by simp [Region.headDone]
        rw [this]
        by_cases hjn : j < n
        · rw [← hv, unlistedN_zero hl j hjn]; simp [hjn]
        · rw [← hv, inv.tail j (by omega) (by rw [← inv.size]; exact h1)]; simp [hjn]
    rw [Nat.zero_add, hdone]
    exact hend us w hS fun j hj => hF j hj (unlistedN_zero hl j hj)
  | succ f ih =>
    intro listed us w hl inv hS hF
    obtain ⟨k, hk, hku, hkl⟩ := unlistedN_pos (n := n) (listed := listed) (by omega)
    have hkr : k ∈ Region.ready md ops listed := by
      obtain ⟨o, ho, _, hlt⟩ := hops k hk
      refine mem_ready.2 ⟨hku, o, ho, fun e he _ => ?_⟩
      have h1 := hkl e.on (hlt e he)
      have h2 : e.on < listed.size := by rw [inv.size]; have := hlt e he; omega
      simp [h2] at h1 ⊢; exact h1
    rw [show f + 1 + (ops.size - n) = (f + (ops.size - n)) + 1 by omega]
    refine ⟨fun h0 => (by rw [h0] at hkr; cases hkr), fun i hi => ?_⟩
    obtain ⟨hiu, oi, hoi, hall⟩ := mem_ready.1 hi
    have hin : i < n := by
      rcases hsc with h | ⟨h1, h2⟩
      · rcases Nat.lt_or_ge i n with h' | h'
        · exact h'
        · rw [Array.getElem?_eq_none (by omega)] at hoi; cases hoi
      · rcases Nat.lt_or_ge n ops.size with h' | h'
        · exact Nat.lt_of_not_le fun h => tail_waits h1 h2 h' inv _ k rfl hk hku i h hi
        · rcases Nat.lt_or_ge i n with h'' | h''
          · exact h''
          · rw [Array.getElem?_eq_none (by omega)] at hoi; cases hoi
    obtain ⟨o', ho', hg, _⟩ := hops i hin
    obtain rfl : oi = o' := Option.some.inj (hoi.symm.trans ho')
    have hd : dstOf ops i = oi.dst := by simp [dstOf, hoi]
    refine GivesK.wpOp hoi hg (hop i oi hin hoi us w hS fun j hj => ?_) fun v w' hv => ?_
    · obtain ⟨e, he, hb⟩ : ∃ e ∈ oi.after, Region.binds md e = true ∧ e.on = j := by
        obtain ⟨e, he, hb⟩ := List.any_eq_true.1 hj
        exact ⟨e, by simpa using he, by simpa using hb⟩
      have h1 := hall e he hb.1
      rw [hb.2] at h1
      have hjn : j < n := by
        obtain ⟨o2, ho2, _, hlt⟩ := hops i hin
        obtain rfl : oi = o2 := Option.some.inj (hoi.symm.trans ho2)
        have := hlt e he; omega
      have h2 : j < listed.size := by rw [inv.size]; omega
      exact hF j hjn (by simp [h2] at h1 ⊢; exact h1)
    · rw [← hd, putAll_put n a0 hdst hin]
      refine ih _ (updV us i v) w' ?_ (inv.set hi hin) (hSp _ _ hS hv.2) fun j hj hjl => ?_
      · have := unlistedN_set hiu hin; omega
      · by_cases hji : j = i
        · subst hji; simpa [updV] using hv.1
        · rw [getD_set_ne true (Ne.symm hji)] at hjl
          simpa [updV, hji] using hFp j _ _ _ hv.2 (hF j hj hjl)

/-- THE LAW. -/
theorem wp_region_inv {id : Nat} {Q : Exit → Act → World → Prop} {a : Act} {w : World} {l : List Oper} (S : World → Prop) (F : Nat → Value → World → Prop) (n : Nat) (hm : P.follows .mixedOrders = true) (hB : Region.invB .any l.toArray n = true)
    (hS : S w.drew) (hSp : ∀ w w', S w → Below w.heap.size w w' → S w') (hFp : ∀ j v w w', Below w.heap.size w w' → F j v w → F j v w')
    (hop : invHead P .any l.toArray S F n a (l.take n) 0)
    (hend : ∀ us w', S w' → (∀ j, j < n → F j (us j) w') → wpList P l.toArray Q (l.drop n) (putAll l.toArray us n a) w') : (Code.region id l.toArray true).wp P Q a w := by
  obtain ⟨hle, _, _, _, hseq⟩ := invB_spec hB
  have hdl : (l.drop n).length = l.toArray.size - n := by simp
  have inv0 : HeadInv .any l.toArray n (Array.replicate l.toArray.size false) :=
    ⟨by simp, fun j oj _ hl => (by rw [getD_replicate_false] at hl; cases hl), fun t _ ht => getD_in (by simpa using ht) (getD_replicate_false _ _)⟩
  have hle' : n ≤ l.length := by simpa using hle
  refine wp_region_any hm ?_
  have hleft : ∀ m, m ≤ l.length → unlistedN (Array.replicate l.length false) m = m := by
    intro m
    induction m with
    | zero => intro _; rfl
    | succ m ih => intro hm; simp only [unlistedN]; rw [ih (by omega), getD_in (by simp; omega) (getD_replicate_false _ _)]; simp; omega
  have := wpAny_inv (P := P) (Q := Q) (a0 := a) hB hSp hFp (fun i o hi ho => by
      have := invHead_get (l.take n) 0 hop i o (by rw [List.getElem?_take_of_lt hi]; simpa using ho)
      rwa [Nat.zero_add] at this)
    (fun us w' hS' hF => by
      have := wpAny_of_seq (md := .any) (Q' := Q) (l.drop n) n (Region.headDone l.toArray.size n) (putAll l.toArray us n a) w' (fun j => by simp [List.getElem?_drop]) (by rw [hdl]; exact hseq) (hend us w' hS' hF)
      rwa [hdl] at this)
    n (Array.replicate l.toArray.size false) (fun j => match dstOf l.toArray j with | some d => a.tmps.getD d undef | none => undef) w.drew (by simpa using hleft n hle') inv0 hS (fun j hj hjl => by
      rw [getD_in (by simp; omega) (getD_replicate_false _ _)] at hjl; cases hjl)
  rw [putAll_self, show n + (l.toArray.size - n) = l.toArray.size by omega] at this
  exact this
end
end Go
namespace Go
open Go.RowKit
section
variable {P : Program} {ops : Array Oper} {md : Region.Mode}
def Region.invGB (md : Region.Mode) (ops : Array Oper) (n : Nat) : Bool :=
  decide (n ≤ ops.size) && (decide (n = ops.size) || (Region.sinkB md ops n && Region.chainB md ops n)) &&
  ((List.range n).all fun i => match ops[i]? with | some o => o.after.toList.all (fun e => decide (e.on < i)) | none => false) &&
  ((List.range n).all fun i => (List.range n).all fun j => decide (i = j) || decide (dstOf ops i = none) || decide (dstOf ops i ≠ dstOf ops j)) &&
  Region.seqB md ops (ops.size - n) n (Region.headDone ops.size n)

/-- Operation i's part: it is wanted and yields, or it is not wanted. -/
def OpYieldsG (P : Program) (md : Region.Mode) (ops : Array Oper) (S : World → Prop) (F : Nat → Value → World → Prop) (n : Nat) (a0 : Act) (i : Nat) (o : Oper) : Prop :=
  ∀ (us : Nat → Value) (w : World), S w → (∀ j, (o.after.toList.any fun e => Region.binds md e && decide (e.on = j)) = true → F j (us j) w) →
    (Region.wanted o (yielded ops (putAll ops us n a0).tmps) = true ∧ GivesK P (fun v w' => F i v w' ∧ Below w.heap.size w w') ((execOp (putAll ops us n a0).eval o).run P w)) ∨
    (Region.wanted o (yielded ops (putAll ops us n a0).tmps) = false ∧ F i undef w)

theorem OpYieldsG.wpOp {F : Nat → Value → World → Prop} {n : Nat} {a0 : Act} {Q : Exit → Act → World → Prop} {i : Nat} {o : Oper} {us : Nat → Value} {w : World} (hi : ops[i]? = some o)
    (h0 : (Region.wanted o (yielded ops (putAll ops us n a0).tmps) = true ∧ GivesK P (fun v w' => F i v w' ∧ Below w.heap.size w w') ((execOp (putAll ops us n a0).eval o).run P w)) ∨ (Region.wanted o (yielded ops (putAll ops us n a0).tmps) = false ∧ F i undef w))
    {K : Act → World → Prop} (h : ∀ v w', F i v w' ∧ Below w.heap.size w w' → K ((putAll ops us n a0).put o.dst v) w') : wpOp P ops Q i K (putAll ops us n a0) w := by
  generalize putAll ops us n a0 = a at *
  unfold Go.wpOp
  simp only [hi]
  rcases h0 with ⟨hw, h0⟩ | ⟨hw, h0⟩
  · rw [if_pos hw]
    refine .inl ?_
    unfold Oper.wp
    generalize (execOp a.eval o).run P w = r at h0
    cases r with
    | ok n w' =>
      cases n <;> simp only [GivesK] at h0
      case value u => exact h _ _ h0
      case skip => exact h _ _ h0
      case enter f args =>
        rw [Oper.upon_enter]
        refine h0.mono fun e w'' he => ?_
        obtain ⟨v, rfl, h2⟩ := he
        exact h v w'' h2
    | halt x w' => exact h0.elim
  · rw [if_neg (by rw [hw]; decide)]
    exact h _ _ ⟨h0, Below.refl _ _⟩

def invHeadG (P : Program) (md : Region.Mode) (ops : Array Oper) (S : World → Prop) (F : Nat → Value → World → Prop) (n : Nat) (a0 : Act) : List Oper → Nat → Prop
  | [], _ => True
  | o :: l, k => OpYieldsG P md ops S F n a0 k o ∧ invHeadG P md ops S F n a0 l (k + 1)

theorem invHeadG_get {S : World → Prop} {F : Nat → Value → World → Prop} {n : Nat} {a0 : Act} : ∀ (l : List Oper) (k : Nat), invHeadG P md ops S F n a0 l k → ∀ j o, l[j]? = some o → OpYieldsG P md ops S F n a0 (k + j) o
  | [], _, _, _, _, h => by simp at h
  | x :: l, k, h, 0, o, ho => by obtain rfl : x = o := by simpa using ho
                                 exact h.1
  | x :: l, k, h, j + 1, o, ho => by
    have := invHeadG_get l (k + 1) h.2 j o (by simpa using ho)
    rwa [show k + 1 + j = k + (j + 1) by omega] at this

theorem invGB_spec {n : Nat} (h : Region.invGB md ops n = true) : n ≤ ops.size ∧ (n = ops.size ∨ (Region.sinkB md ops n = true ∧ Region.chainB md ops n = true)) ∧
    (∀ i, i < n → ∃ o, ops[i]? = some o ∧ ∀ e ∈ o.after, e.on < i) ∧ (∀ j k, j < n → k < n → j ≠ k → dstOf ops j = none ∨ dstOf ops j ≠ dstOf ops k) ∧ Region.seqB md ops (ops.size - n) n (Region.headDone ops.size n) = true := by
  simp only [Region.invGB, Bool.and_eq_true, decide_eq_true_eq, Bool.or_eq_true] at h
  obtain ⟨⟨⟨⟨h1, h2⟩, h3⟩, h4⟩, h5⟩ := h
  refine ⟨h1, h2, fun i hi => ?_, fun j k hj hk hjk => ?_, h5⟩
  · have := List.all_eq_true.1 h3 i (List.mem_range.2 hi)
    revert this
    cases ho : ops[i]? with
    | none => simp
    | some o =>
      intro this
      exact ⟨o, rfl, fun e he => by simpa using (List.all_eq_true.1 this e (by simpa using he))⟩
  · have := List.all_eq_true.1 (List.all_eq_true.1 h4 j (List.mem_range.2 hj)) k (List.mem_range.2 hk)
    simp only [Bool.or_eq_true, decide_eq_true_eq] at this
    rcases this with (h | h) | h
    · exact absurd h hjk
    · exact .inl h
    · exact .inr h

theorem wpAny_invG {S : World → Prop} {F : Nat → Value → World → Prop} {n : Nat} {a0 : Act} {Q : Exit → Act → World → Prop} (hB : Region.invGB md ops n = true)
    (hSp : ∀ w w', S w → Below w.heap.size w w' → S w') (hFp : ∀ j v w w', Below w.heap.size w w' → F j v w → F j v w') (hop : ∀ i o, i < n → ops[i]? = some o → OpYieldsG P md ops S F n a0 i o)
    (hend : ∀ us w, S w → (∀ j, j < n → F j (us j) w) → wpAny P md ops Q (ops.size - n) (Region.headDone ops.size n) (putAll ops us n a0) w) :
    ∀ (f : Nat) (listed : Array Bool) (us : Nat → Value) (w : World), unlistedN listed n = f → HeadInv md ops n listed → S w → (∀ j, j < n → listed.getD j true = true → F j (us j) w) →
      wpAny P md ops Q (f + (ops.size - n)) listed (putAll ops us n a0) w := by
  obtain ⟨hle, hsc, hops, hdst, _⟩ := invGB_spec hB
  intro f
  induction f with
  | zero =>
    intro listed us w hl inv hS hF
    have hdone : listed = Region.headDone ops.size n := by
      apply Array.ext
      · simp [Region.headDone, inv.size]
      · intro j h1 h2
        have hv : listed.getD j true = listed[j] := by simp [h1]
        have : (Region.headDone ops.size n)[j] = decide (j < n) := by simp [Region.headDone]
        rw [this]
        by_cases hjn : j < n
        · rw [← hv, unlistedN_zero hl j hjn]; simp [hjn]
        · rw [← hv, inv.tail j (by omega) (by rw [← inv.size]; exact h1)]; simp [hjn]
    rw [Nat.zero_add, hdone]
    exact hend us w hS fun j hj => hF j hj (unlistedN_zero hl j hj)
  | succ f ih =>
    intro listed us w hl inv hS hF
    obtain ⟨k, hk, hku, hkl⟩ := unlistedN_pos (n := n) (listed := listed) (by omega)
    have hkr : k ∈ Region.ready md ops listed := by
      obtain ⟨o, ho, hlt⟩ := hops k hk
      refine mem_ready.2 ⟨hku, o, ho, fun e he _ => ?_⟩
      have h1 := hkl e.on (hlt e he)
      have h2 : e.on < listed.size := by rw [inv.size]; have := hlt e he; omega
      simp [h2] at h1 ⊢; exact h1
    rw [show f + 1 + (ops.size - n) = (f + (ops.size - n)) + 1 by omega]
    refine ⟨fun h0 => (by rw [h0] at hkr; cases hkr), fun i hi => ?_⟩
    obtain ⟨hiu, oi, hoi, hall⟩ := mem_ready.1 hi
    have hin : i < n := by
      rcases hsc with h | ⟨h1, h2⟩
      · rcases Nat.lt_or_ge i n with h' | h'
        · exact h'
        · rw [Array.getElem?_eq_none (by omega)] at hoi; cases hoi
      · rcases Nat.lt_or_ge n ops.size with h' | h'
        · exact Nat.lt_of_not_le fun h => tail_waits h1 h2 h' inv _ k rfl hk hku i h hi
        · rcases Nat.lt_or_ge i n with h'' | h''
          · exact h''
          · rw [Array.getElem?_eq_none (by omega)] at hoi; cases hoi
    obtain ⟨o', ho', _⟩ := hops i hin
    obtain rfl : oi = o' := Option.some.inj (hoi.symm.trans ho')
    have hd : dstOf ops i = oi.dst := by simp [dstOf, hoi]
    refine OpYieldsG.wpOp hoi (hop i oi hin hoi us w hS fun j hj => ?_) fun v w' hv => ?_
    · obtain ⟨e, he, hb⟩ : ∃ e ∈ oi.after, Region.binds md e = true ∧ e.on = j := by
        obtain ⟨e, he, hb⟩ := List.any_eq_true.1 hj
        exact ⟨e, by simpa using he, by simpa using hb⟩
      have h1 := hall e he hb.1
      rw [hb.2] at h1
      have hjn : j < n := by
        obtain ⟨o2, ho2, hlt⟩ := hops i hin
        obtain rfl : oi = o2 := Option.some.inj (hoi.symm.trans ho2)
        have := hlt e he; omega
      have h2 : j < listed.size := by rw [inv.size]; omega
      exact hF j hjn (by simp [h2] at h1 ⊢; exact h1)
    · rw [← hd, putAll_put n a0 hdst hin]
      refine ih _ (updV us i v) w' ?_ (inv.set hi hin) (hSp _ _ hS hv.2) fun j hj hjl => ?_
      · have := unlistedN_set hiu hin; omega
      · by_cases hji : j = i
        · subst hji; simpa [updV] using hv.1
        · rw [getD_set_ne true (Ne.symm hji)] at hjl
          simpa [updV, hji] using hFp j _ _ _ hv.2 (hF j hj hjl)

/-- THE LAW. -/
theorem wp_region_invG {id : Nat} {Q : Exit → Act → World → Prop} {a : Act} {w : World} {l : List Oper} (S : World → Prop) (F : Nat → Value → World → Prop) (n : Nat) (hm : P.follows .mixedOrders = true) (hB : Region.invGB .any l.toArray n = true)
    (hS : S w.drew) (hSp : ∀ w w', S w → Below w.heap.size w w' → S w') (hFp : ∀ j v w w', Below w.heap.size w w' → F j v w → F j v w')
    (hop : invHeadG P .any l.toArray S F n a (l.take n) 0)
    (hend : ∀ us w', S w' → (∀ j, j < n → F j (us j) w') → wpList P l.toArray Q (l.drop n) (putAll l.toArray us n a) w') : (Code.region id l.toArray true).wp P Q a w := by
  obtain ⟨hle, _, _, _, hseq⟩ := invGB_spec hB
  have hdl : (l.drop n).length = l.toArray.size - n := by simp
  have inv0 : HeadInv .any l.toArray n (Array.replicate l.toArray.size false) :=
    ⟨by simp, fun j oj _ hl => (by rw [getD_replicate_false] at hl; cases hl), fun t _ ht => getD_in (by simpa using ht) (getD_replicate_false _ _)⟩
  have hle' : n ≤ l.length := by simpa using hle
  refine wp_region_any hm ?_
  have hleft : ∀ m, m ≤ l.length → unlistedN (Array.replicate l.length false) m = m := by
    intro m
    induction m with
    | zero => intro _; rfl
    | succ m ih => intro hm; simp only [unlistedN]; rw [ih (by omega), getD_in (by simp; omega) (getD_replicate_false _ _)]; simp; omega
  have := wpAny_invG (P := P) (Q := Q) (a0 := a) hB hSp hFp (fun i o hi ho => by
      have := invHeadG_get (l.take n) 0 hop i o (by rw [List.getElem?_take_of_lt hi]; simpa using ho)
      rwa [Nat.zero_add] at this)
    (fun us w' hS' hF => by
      have := wpAny_of_seq (md := .any) (Q' := Q) (l.drop n) n (Region.headDone l.toArray.size n) (putAll l.toArray us n a) w' (fun j => by simp [List.getElem?_drop]) (by rw [hdl]; exact hseq) (hend us w' hS' hF)
      rwa [hdl] at this)
    n (Array.replicate l.toArray.size false) (fun j => match dstOf l.toArray j with | some d => a.tmps.getD d undef | none => undef) w.drew (by simpa using hleft n hle') inv0 hS (fun j hj hjl => by
      rw [getD_in (by simp; omega) (getD_replicate_false _ _)] at hjl; cases hjl)
  rw [show putAll l.toArray (fun j => match dstOf l.toArray j with | some d => a.tmps.getD d undef | none => undef) n a = a from putAll_self a n, show n + (l.toArray.size - n) = l.toArray.size by omega] at this
  exact this
end
end Go
