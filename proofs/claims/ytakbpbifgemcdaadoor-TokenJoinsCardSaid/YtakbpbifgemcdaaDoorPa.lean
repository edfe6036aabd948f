/- The tokens of a text, by plain lists of bytes, and what is true of them. No conditions. -/
namespace Tk
abbrev By := List UInt8
def dig (c : UInt8) : Bool := decide (48 ≤ c.toNat) && decide (c.toNat ≤ 57)
def ltr (c : UInt8) : Bool := (decide (97 ≤ c.toNat) && decide (c.toNat ≤ 122)) || (decide (65 ≤ c.toNat) && decide (c.toNat ≤ 90))
def inn (c : UInt8) : Bool := ltr c || dig c || decide (c.toNat = 95)
def blank (c : UInt8) : Bool := decide (c.toNat = 32) || decide (c.toNat = 9) || decide (c.toNat = 10)
def words : List By := [[118, 97, 114], [97, 114, 114, 97, 121], [102, 117, 110, 99], [119, 111, 114, 100], [105, 102], [101, 108, 115, 101], [119, 104, 105, 108, 101], [114, 101, 116, 117, 114, 110], [112, 117, 116], [103, 101, 116]]
def signs : List By := [[60, 60], [62, 62], [61, 61], [38, 38], [124, 124], [40], [41], [123], [125], [91], [93], [59], [44], [61], [43], [45], [42], [47], [37], [38], [124], [94], [60], [33]]
structure Tok where
  kind : Nat
  text : By
  num : Nat
  place : Nat
deriving DecidableEq
def value : By → Nat → Option Nat
  | [], n => some n
  | c :: r, n => if 10 * n + (c.toNat - 48) > 4294967295 then none else value r (10 * n + (c.toNat - 48))
def quoted : By → Option UInt8
  | a :: b :: c :: _ => if a.toNat = 39 ∧ c.toNat = 39 ∧ 32 ≤ b.toNat ∧ b.toNat ≤ 126 ∧ b.toNat ≠ 39 ∧ b.toNat ≠ 92 then some b else none
  | _ => none
def sign (l : By) : Option By := signs.find? fun g => g.isPrefixOf l
/-- The token at the front: its kind, text and number; or the error. -/
def next (l : By) : Except Nat (Nat × By × Nat) :=
  if (l.head?.map dig).getD false = true then
    match value (l.takeWhile dig) 0 with
    | none => .error 2
    | some n => .ok (2, l.takeWhile dig, n)
  else if (l.head?.map ltr).getD false = true then
    if (l.takeWhile inn).length > 20 then .error 2 else .ok (if l.takeWhile inn ∈ words then 3 else 1, l.takeWhile inn, 0)
  else if l.head? = some 39 then
    match quoted l with
    | none => .error 3
    | some b => .ok (2, l.take 3, b.toNat)
  else match sign l with
    | none => .error 3
    | some g => .ok (4, g, 0)
def lineEnd (c : UInt8) : Bool := decide (c.toNat ≠ 10)
def isNote (l : By) : Bool := [47, 47].isPrefixOf l
def lexF : Nat → By → Nat → Except (Nat × Nat) (List Tok)
  | 0, _, _ => .ok []
  | _ + 1, [], _ => .ok []
  | k + 1, c :: r, p =>
    if blank c = true then lexF k r (p + 1)
    else if isNote (c :: r) = true then lexF k ((c :: r).drop ((c :: r).takeWhile lineEnd).length) (p + ((c :: r).takeWhile lineEnd).length)
    else match next (c :: r) with
      | .error e => .error (p, e)
      | .ok (k', t, n) => match lexF k ((c :: r).drop t.length) (p + t.length) with
        | .error e => .error e
        | .ok ts => .ok (⟨k', t, n, p⟩ :: ts)
def lex (l : By) (p : Nat) : Except (Nat × Nat) (List Tok) := lexF l.length l p
def skipF : Nat → By → Nat
  | 0, _ => 0
  | _ + 1, [] => 0
  | k + 1, c :: r =>
    if blank c = true then 1 + skipF k r
    else if isNote (c :: r) = true then ((c :: r).takeWhile lineEnd).length + skipF k ((c :: r).drop ((c :: r).takeWhile lineEnd).length)
    else 0
def skip (l : By) : Nat := skipF l.length l
/-- Could a token go on with a byte? -/
def goes (k : Nat) (t : By) (d : UInt8) : Bool :=
  if k = 2 then dig d && decide (t.head? ≠ some 39)
  else if k = 4 then decide (t = [d]) && decide (d = 60 ∨ d = 61 ∨ d = 38 ∨ d = 124)
  else inn d

/- Lists. -/
theorem takeWhile_self {p : UInt8 → Bool} {t : By} (h : ∀ x ∈ t, p x = true) (y : By) (hy : ∀ d, y.head? = some d → p d = false) : (t ++ y).takeWhile p = t := by
  induction t with
  | nil => cases y with
    | nil => rfl
    | cons d y => simp [hy d rfl]
  | cons a t ih => simp [h a (by simp), ih (fun x hx => h x (by simp [hx]))]
theorem takeWhile_all (p : UInt8 → Bool) (l : By) : ∀ x ∈ l.takeWhile p, p x = true := by
  induction l with
  | nil => simp
  | cons a l ih =>
    intro x hx
    simp only [List.takeWhile] at hx
    split at hx
    · rcases List.mem_cons.1 hx with rfl | hx
      · assumption
      · exact ih x hx
    · simp at hx
theorem takeWhile_split (p : UInt8 → Bool) (l : By) : ∃ x, l = l.takeWhile p ++ x ∧ ∀ d, x.head? = some d → p d = false := by
  induction l with
  | nil => exact ⟨[], rfl, by simp⟩
  | cons a l ih =>
    obtain ⟨x, h, hx⟩ := ih
    by_cases ha : p a = true
    · exact ⟨x, by simp only [List.takeWhile, ha, List.cons_append]; rw [← h], hx⟩
    · refine ⟨a :: l, by simp [List.takeWhile, ha], ?_⟩
      intro d hd
      simp at hd
      subst hd
      simpa using ha
theorem isPrefix_of {g l : By} (h : g.isPrefixOf l = true) : ∃ x, l = g ++ x := by
  obtain ⟨x, hx⟩ := List.isPrefixOf_iff_prefix.1 h
  exact ⟨x, hx.symm⟩
theorem sign_some {l g : By} (h : sign l = some g) : g ∈ signs ∧ ∃ x, l = g ++ x := by
  refine ⟨List.mem_of_find?_eq_some h, isPrefix_of ?_⟩
  exact List.find?_some (p := fun g : By => List.isPrefixOf g l) (l := signs) h

/- What a token is. -/
inductive Is : Nat → By → Nat → Prop
  | num {t n} : t ≠ [] → (∀ x ∈ t, dig x = true) → value t 0 = some n → Is 2 t n
  | name {t} : (∃ c r, t = c :: r ∧ ltr c = true) → (∀ x ∈ t, inn x = true) → t.length ≤ 20 → Is (if t ∈ words then 3 else 1) t 0
  | quote {b : UInt8} : 32 ≤ b.toNat → b.toNat ≤ 126 → b.toNat ≠ 39 → b.toNat ≠ 92 → Is 2 [39, b, 39] b.toNat
  | sign {t} : t ∈ signs → Is 4 t 0
theorem Is.ne {k n t} (h : Is k t n) : t ≠ [] := by
  cases h with
  | num h => exact h
  | name h => obtain ⟨c, r, rfl, _⟩ := h; simp
  | quote => simp
  | sign h => intro e; subst e; revert h; decide
theorem ltr_inn {c} (h : ltr c = true) : inn c = true := by simp [inn, h]
theorem dig_ltr {c} (h : ltr c = true) : dig c = false := by
  simp only [ltr, dig, Bool.or_eq_true, Bool.and_eq_true, decide_eq_true_eq] at *
  simp; omega
theorem byte_eq {c : UInt8} {n : Nat} (h : c.toNat = n) (hn : n < 256) : c = UInt8.ofNat n := by
  apply UInt8.toNat_inj.1
  rw [h]; simp [Nat.mod_eq_of_lt hn]
theorem next_is {l k t n} (h : next l = .ok (k, t, n)) : Is k t n ∧ ∃ x, l = t ++ x ∧ ∀ d, x.head? = some d → goes k t d = false := by
  unfold next at h
  split at h
  · rename_i hd
    obtain ⟨c, r, rfl⟩ : ∃ c r, l = c :: r := by cases l with | nil => simp at hd | cons c r => exact ⟨c, r, rfl⟩
    have hc : dig c = true := by simpa using hd
    split at h
    · simp at h
    · rename_i v hv
      simp only [Except.ok.injEq, Prod.mk.injEq] at h
      obtain ⟨rfl, rfl, rfl⟩ := h
      obtain ⟨x, hx, hxd⟩ := takeWhile_split dig (c :: r)
      refine ⟨.num (by simp [List.takeWhile, hc]) (takeWhile_all _ _) hv, x, hx, fun d hd => ?_⟩
      simp [goes, hxd d hd]
  · split at h
    · rename_i hd
      obtain ⟨c, r, rfl⟩ : ∃ c r, l = c :: r := by cases l with | nil => simp at hd | cons c r => exact ⟨c, r, rfl⟩
      have hc : ltr c = true := by simpa using hd
      split at h
      · cases h
      · rename_i hlen
        simp only [Except.ok.injEq, Prod.mk.injEq] at h
        obtain ⟨rfl, rfl, rfl⟩ := h
        obtain ⟨x, hx, hxd⟩ := takeWhile_split inn (c :: r)
        refine ⟨.name ⟨c, r.takeWhile inn, by simp [List.takeWhile, ltr_inn hc], hc⟩ (takeWhile_all _ _) (by omega), x, hx, fun d hd => ?_⟩
        by_cases hw : (c :: r).takeWhile inn ∈ words
        · rw [if_pos hw]; exact hxd d hd
        · rw [if_neg hw]; exact hxd d hd
    · split at h
      · split at h
        · simp at h
        · rename_i b hb
          simp only [Except.ok.injEq, Prod.mk.injEq] at h
          obtain ⟨rfl, rfl, rfl⟩ := h
          unfold quoted at hb
          split at hb
          · rename_i a b' c r _ _ _
            split at hb
            · rename_i hq
              simp only [Option.some.injEq] at hb
              subst hb
              obtain ⟨ha, hc, h1, h2, h3, h4⟩ := hq
              rw [byte_eq ha (by omega), byte_eq hc (by omega)]
              exact ⟨.quote h1 h2 h3 h4, r, by simp, fun d hd => by simp [goes]⟩
            · simp at hb
          · simp at hb
      · split at h
        · simp at h
        · rename_i g hg
          simp only [Except.ok.injEq, Prod.mk.injEq] at h
          obtain ⟨rfl, rfl, rfl⟩ := h
          obtain ⟨hm, x, hx⟩ := sign_some hg
          refine ⟨.sign hm, x, hx, fun d hd => ?_⟩
          rw [goes, if_neg (by decide), if_pos rfl]
          simp only [Bool.and_eq_false_iff, decide_eq_false_iff_not]
          by_cases ht : g = [d]
          · right
            subst ht
            obtain ⟨x', rfl⟩ : ∃ x', x = d :: x' := by cases x with | nil => simp at hd | cons a x => simp at hd; exact ⟨x, by rw [hd]⟩
            subst hx
            rintro (rfl | rfl | rfl | rfl) <;> simp [sign, signs, List.isPrefixOf] at hg
          · exact .inl ht
theorem is_next {k n t} (h : Is k t n) (y : By) (hy : ∀ d, y.head? = some d → goes k t d = false) : next (t ++ y) = .ok (k, t, n) := by
  cases h with
  | num hne hd hv =>
    obtain ⟨c, r, rfl⟩ : ∃ c r, t = c :: r := by cases t with | nil => simp at hne | cons c r => exact ⟨c, r, rfl⟩
    have hc := hd c (by simp)
    have htw : ((c :: r) ++ y).takeWhile dig = c :: r := takeWhile_self hd y fun d h => by
      have := hy d h
      simp only [goes, if_true, Bool.and_eq_false_iff, decide_eq_false_iff_not] at this
      rcases this with h | h
      · exact h
      · exfalso
        apply h
        intro e
        simp at e
        subst e
        simp [dig] at hc
    unfold next
    rw [if_pos (by simp [hc]), htw, hv]
  | name hc hi hl =>
    obtain ⟨c, r, rfl, hc⟩ := hc
    have hdc := dig_ltr hc
    have htw : ((c :: r) ++ y).takeWhile inn = c :: r := takeWhile_self hi y fun d h => by
      have := hy d h
      by_cases hw : c :: r ∈ words
      · rw [if_pos hw] at this; exact this
      · rw [if_neg hw] at this; exact this
    unfold next
    rw [if_neg (by simp [hdc]), if_pos (by simp [hc]), htw, if_neg (by omega)]
  | @quote b h1 h2 h3 h4 =>
    unfold next
    rw [if_neg (by simp [dig]), if_neg (by simp [ltr]), if_pos (by rfl)]
    have hq : quoted ([39, b, 39] ++ y) = some b := by
      simp [quoted, h1, h2, h3, h4]
    rw [hq]
    simp
  | sign hm =>
    have hs : sign (t ++ y) = some t ∧ ((t ++ y).head?.map dig).getD false = false ∧ ((t ++ y).head?.map ltr).getD false = false ∧ (t ++ y).head? ≠ some 39 := by
      simp only [signs, List.mem_cons, List.not_mem_nil, or_false] at hm
      rcases hm with rfl|rfl|rfl|rfl|rfl|rfl|rfl|rfl|rfl|rfl|rfl|rfl|rfl|rfl|rfl|rfl|rfl|rfl|rfl|rfl|rfl|rfl|rfl|rfl <;>
      · cases y with
        | nil => decide
        | cons d y =>
          have h := hy d rfl
          refine ⟨?_, rfl, rfl, by simp⟩
          by_cases e1 : d = 60
          · subst e1; first | rfl | (simp [goes] at h; done)
          by_cases e2 : d = 61
          · subst e2; first | rfl | (simp [goes] at h; done)
          by_cases e3 : d = 38
          · subst e3; first | rfl | (simp [goes] at h; done)
          by_cases e4 : d = 124
          · subst e4; first | rfl | (simp [goes] at h; done)
          have b1 : (60 == d) = false := by simp; exact fun h => e1 h.symm
          have b2 : (61 == d) = false := by simp; exact fun h => e2 h.symm
          have b3 : (38 == d) = false := by simp; exact fun h => e3 h.symm
          have b4 : (124 == d) = false := by simp; exact fun h => e4 h.symm
          simp [sign, signs, List.find?, List.isPrefixOf, b1, b2, b3, b4]
    obtain ⟨h1, h2, h3, h4⟩ := hs
    unfold next
    rw [if_neg (by rw [h2]; decide), if_neg (by rw [h3]; decide), if_neg h4, h1]
theorem next_move {l k t n} (h : next l = .ok (k, t, n)) (y : By) (hy : ∀ d, y.head? = some d → goes k t d = false) : next (t ++ y) = .ok (k, t, n) := is_next (next_is h).1 y hy
theorem goes_blank (k : Nat) {n : Nat} {t : By} {d : UInt8} (_ : Is k t n) (h : blank d = true) : goes k t d = false := by
  simp only [blank, Bool.or_eq_true, decide_eq_true_eq] at h
  have hd : dig d = false := by simp [dig]; omega
  have hi : inn d = false := by simp [inn, ltr, dig]; omega
  unfold goes
  split
  · simp [hd]
  · split
    · simp only [Bool.and_eq_false_iff, decide_eq_false_iff_not]
      right
      rintro (rfl | rfl | rfl | rfl) <;> simp at h
    · exact hi
/-- An error stays where a line feed stands behind. -/
theorem next_err {l : By} {e : Nat} (hl : l ≠ []) (h : next l = .error e) (x : By) : next (l ++ 10 :: x) = .error e := by
  obtain ⟨c, r, rfl⟩ : ∃ c r, l = c :: r := by cases l with | nil => simp at hl | cons c r => exact ⟨c, r, rfl⟩
  have tw : ∀ p : UInt8 → Bool, p 10 = false → ((c :: r) ++ 10 :: x).takeWhile p = (c :: r).takeWhile p := fun p hp => by
    obtain ⟨z, hz, hzd⟩ := takeWhile_split p (c :: r)
    conv => lhs; rw [hz]
    rw [List.append_assoc]
    refine takeWhile_self (takeWhile_all _ _) _ fun d hd => ?_
    cases z with
    | nil => simp at hd; rw [← hd]; exact hp
    | cons a z => exact hzd d (by simpa using hd)
  have hh : ((c :: r) ++ 10 :: x).head? = (c :: r).head? := rfl
  unfold next at h ⊢
  rw [tw dig (by decide), tw inn (by decide), hh]
  by_cases h1 : ((c :: r).head?.map dig).getD false = true
  · rw [if_pos h1] at h ⊢; exact h
  · rw [if_neg h1] at h ⊢
    by_cases h2 : ((c :: r).head?.map ltr).getD false = true
    · rw [if_pos h2] at h ⊢; exact h
    · rw [if_neg h2] at h ⊢
      by_cases h3 : (c :: r).head? = some 39
      · rw [if_pos h3] at h ⊢
        have hq : quoted (c :: r) = none := by
          cases hq : quoted (c :: r) with
          | none => rfl
          | some b => rw [hq] at h; simp at h
        rw [hq] at h
        have hq2 : quoted ((c :: r) ++ 10 :: x) = none := by
          match r, hq with
          | [], _ => cases x <;> simp [quoted]
          | [b], _ => simp [quoted]
          | b :: d :: r, hq => simpa [quoted] using hq
        rw [hq2]; exact h
      · rw [if_neg h3] at h ⊢
        have hq : sign (c :: r) = none := by
          cases hq : sign (c :: r) with
          | none => rfl
          | some b => rw [hq] at h; simp at h
        rw [hq] at h
        have hq2 : sign ((c :: r) ++ 10 :: x) = none := by
          simp only [sign, List.find?_eq_none] at hq ⊢
          intro g hg
          have := hq g hg
          simp only [signs, List.mem_cons, List.not_mem_nil, or_false] at hg
          rcases hg with rfl|rfl|rfl|rfl|rfl|rfl|rfl|rfl|rfl|rfl|rfl|rfl|rfl|rfl|rfl|rfl|rfl|rfl|rfl|rfl|rfl|rfl|rfl|rfl <;>
          · cases r <;> first | (simp [List.isPrefixOf]; done) | simpa [List.isPrefixOf] using this
        rw [hq2]; exact h

/- What may stand between. -/
inductive Gap : By → By → Prop
  | nil (r) : Gap [] r
  | blank {c g r} : blank c = true → Gap g r → Gap (c :: g) r
  | note {q g r} : (∀ x ∈ q, lineEnd x = true) → Gap (10 :: g) r → Gap (47 :: 47 :: (q ++ 10 :: g)) r
  | last {q} : (∀ x ∈ q, lineEnd x = true) → Gap (47 :: 47 :: q) []
/-- A token may begin here. -/
def Clear (l : By) : Prop := ∃ c r, l = c :: r ∧ Tk.blank c = false ∧ isNote (c :: r) = false
theorem lineEnd_slash : lineEnd 47 = true := by decide
theorem isNote_iff {l : By} : isNote l = true ↔ ∃ q, l = 47 :: 47 :: q := by
  constructor
  · intro h; obtain ⟨x, hx⟩ := isPrefix_of h; exact ⟨x, by simpa using hx⟩
  · rintro ⟨q, rfl⟩; simp [isNote, List.isPrefixOf]
/-- Every text begins with a gap, behind which a token begins, or nothing is. -/
theorem gap_split (l : By) : ∃ g r, l = g ++ r ∧ Gap g r ∧ (r = [] ∨ Clear r) := by
  suffices H : ∀ n, ∀ l : By, l.length ≤ n → ∃ g r, l = g ++ r ∧ Gap g r ∧ (r = [] ∨ Clear r) from H _ l (Nat.le_refl _)
  intro n
  induction n with
  | zero => intro l h; exact ⟨[], [], by simpa using h, .nil _, .inl rfl⟩
  | succ n ih =>
    intro l h
    match l with
    | [] => exact ⟨[], [], rfl, .nil _, .inl rfl⟩
    | c :: r =>
      by_cases hb : blank c = true
      · obtain ⟨g, r', he, hg, hr⟩ := ih r (by simpa using h)
        exact ⟨c :: g, r', by rw [he]; rfl, .blank hb hg, hr⟩
      · by_cases hn : isNote (c :: r) = true
        · obtain ⟨q0, hq0⟩ := isNote_iff.1 hn
          simp only [List.cons.injEq] at hq0
          obtain ⟨rfl, rfl⟩ := hq0
          obtain ⟨x, hx, hxd⟩ := takeWhile_split lineEnd q0
          have hall := takeWhile_all lineEnd q0
          generalize q0.takeWhile lineEnd = q at hx hall
          subst hx
          cases x with
          | nil => exact ⟨47 :: 47 :: q, [], by simp, .last hall, .inl rfl⟩
          | cons d x =>
            have hd : d = 10 := by
              have := hxd d rfl
              simp only [lineEnd, decide_eq_false_iff_not, Decidable.not_not] at this
              exact byte_eq (n := 10) this (by decide)
            subst hd
            obtain ⟨g, r', he, hg, hr⟩ := ih (10 :: x) (by simp at h ⊢; omega)
            cases g with
            | nil => 
              simp only [List.nil_append] at he
              subst he
              rcases hr with hr | ⟨c, r2, e, hb', _⟩
              · simp at hr
              · simp only [List.cons.injEq] at e; obtain ⟨rfl, rfl⟩ := e; simp [Tk.blank] at hb'
            | cons a g =>
              simp only [List.cons_append, List.cons.injEq] at he
              obtain ⟨rfl, rfl⟩ := he
              exact ⟨47 :: 47 :: (q ++ 10 :: g), r', by simp, .note hall hg, hr⟩
        · exact ⟨[], c :: r, rfl, .nil _, .inr ⟨c, r, rfl, by simpa using hb, by simpa using hn⟩⟩
theorem tw_note {q : By} (hq : ∀ x ∈ q, lineEnd x = true) (y : By) (hy : ∀ d, y.head? = some d → lineEnd d = false) : (47 :: 47 :: (q ++ y)).takeWhile lineEnd = 47 :: 47 :: q := by
  have hall : ∀ x ∈ 47 :: 47 :: q, lineEnd x = true := by
    intro x hx
    rcases List.mem_cons.1 hx with h | hx
    · rw [h]; exact lineEnd_slash
    rcases List.mem_cons.1 hx with h | hx
    · rw [h]; exact lineEnd_slash
    · exact hq x hx
  exact takeWhile_self hall y hy
theorem lexF_fuel : ∀ k k' l p, l.length ≤ k → l.length ≤ k' → lexF k l p = lexF k' l p := by
  intro k
  induction k with
  | zero =>
    intro k' l p h h'
    have : l = [] := by simpa using h
    subst this
    cases k' <;> rfl
  | succ k ih =>
    intro k' l p h h'
    match l, k' with
    | [], 0 => rfl
    | [], _ + 1 => rfl
    | c :: r, 0 => simp at h'
    | c :: r, k' + 1 =>
      simp only [List.length_cons] at h h'
      unfold lexF
      split
      · exact ih _ _ _ (by omega) (by omega)
      · rename_i hb
        split
        · rename_i hn
          obtain ⟨q, hq⟩ := isNote_iff.1 hn
          simp only [List.cons.injEq] at hq
          obtain ⟨rfl, rfl⟩ := hq
          refine ih _ _ _ ?_ ?_ <;>
          · simp only [List.length_drop, List.takeWhile, lineEnd_slash, List.length_cons] at *; omega
        · cases hx : next (c :: r) with
          | error e => rfl
          | ok x =>
            obtain ⟨k1, t, n⟩ := x
            have hne : t.length ≠ 0 := by simpa using (next_is hx).1.ne
            simp only
            rw [ih k' ((c :: r).drop t.length) (p + t.length) (by simp; omega) (by simp; omega)]
theorem lex_nil (p) : lex [] p = .ok [] := rfl
theorem lex_blank {c r p} (h : blank c = true) : lex (c :: r) p = lex r (p + 1) := by
  simp only [lex, List.length_cons]
  rw [lexF, if_pos h]
theorem lex_note {q y p} (hq : ∀ x ∈ q, lineEnd x = true) (hy : ∀ d, y.head? = some d → lineEnd d = false) : lex (47 :: 47 :: (q ++ y)) p = lex y (p + (2 + q.length)) := by
  have h1 := tw_note hq y hy
  simp only [lex, List.length_cons]
  rw [lexF, if_neg (by decide), if_pos (isNote_iff.2 ⟨_, rfl⟩), h1]
  have h2 : (47 :: 47 :: (q ++ y)).drop (47 :: 47 :: q).length = y := by simp
  rw [h2, lexF_fuel _ y.length _ _ (by simp; omega) (Nat.le_refl _)]
  simp only [List.length_cons]
  congr 1
  omega
theorem lex_err {l p e} (hc : Clear l) (h : next l = .error e) : lex l p = .error (p, e) := by
  obtain ⟨c, r, rfl, hb, hn⟩ := hc
  simp only [lex, List.length_cons]
  rw [lexF, if_neg (by simp [hb]), if_neg (by simp [hn]), h]
theorem lex_tok {t y k n p} (hc : Clear (t ++ y)) (h : next (t ++ y) = .ok (k, t, n)) : lex (t ++ y) p = (lex y (p + t.length)).map (⟨k, t, n, p⟩ :: ·) := by
  have hne : t.length ≠ 0 := by simpa using (next_is h).1.ne
  obtain ⟨c, r, he, hb, hn⟩ := hc
  simp only [lex]
  rw [he] at h ⊢
  rw [List.length_cons, lexF, if_neg (by simp [hb]), if_neg (by simp [hn]), h]
  simp only
  rw [← he, List.drop_append_of_le_length (Nat.le_refl _), List.drop_length, List.nil_append]
  have hl := congrArg List.length he
  simp at hl
  rw [lexF_fuel _ y.length _ _ (by omega) (Nat.le_refl _)]
  cases lexF y.length y (p + t.length) <;> rfl
theorem lex_gap {g r} (h : Gap g r) : ∀ p, lex (g ++ r) p = lex r (p + g.length) := by
  induction h with
  | nil r => intro p; rfl
  | blank hb _ ih => intro p; rw [List.cons_append, lex_blank hb, ih, List.length_cons]; congr 1; omega
  | note hq _ ih =>
    intro p
    rw [List.cons_append, List.cons_append, List.append_assoc, lex_note hq (by simp [lineEnd]), ih]
    congr 1
    simp; omega
  | last hq =>
    intro p
    have := lex_note (p := p) hq (y := []) (by simp)
    simp only [List.append_nil] at this ⊢
    rw [this]
    congr 1
    simp; omega

/-- How a text is read: a gap; then nothing, an error, or a token. -/
theorem lex_cases (l : By) (p : Nat) : ∃ g r, l = g ++ r ∧ Gap g r ∧ ((r = [] ∧ lex l p = .ok []) ∨ (Clear r ∧ ∃ e, next r = .error e ∧ lex l p = .error (p + g.length, e)) ∨
    (Clear r ∧ ∃ k t n y, r = t ++ y ∧ next r = .ok (k, t, n) ∧ lex l p = (lex y (p + g.length + t.length)).map (⟨k, t, n, p + g.length⟩ :: ·))) := by
  obtain ⟨g, r, rfl, hg, hr⟩ := gap_split l
  refine ⟨g, r, rfl, hg, ?_⟩
  rw [lex_gap hg]
  rcases hr with rfl | hr
  · exact .inl ⟨rfl, rfl⟩
  · cases hx : next r with
    | error e => exact .inr (.inl ⟨hr, e, rfl, lex_err hr hx⟩)
    | ok x =>
      obtain ⟨k, t, n⟩ := x
      obtain ⟨_, y, rfl, _⟩ := next_is hx
      exact .inr (.inr ⟨hr, k, t, n, y, rfl, rfl, lex_tok hr hx⟩)
theorem map_ok {α β : Type} {x : Except (Nat × Nat) α} {f : α → β} {b : β} (h : x.map f = .ok b) : ∃ a, x = .ok a ∧ f a = b := by
  cases x with
  | error e => simp [Except.map] at h
  | ok a => exact ⟨a, rfl, by simpa [Except.map] using h⟩
theorem clear_move {t y y' : By} (hne : t ≠ []) (h : Clear (t ++ y)) (hy : y'.head? ≠ some 47) : Clear (t ++ y') := by
  obtain ⟨c, r, he, hb, hn⟩ := h
  cases t with
  | nil => simp at hne
  | cons a t =>
    simp only [List.cons_append, List.cons.injEq] at he
    obtain ⟨rfl, rfl⟩ := he
    refine ⟨a, t ++ y', rfl, hb, ?_⟩
    rw [Bool.eq_false_iff] at hn ⊢
    intro h
    obtain ⟨q, hq⟩ := isNote_iff.1 h
    simp only [List.cons.injEq] at hq
    obtain ⟨rfl, hq⟩ := hq
    cases t with
    | nil => simp only [List.nil_append] at hq; subst hq; simp at hy
    | cons b t =>
      simp only [List.cons_append, List.cons.injEq] at hq
      obtain ⟨rfl, _⟩ := hq
      exact hn (isNote_iff.2 ⟨_, rfl⟩)
theorem clear_take {t y : By} (hne : t ≠ []) (h : Clear (t ++ y)) (j : Nat) : Clear (t ++ y.take j) := by
  cases hy : (y.take j).head? with
  | none => exact clear_move hne h (by rw [hy]; simp)
  | some d =>
    by_cases hd : d = 47
    · obtain ⟨c, r, he, hb, hn⟩ := h
      cases t with
      | nil => simp at hne
      | cons a t =>
        simp only [List.cons_append, List.cons.injEq] at he
        obtain ⟨rfl, rfl⟩ := he
        refine ⟨a, t ++ y.take j, rfl, hb, ?_⟩
        rw [Bool.eq_false_iff] at hn ⊢
        intro h
        obtain ⟨q, hq⟩ := isNote_iff.1 h
        simp only [List.cons.injEq] at hq
        obtain ⟨rfl, hq⟩ := hq
        apply hn
        have e : t ++ y = 47 :: (q ++ y.drop j) := by
          rw [← List.cons_append, ← hq, List.append_assoc, List.take_append_drop]
        rw [e]
        exact isNote_iff.2 ⟨_, rfl⟩
    · exact clear_move hne h (by rw [hy]; simpa using hd)
theorem gap_any {g r r' : By} (h : Gap g r) (hr : r ≠ []) : Gap g r' := by
  induction h with
  | nil => exact .nil _
  | blank hb _ ih => exact .blank hb (ih hr)
  | note hq _ ih => exact .note hq (ih hr)
  | last => simp at hr
theorem skipF_fuel : ∀ k k' l, l.length ≤ k → l.length ≤ k' → skipF k l = skipF k' l := by
  intro k
  induction k with
  | zero =>
    intro k' l h h'
    have : l = [] := by simpa using h
    subst this
    cases k' <;> rfl
  | succ k ih =>
    intro k' l h h'
    match l, k' with
    | [], 0 => rfl
    | [], _ + 1 => rfl
    | c :: r, 0 => simp at h'
    | c :: r, k' + 1 =>
      simp only [List.length_cons] at h h'
      unfold skipF
      split
      · rw [ih k' r (by omega) (by omega)]
      · rename_i hb
        split
        · rename_i hn
          obtain ⟨q, hq⟩ := isNote_iff.1 hn
          simp only [List.cons.injEq] at hq
          obtain ⟨rfl, rfl⟩ := hq
          congr 1
          refine ih _ _ ?_ ?_ <;>
          · simp only [List.length_drop, List.takeWhile, lineEnd_slash, List.length_cons] at *; omega
        · rfl
theorem skip_blank {c r} (h : blank c = true) : skip (c :: r) = 1 + skip r := by
  simp only [skip, List.length_cons]
  rw [skipF, if_pos h]
theorem skip_note {q y} (hq : ∀ x ∈ q, lineEnd x = true) (hy : ∀ d, y.head? = some d → lineEnd d = false) : skip (47 :: 47 :: (q ++ y)) = (2 + q.length) + skip y := by
  have h1 := tw_note hq y hy
  simp only [skip, List.length_cons]
  rw [skipF, if_neg (by decide), if_pos (isNote_iff.2 ⟨_, rfl⟩), h1]
  have h2 : (47 :: 47 :: (q ++ y)).drop (47 :: 47 :: q).length = y := by simp
  rw [h2, skipF_fuel _ y.length _ (by simp; omega) (Nat.le_refl _)]
  simp only [List.length_cons]
  omega
theorem skip_gap {g r : By} (h : Gap g r) : skip g = g.length := by
  induction h with
  | nil => rfl
  | blank hb _ ih => rw [skip_blank hb, ih, List.length_cons]; omega
  | note hq _ ih => rw [skip_note hq (by simp [lineEnd]), ih]; simp; omega
  | last hq =>
    have := skip_note hq (y := []) (by simp)
    simp only [List.append_nil] at this
    rw [this]
    simp [skip, skipF]; omega

/- The laws. -/
theorem places {l p ts} (h : lex l p = .ok ts) : ∀ t ∈ ts, p ≤ t.place := by
  suffices H : ∀ n, ∀ l : By, l.length ≤ n → ∀ p ts, lex l p = .ok ts → ∀ t ∈ ts, p ≤ t.place from H _ l (Nat.le_refl _) p ts h
  intro n
  induction n with
  | zero =>
    intro l hl p ts h
    have : l = [] := by simpa using hl
    subst this; rw [lex_nil] at h; cases h; simp
  | succ n ih =>
    intro l hl p ts h
    obtain ⟨g, r, rfl, hg, h1 | ⟨_, e, _, h2⟩ | ⟨_, k, t, n', y, rfl, hn, h3⟩⟩ := lex_cases l p
    · rw [h1.2] at h; cases h; simp
    · rw [h2] at h; cases h
    · rw [h3] at h
      obtain ⟨ts', h4, rfl⟩ := map_ok h
      have hne := List.length_pos_iff.2 (next_is hn).1.ne
      simp only [List.length_append] at hl
      intro u hu
      rcases List.mem_cons.1 hu with rfl | hu
      · simp
      · have := ih y (by omega) _ _ h4 u hu
        omega
/-- Each token stands at its place, and between two is nothing but what may be. -/
def Stand (s : By) : Nat → List Tok → Prop
  | to, [] => to ≤ s.length ∧ skip (s.drop to) = s.length - to
  | to, t :: ts => to ≤ t.place ∧ t.text ≠ [] ∧ t.place + t.text.length ≤ s.length ∧ (s.drop t.place).take t.text.length = t.text ∧ skip ((s.drop to).take (t.place - to)) = t.place - to ∧
      1 ≤ t.kind ∧ t.kind ≤ 4 ∧ (t.kind ≠ 2 → t.num = 0) ∧ Stand s (t.place + t.text.length) ts
theorem Is.kind {k t n} (h : Is k t n) : 1 ≤ k ∧ k ≤ 4 ∧ (k ≠ 2 → n = 0) := by
  cases h with
  | num => simp
  | name => split <;> simp
  | quote => simp
  | sign => simp
theorem stands {s : By} {ts} (h : lex s 0 = .ok ts) : Stand s 0 ts := by
  suffices H : ∀ n, ∀ l : By, l.length ≤ n → ∀ pre ts, lex l pre.length = .ok ts → Stand (pre ++ l) pre.length ts from by
    have := H _ s (Nat.le_refl _) [] ts h
    simpa using this
  intro n
  induction n with
  | zero => intro l hl pre ts h; have : l = [] := by simpa using hl
            subst this; rw [lex_nil] at h; cases h; simp [Stand, skip, skipF]
  | succ n ih =>
    intro l hl pre ts h
    obtain ⟨g, r, rfl, hg, h1 | ⟨_, e, _, h2⟩ | ⟨_, k, t, n', y, rfl, hn, h3⟩⟩ := lex_cases l pre.length
    · rw [h1.2] at h; cases h
      obtain ⟨rfl, _⟩ := h1
      simp [Stand, skip_gap hg]
    · rw [h2] at h; cases h
    · rw [h3] at h
      obtain ⟨ts', h4, rfl⟩ := map_ok h
      have hi := (next_is hn).1
      have hne := List.length_pos_iff.2 hi.ne
      simp only [List.length_append] at hl
      have := ih y (by omega) (pre ++ g ++ t) ts' (by simpa [Nat.add_assoc] using h4)
      obtain ⟨k1, k2, k3⟩ := hi.kind
      refine ⟨by simp, hi.ne, by simp; omega, ?_, ?_, k1, k2, k3, ?_⟩
      · simp [List.drop_append, List.take_append]
      · simp [skip_gap hg]
      · simpa [Nat.add_assoc] using this
/-- No token could be longer. -/
theorem longest {s : By} {ts} (h : lex s 0 = .ok ts) : ∀ t ∈ ts, ∀ d, (s.drop (t.place + t.text.length)).head? = some d → goes t.kind t.text d = false := by
  suffices H : ∀ n, ∀ l : By, l.length ≤ n → ∀ pre ts, lex l pre.length = .ok ts → ∀ t ∈ ts, ∀ d, ((pre ++ l).drop (t.place + t.text.length)).head? = some d → goes t.kind t.text d = false from by
    have := H _ s (Nat.le_refl _) [] ts h
    simpa using this
  intro n
  induction n with
  | zero => intro l hl pre ts h; have : l = [] := by simpa using hl
            subst this; rw [lex_nil] at h; cases h; simp
  | succ n ih =>
    intro l hl pre ts h
    obtain ⟨g, r, rfl, hg, h1 | ⟨_, e, _, h2⟩ | ⟨_, k, t, n', y, rfl, hn, h3⟩⟩ := lex_cases l pre.length
    · rw [h1.2] at h; cases h; simp
    · rw [h2] at h; cases h
    · rw [h3] at h
      obtain ⟨ts', h4, rfl⟩ := map_ok h
      have hi := (next_is hn).1
      have hne := List.length_pos_iff.2 hi.ne
      simp only [List.length_append] at hl
      have := ih y (by omega) (pre ++ g ++ t) ts' (by simpa [Nat.add_assoc] using h4)
      intro u hu d hd
      rcases List.mem_cons.1 hu with rfl | hu
      · obtain ⟨_, y', he, hgo⟩ := next_is hn
        have : y = y' := List.append_cancel_left he
        subst this
        apply hgo
        have e : (pre ++ (g ++ (t ++ y))).drop (pre.length + g.length + t.length) = y := by
          rw [← List.append_assoc, ← List.append_assoc, List.drop_append_of_le_length (by simp; omega)]
          simp [Nat.add_assoc]
        simpa [e] using hd
      · exact this u hu d (by simpa [List.append_assoc] using hd)
theorem lex_shift {l : By} (p d : Nat) : lex l (p + d) = match lex l p with | .ok ts => .ok (ts.map fun t => { t with place := t.place + d }) | .error (a, e) => .error (a + d, e) := by
  suffices H : ∀ n, ∀ l : By, l.length ≤ n → ∀ p, lex l (p + d) = match lex l p with | .ok ts => .ok (ts.map fun t => { t with place := t.place + d }) | .error (a, e) => .error (a + d, e) from H _ l (Nat.le_refl _) p
  intro n
  induction n with
  | zero => intro l hl p; have : l = [] := by simpa using hl
            subst this; rfl
  | succ n ih =>
    intro l hl p
    obtain ⟨g, r, rfl, hg, hr⟩ := gap_split l
    rw [lex_gap hg, lex_gap hg]
    rcases hr with rfl | hr
    · rfl
    · cases hx : next r with
      | error e => rw [lex_err hr hx, lex_err hr hx]; simp only; congr 2; omega
      | ok x =>
        obtain ⟨k, t, n'⟩ := x
        obtain ⟨hi, y, rfl, _⟩ := next_is hx
        have hne := List.length_pos_iff.2 hi.ne
        simp only [List.length_append] at hl
        rw [lex_tok hr hx, lex_tok hr hx, show p + d + g.length + t.length = (p + g.length + t.length) + d by omega, ih y (by omega)]
        cases lex y (p + g.length + t.length) with
        | error e => rfl
        | ok ts => simp [Except.map]; omega
theorem gap_feed {g r : By} (h : Gap g r) (x : By) : Gap (g ++ [10]) x := by
  induction h with
  | nil => exact .blank (by decide) (.nil _)
  | blank hb _ ih => exact .blank hb ih
  | note hq _ ih =>
    simp only [List.cons_append, List.append_assoc] at ih ⊢
    exact .note hq ih
  | last hq => exact .note hq (.blank (by decide) (.nil _))
/-- A text with a line feed and another one behind it. -/
theorem joins {a : By} (x : By) (p : Nat) : lex (a ++ 10 :: x) p = match lex a p with | .ok ts => (lex x (p + a.length + 1)).map (ts ++ ·) | .error e => .error e := by
  suffices H : ∀ n, ∀ a : By, a.length ≤ n → ∀ p, lex (a ++ 10 :: x) p = match lex a p with | .ok ts => (lex x (p + a.length + 1)).map (ts ++ ·) | .error e => .error e from H _ a (Nat.le_refl _) p
  have base : ∀ q, lex (10 :: x) q = (lex x (q + 1)).map (([] : List Tok) ++ ·) := fun q => by
    rw [lex_blank (by decide)]
    cases lex x (q + 1) <;> rfl
  intro n
  induction n with
  | zero => intro l hl p; have : l = [] := by simpa using hl
            subst this; rw [lex_nil]; exact base p
  | succ n ih =>
    intro l hl p
    obtain ⟨g, r, rfl, hg, hr⟩ := gap_split l
    rcases hr with rfl | hr
    · rw [lex_gap hg, lex_nil, List.append_nil]
      have hg2 : ∃ g2, g ++ 10 :: x = g2 ++ x ∧ g2.length = g.length + 1 ∧ Gap g2 x := by
        exact ⟨g ++ [10], by simp, by simp, gap_feed hg x⟩
      obtain ⟨g2, he, hl2, hg2⟩ := hg2
      rw [he, lex_gap hg2, hl2]
      simp only
      rw [show p + (g.length + 1) = p + g.length + 1 by omega]
      cases lex x (p + g.length + 1) <;> rfl
    · obtain ⟨c, r', he, _, _⟩ := id hr
      have hne : r ≠ [] := by rw [he]; simp
      rw [lex_gap hg, List.append_assoc, lex_gap (gap_any hg hne)]
      cases hx : next r with
      | error e => rw [lex_err hr hx, lex_err (clear_move (y := []) hne (by simpa using hr) (by simp)) (next_err hne hx x)]
      | ok z =>
        obtain ⟨k, t, n'⟩ := z
        obtain ⟨hi, y, rfl, hgo⟩ := next_is hx
        have hne2 := List.length_pos_iff.2 hi.ne
        simp only [List.length_append] at hl
        have hgo2 : ∀ d, (y ++ 10 :: x).head? = some d → goes k t d = false := fun d hd => by
          cases y with
          | nil => simp at hd; subst hd; exact goes_blank k hi (by decide)
          | cons b y => exact hgo d (by simpa using hd)
        have hcl : Clear (t ++ (y ++ 10 :: x)) := by
          rw [← List.append_assoc]
          exact clear_move (y := []) hne (by simpa using hr) (by simp)
        rw [lex_tok hr hx, List.append_assoc, lex_tok hcl (is_next hi _ hgo2), ih y (by omega)]
        have e : p + g.length + t.length + y.length = p + (g ++ (t ++ y)).length := by simp; omega
        rw [e]
        cases lex y (p + g.length + t.length) with
        | error e => rfl
        | ok ts =>
          simp only [Except.map]
          cases lex x (p + (g ++ (t ++ y)).length + 1) <;> rfl

/-- A text of which a name is made. -/
def isName (s : By) : Bool := (s.head?.map ltr).getD false && decide (s.length ≤ 20) && s.all inn && !decide (s ∈ words)
theorem name_iff (s : By) : isName s = true ↔ lex s 0 = .ok [⟨1, s, 0, 0⟩] := by
  constructor
  · intro h
    simp only [isName, Bool.and_eq_true, Bool.not_eq_true', decide_eq_true_eq, decide_eq_false_iff_not, List.all_eq_true] at h
    obtain ⟨⟨⟨h1, h2⟩, h3⟩, h4⟩ := h
    obtain ⟨c, r, rfl⟩ : ∃ c r, s = c :: r := by cases s with | nil => simp at h1 | cons c r => exact ⟨c, r, rfl⟩
    have hc : ltr c = true := by simpa using h1
    have hi : Is 1 (c :: r) 0 := by
      have := Is.name (t := c :: r) ⟨c, r, rfl, hc⟩ h3 h2
      rwa [if_neg h4] at this
    have hcl : Clear ((c :: r) ++ []) := by
      refine ⟨c, r ++ [], rfl, ?_, ?_⟩
      · simp only [ltr, blank, Bool.or_eq_true, Bool.and_eq_true, decide_eq_true_eq] at *
        simp; omega
      · rw [Bool.eq_false_iff]
        intro h
        obtain ⟨q, hq⟩ := isNote_iff.1 h
        simp only [List.cons.injEq] at hq
        obtain ⟨rfl, _⟩ := hq
        simp [ltr] at hc
    have := lex_tok (p := 0) hcl (is_next hi [] (by simp))
    rw [List.append_nil] at this
    rw [this, lex_nil]
    rfl
  · intro h
    obtain ⟨g, r, he, hg, h1 | ⟨_, e, _, h2⟩ | ⟨_, k, t, n', y, rfl, hn, h3⟩⟩ := lex_cases s 0
    · rw [h1.2] at h; simp at h
    · rw [h2] at h; simp at h
    · rw [h3] at h
      obtain ⟨ts', h4, h5⟩ := map_ok h
      simp only [List.cons.injEq, Tok.mk.injEq] at h5
      obtain ⟨⟨rfl, rfl, rfl, _⟩, _⟩ := h5
      have hi := (next_is hn).1
      generalize hk : 1 = k at hi
      generalize hm : 0 = m at hi
      cases hi with
      | num => simp at hk
      | name h1 h2 h3 =>
        obtain ⟨c, r, rfl, hc⟩ := h1
        have h4 : (c :: r) ∉ words := by
          intro h; rw [if_pos h] at hk; simp at hk
        simp only [isName, Bool.and_eq_true, Bool.not_eq_true', decide_eq_true_eq, decide_eq_false_iff_not, List.all_eq_true]
        exact ⟨⟨⟨by simp [hc], h3⟩, h2⟩, h4⟩
      | quote => simp at hk
      | sign => simp at hk

/- The tokens again, with something between. -/
def cat (bs : By) (ts : List Tok) : By := ts.flatMap fun t => t.text ++ bs
theorem back {bs : By} (hb : ∀ r, Gap bs r) (h32 : bs.head? = some 32) {l p ts} (h : lex l p = .ok ts) : ∀ q, ∃ us, lex (cat bs ts) q = .ok us ∧ us.map (fun t => (t.kind, t.text, t.num)) = ts.map (fun t => (t.kind, t.text, t.num)) := by
  suffices H : ∀ n, ∀ l : By, l.length ≤ n → ∀ p ts, lex l p = .ok ts → ∀ q, ∃ us, lex (cat bs ts) q = .ok us ∧ us.map (fun t => (t.kind, t.text, t.num)) = ts.map (fun t => (t.kind, t.text, t.num)) from H _ l (Nat.le_refl _) p ts h
  intro n
  induction n with
  | zero => intro l hl p ts h; have : l = [] := by simpa using hl
            subst this; rw [lex_nil] at h; cases h; exact fun q => ⟨[], rfl, rfl⟩
  | succ n ih =>
    intro l hl p ts h q
    obtain ⟨g, r, rfl, hg, h1 | ⟨_, e, _, h2⟩ | ⟨hc, k, t, n', y, rfl, hn, h3⟩⟩ := lex_cases l p
    · rw [h1.2] at h; cases h; exact ⟨[], rfl, rfl⟩
    · rw [h2] at h; cases h
    · rw [h3] at h
      obtain ⟨ts', h4, rfl⟩ := map_ok h
      have hi := (next_is hn).1
      have hne := List.length_pos_iff.2 hi.ne
      simp only [List.length_append] at hl
      obtain ⟨us, h5, h6⟩ := ih y (by omega) _ _ h4 (q + t.length + bs.length)
      obtain ⟨b, rfl⟩ : ∃ b, bs = 32 :: b := by cases bs with | nil => simp at h32 | cons a b => simp at h32; exact ⟨b, by rw [h32]⟩
      have e : cat (32 :: b) (⟨k, t, n', p + g.length⟩ :: ts') = t ++ ((32 :: b) ++ cat (32 :: b) ts') := by simp [cat]
      have hx := is_next hi ((32 :: b) ++ cat (32 :: b) ts') (fun d hd => by simp at hd; subst hd; exact goes_blank k hi (by decide))
      rw [e, lex_tok (clear_move hi.ne hc (by simp)) hx, lex_gap (hb _), h5]
      exact ⟨_, rfl, by simp [h6]⟩
theorem sizes {l p ts} (h : lex l p = .ok ts) : ts.length ≤ l.length ∧ (ts.map fun t => t.text.length).sum ≤ l.length ∧ ∀ t ∈ ts, t.num ≤ 4294967295 ∧ t.text.length ≤ l.length ∧ t.place + t.text.length ≤ p + l.length := by
  suffices H : ∀ n, ∀ l : By, l.length ≤ n → ∀ p ts, lex l p = .ok ts → ts.length ≤ l.length ∧ (ts.map fun t => t.text.length).sum ≤ l.length ∧ ∀ t ∈ ts, t.num ≤ 4294967295 ∧ t.text.length ≤ l.length ∧ t.place + t.text.length ≤ p + l.length from H _ l (Nat.le_refl _) p ts h
  have hv : ∀ t n m, value t n = some m → n ≤ 4294967295 → m ≤ 4294967295 := by
    intro t
    induction t with
    | nil => intro n m h hn; simp [value] at h; omega
    | cons c r ih =>
      intro n m h hn
      simp only [value] at h
      split at h
      · simp at h
      · exact ih _ _ h (by omega)
  intro n
  induction n with
  | zero => intro l hl p ts h; have : l = [] := by simpa using hl
            subst this; rw [lex_nil] at h; cases h; simp
  | succ n ih =>
    intro l hl p ts h
    obtain ⟨g, r, rfl, hg, h1 | ⟨_, e, _, h2⟩ | ⟨hc, k, t, n', y, rfl, hn, h3⟩⟩ := lex_cases l p
    · rw [h1.2] at h; cases h; simp
    · rw [h2] at h; cases h
    · rw [h3] at h
      obtain ⟨ts', h4, rfl⟩ := map_ok h
      have hi := (next_is hn).1
      have hne := List.length_pos_iff.2 hi.ne
      simp only [List.length_append] at hl
      obtain ⟨i1, i2, i3⟩ := ih y (by omega) _ _ h4
      refine ⟨by simp; omega, by simp; omega, fun u hu => ?_⟩
      rcases List.mem_cons.1 hu with rfl | hu
      · refine ⟨?_, by simp; omega, by simp; omega⟩
        cases hi with
        | num _ _ hv' => exact hv _ _ _ hv' (by omega)
        | name => exact Nat.zero_le _
        | quote _ h1 => exact Nat.le_trans h1 (by decide)
        | sign => exact Nat.zero_le _
      · obtain ⟨j1, j2, j3⟩ := i3 u hu
        refine ⟨j1, by simp; omega, by simp; omega⟩

/- A text that is cut. -/
theorem gap_cut {g r : By} (h : Gap g r) : ∀ j p ms, lex (g.take j) p = .ok ms → ms.length ≤ 1 := by
  have one : ∀ p ms, lex [47] p = .ok ms → ms.length ≤ 1 := by
    intro p ms h
    have : lex [47] p = .ok [⟨4, [47], 0, p⟩] := rfl
    rw [this] at h; cases h; simp
  induction h with
  | nil => intro j p ms h; rw [List.take_nil, lex_nil] at h; cases h; simp
  | blank hb _ ih =>
    intro j p ms h
    cases j with
    | zero => rw [List.take_zero, lex_nil] at h; cases h; simp
    | succ j => rw [List.take_succ_cons, lex_blank hb] at h; exact ih _ _ _ h
  | @note q g r hq _ ih =>
    intro j p ms h
    match j with
    | 0 => rw [List.take_zero, lex_nil] at h; cases h; simp
    | 1 => exact one p ms h
    | j + 2 =>
      rw [List.take_succ_cons, List.take_succ_cons] at h
      by_cases hj : j ≤ q.length
      · rw [List.take_append_of_le_length hj] at h
        have := lex_note (p := p) (q := q.take j) (y := []) (fun x hx => hq x (List.mem_of_mem_take hx)) (by simp)
        rw [List.append_nil] at this
        rw [this, lex_nil] at h; cases h; simp
      · obtain ⟨i, rfl⟩ : ∃ i, j = q.length + (i + 1) := ⟨j - q.length - 1, by omega⟩
        rw [List.take_length_add_append] at h
        rw [lex_note hq (by simp [lineEnd])] at h
        exact ih _ _ _ h
  | @last q hq =>
    intro j p ms h
    match j with
    | 0 => rw [List.take_zero, lex_nil] at h; cases h; simp
    | 1 => exact one p ms h
    | j + 2 =>
      rw [List.take_succ_cons, List.take_succ_cons] at h
      have := lex_note (p := p) (q := q.take j) (y := []) (fun x hx => hq x (List.mem_of_mem_take hx)) (by simp)
      rw [List.append_nil] at this
      rw [this, lex_nil] at h; cases h; simp
theorem one_tok {t : By} {k n p ms} (hc : Clear t) (h : next t = .ok (k, t, n)) (hm : lex t p = .ok ms) : ms.length ≤ 1 := by
  have := lex_tok (p := p) (t := t) (y := []) (by simpa using hc) (by simpa using h)
  rw [List.append_nil] at this
  rw [this, lex_nil] at hm
  cases hm; simp
theorem tok_cut {k n} {t : By} (hi : Is k t n) {m : Nat} (h0 : 0 < m) (hmt : m < t.length) : ∀ p ms, lex (t.take m) p = .ok ms → ms.length ≤ 1 := by
  intro p ms hms
  obtain ⟨m, rfl⟩ : ∃ i, m = i + 1 := ⟨m - 1, by omega⟩
  cases hi with
  | num hne hd hv =>
    obtain ⟨c, r, rfl⟩ : ∃ c r, t = c :: r := by cases t with | nil => simp at hne | cons c r => exact ⟨c, r, rfl⟩
    rw [List.take_succ_cons] at hms
    have hc := hd c (by simp)
    have hcl : Clear (c :: r.take m) := by
      refine ⟨c, _, rfl, ?_, ?_⟩
      · simp only [dig, blank, Bool.and_eq_true, decide_eq_true_eq] at *
        simp; omega
      · rw [Bool.eq_false_iff]; intro h
        obtain ⟨q, hq⟩ := isNote_iff.1 h
        simp only [List.cons.injEq] at hq
        obtain ⟨rfl, _⟩ := hq
        simp [dig] at hc
    have htw : (c :: r.take m).takeWhile dig = c :: r.take m := by
      have := takeWhile_self (p := dig) (t := c :: r.take m) (fun x hx => hd x (by simp only [List.mem_cons] at *; exact hx.imp id List.mem_of_mem_take)) [] (by simp)
      simpa using this
    cases hx : next (c :: r.take m) with
    | error e => rw [lex_err hcl hx] at hms; cases hms
    | ok z =>
      obtain ⟨k, t, n'⟩ := z
      have ht : t = c :: r.take m := by
        unfold next at hx
        rw [if_pos (by simp [hc]), htw] at hx
        split at hx
        · simp at hx
        · simp at hx; exact hx.2.1.symm
      subst ht
      exact one_tok hcl hx hms
  | name hc hi hl =>
    obtain ⟨c, r, rfl, hc⟩ := hc
    rw [List.take_succ_cons] at hms
    have hcl : Clear (c :: r.take m) := by
      refine ⟨c, _, rfl, ?_, ?_⟩
      · simp only [ltr, blank, Bool.or_eq_true, Bool.and_eq_true, decide_eq_true_eq] at *
        simp; omega
      · rw [Bool.eq_false_iff]; intro h
        obtain ⟨q, hq⟩ := isNote_iff.1 h
        simp only [List.cons.injEq] at hq
        obtain ⟨rfl, _⟩ := hq
        simp [ltr] at hc
    have hn := Is.name (t := c :: r.take m) ⟨c, _, rfl, hc⟩ (fun x hx => hi x (by simp only [List.mem_cons] at *; exact hx.imp id List.mem_of_mem_take)) (by simp at hl ⊢; omega)
    have hx := is_next hn [] (by simp)
    rw [List.append_nil] at hx
    exact one_tok hcl hx hms
  | @quote b h1 h2 h3 h4 =>
    exfalso
    have hb : ∀ q : By, isNote (39 :: q) = false := fun q => by
      rw [Bool.eq_false_iff]; intro h
      obtain ⟨q, hq⟩ := isNote_iff.1 h
      simp at hq
    simp at hmt
    match m, hmt with
    | 0, _ =>
      have : lex [39] p = .error (p, 3) := lex_err ⟨39, [], rfl, by decide, hb _⟩ (by rfl)
      rw [List.take_succ_cons, List.take_zero, this] at hms; cases hms
    | 1, _ =>
      have : lex [39, b] p = .error (p, 3) := lex_err ⟨39, [b], rfl, by decide, hb _⟩ (by simp [next, dig, ltr, quoted])
      rw [List.take_succ_cons, List.take_succ_cons, List.take_zero, this] at hms; cases hms
  | sign hm =>
    have ok : ∀ c : UInt8, lex [c] p = .ok [⟨4, [c], 0, p⟩] → lex [c] p = .ok ms → ms.length ≤ 1 := by
      intro c h h'; rw [h] at h'; cases h'; simp
    simp only [signs, List.mem_cons, List.not_mem_nil, or_false] at hm
    rcases hm with rfl|rfl|rfl|rfl|rfl|rfl|rfl|rfl|rfl|rfl|rfl|rfl|rfl|rfl|rfl|rfl|rfl|rfl|rfl|rfl|rfl|rfl|rfl|rfl <;> simp at hmt <;> (obtain rfl : m = 0 := by omega)
    · exact ok 60 rfl hms
    · have : lex [62] p = .error (p, 3) := rfl
      rw [List.take_succ_cons, List.take_zero, this] at hms; cases hms
    · exact ok 61 rfl hms
    · exact ok 38 rfl hms
    · exact ok 124 rfl hms
/-- Of a cut text the tokens that end ahead of the cut are the whole text's. -/
theorem cuts {l p ts} (h : lex l p = .ok ts) {j ms} (hm : lex (l.take j) p = .ok ms) : ms.length ≤ ts.length + 1 ∧ ∀ i (hi : i < ts.length), ts[i].place + ts[i].text.length < p + j → ms[i]? = some ts[i] := by
  suffices H : ∀ n, ∀ l : By, l.length ≤ n → ∀ p ts, lex l p = .ok ts → ∀ j ms, lex (l.take j) p = .ok ms → ms.length ≤ ts.length + 1 ∧ ∀ i (hi : i < ts.length), ts[i].place + ts[i].text.length < p + j → ms[i]? = some ts[i] from H _ l (Nat.le_refl _) p ts h j ms hm
  clear h hm
  intro n
  induction n with
  | zero =>
    intro l hl p ts h j ms hm
    have : l = [] := by simpa using hl
    subst this
    rw [lex_nil] at h; cases h
    rw [List.take_nil, lex_nil] at hm; cases hm
    simp
  | succ n ih =>
    intro l hl p ts h j ms hm
    obtain ⟨g, r, rfl, hg, h1 | ⟨_, e, _, h2⟩ | ⟨hc, k, t, n', y, rfl, hn, h3⟩⟩ := lex_cases l p
    · obtain ⟨rfl, h1⟩ := h1
      rw [h1] at h; cases h
      rw [List.append_nil] at hm
      exact ⟨by have := gap_cut hg _ _ _ hm; simpa using this, by simp⟩
    · rw [h2] at h; cases h
    · rw [h3] at h
      obtain ⟨ts', h4, rfl⟩ := map_ok h
      have hi := (next_is hn).1
      have hne := List.length_pos_iff.2 hi.ne
      have hpl := places h4
      simp only [List.length_append] at hl
      have early : j < g.length + t.length → ms.length ≤ 1 → ms.length ≤ (({ kind := k, text := t, num := n', place := p + g.length } : Tok) :: ts').length + 1 ∧ ∀ i (hi : i < (({ kind := k, text := t, num := n', place := p + g.length } : Tok) :: ts').length),
          (({ kind := k, text := t, num := n', place := p + g.length } : Tok) :: ts')[i].place + (({ kind := k, text := t, num := n', place := p + g.length } : Tok) :: ts')[i].text.length < p + j → ms[i]? = some (({ kind := k, text := t, num := n', place := p + g.length } : Tok) :: ts')[i] := by
        intro hj h1
        refine ⟨by simp; omega, fun i hi' hlt => ?_⟩
        exfalso
        cases i with
        | zero => simp at hlt; omega
        | succ i =>
          simp only [List.getElem_cons_succ] at hlt
          have := hpl _ (List.getElem_mem (by simpa using hi'))
          omega
      by_cases hj : j ≤ g.length
      · rw [List.take_append_of_le_length hj] at hm
        exact early (by omega) (gap_cut hg _ _ _ hm)
      · obtain ⟨i, rfl⟩ : ∃ i, j = g.length + i := ⟨j - g.length, by omega⟩
        rw [List.take_length_add_append, lex_gap (gap_any hg (by simp [hi.ne]))] at hm
        by_cases hj2 : i < t.length
        · rw [List.take_append_of_le_length (by omega)] at hm
          exact early (by omega) (tok_cut hi (by omega) hj2 _ _ hm)
        · obtain ⟨u, rfl⟩ : ∃ u, i = t.length + u := ⟨i - t.length, by omega⟩
          obtain ⟨_, y', he, hgo⟩ := next_is hn
          have : y = y' := List.append_cancel_left he
          subst this
          have hgo2 : ∀ d, (y.take u).head? = some d → goes k t d = false := fun d hd => by
            apply hgo
            cases y with
            | nil => simp at hd
            | cons b y => cases u with
              | zero => simp at hd
              | succ u => simpa using hd
          rw [List.take_length_add_append, lex_tok (clear_take hi.ne hc u) (is_next hi _ hgo2)] at hm
          obtain ⟨ms', h5, rfl⟩ := map_ok hm
          obtain ⟨e1, e2⟩ := ih y (by omega) _ _ h4 _ _ h5
          refine ⟨by simp; omega, fun i hi' hlt => ?_⟩
          cases i with
          | zero => rfl
          | succ i =>
            simp only [List.getElem_cons_succ, List.getElem?_cons_succ] at hlt ⊢
            exact e2 i (by simpa using hi') (by omega)
end Tk
