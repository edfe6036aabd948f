/- Plain facts on one-time signatures over any pairing function: no program in sight. -/
namespace Ot

/-- A digest: four words. -/
structure Dg where
  a : UInt32
  b : UInt32
  c : UInt32
  d : UInt32
  deriving DecidableEq

def one : Dg := ⟨0, 0, 0, 1⟩
def zeroD : Dg := ⟨0, 0, 0, 0⟩

/-- The eight hexadecimal digits of a word, the highest first. -/
def nib (w : Nat) : List Nat := [w / 268435456 % 16, w / 16777216 % 16, w / 1048576 % 16, w / 65536 % 16, w / 4096 % 16, w / 256 % 16, w / 16 % 16, w % 16]
def digs (m : Dg) : List Nat := nib m.a.toNat ++ nib m.b.toNat ++ nib m.c.toNat ++ nib m.d.toNat
def rest (l : List Nat) : Nat := (l.map (15 - ·)).sum
def steps (m : Dg) : List Nat := digs m ++ [rest (digs m) / 256 % 16, rest (digs m) / 16 % 16, rest (digs m) % 16]

theorem nib_length (w : Nat) : (nib w).length = 8 := rfl
theorem digs_length (m : Dg) : (digs m).length = 32 := rfl
theorem steps_length (m : Dg) : (steps m).length = 35 := rfl
theorem nib_le (w : Nat) : ∀ n ∈ nib w, n ≤ 15 := by
  intro n h
  simp only [nib, List.mem_cons, List.not_mem_nil, or_false] at h
  omega
theorem digs_le (m : Dg) : ∀ n ∈ digs m, n ≤ 15 := by
  intro n h
  simp only [digs, List.mem_append] at h
  rcases h with ((h | h) | h) | h <;> exact nib_le _ _ h
theorem steps_le (m : Dg) : ∀ n ∈ steps m, n ≤ 15 := by
  intro n h
  rw [steps, List.mem_append] at h
  rcases h with h | h
  · exact digs_le _ _ h
  · simp only [List.mem_cons, List.not_mem_nil, or_false] at h
    omega
theorem steps_at_le (m : Dg) (i : Nat) : (steps m).getD i 0 ≤ 15 := by
  by_cases h : i < (steps m).length
  · rw [List.getD_eq_getElem?_getD, List.getElem?_eq_getElem h]; exact steps_le m _ (List.getElem_mem h)
  · rw [List.getD_eq_getElem?_getD, List.getElem?_eq_none (by omega)]; exact Nat.zero_le _

theorem nib_inj {v w : Nat} (hv : v < 4294967296) (hw : w < 4294967296) (h : nib v = nib w) : v = w := by
  simp only [nib, List.cons.injEq, and_true] at h
  omega
theorem digs_inj {m n : Dg} (h : digs m = digs n) : m = n := by
  unfold digs at h
  obtain ⟨h, h4⟩ := List.append_inj h rfl
  obtain ⟨h, h3⟩ := List.append_inj h rfl
  obtain ⟨h1, h2⟩ := List.append_inj h rfl
  have e1 := nib_inj m.a.toNat_lt n.a.toNat_lt h1
  have e2 := nib_inj m.b.toNat_lt n.b.toNat_lt h2
  have e3 := nib_inj m.c.toNat_lt n.c.toNat_lt h3
  have e4 := nib_inj m.d.toNat_lt n.d.toNat_lt h4
  cases m; cases n
  simp only [UInt32.toNat_inj] at e1 e2 e3 e4
  simp [e1, e2, e3, e4]

theorem rest_le (l : List Nat) : rest l ≤ 15 * l.length := by
  induction l with
  | nil => simp [rest]
  | cons x l ih => simp only [rest, List.map_cons, List.sum_cons, List.length_cons] at *; omega

/-- Pointwise not less: the rests are the other way; and where these are alike, so are the lists. -/
theorem rest_mono : ∀ (k l : List Nat), k.length = l.length → (∀ n ∈ k, n ≤ 15) → (∀ i, l.getD i 0 ≤ k.getD i 0) → rest k ≤ rest l ∧ (rest k = rest l → k = l)
  | [], [], _, _, _ => ⟨Nat.le_refl _, fun _ => rfl⟩
  | [], _ :: _, h, _, _ => by simp at h
  | _ :: _, [], h, _, _ => by simp at h
  | x :: k, y :: l, h, hk, hi => by
    have ih := rest_mono k l (by simpa using h) (fun n hn => hk n (List.mem_cons_of_mem _ hn)) (fun i => by simpa using hi (i + 1))
    have h0 : y ≤ x := by simpa using hi 0
    have hx : x ≤ 15 := hk x List.mem_cons_self
    simp only [rest, List.map_cons, List.sum_cons] at *
    refine ⟨by omega, fun e => ?_⟩
    have : x = y := by omega
    rw [this, ih.2 (by omega)]

theorem getD_append_left' (k l : List Nat) (i : Nat) (h : i < k.length) : (k ++ l).getD i 0 = k.getD i 0 := by
  simp [List.getD_eq_getElem?_getD, List.getElem?_append_left h]
theorem getD_append_right' (k l : List Nat) (i : Nat) : (k ++ l).getD (k.length + i) 0 = l.getD i 0 := by
  simp [List.getD_eq_getElem?_getD, List.getElem?_append_right]

/-- THE HEART: of unlike messages one has a number less than the other's. -/
theorem unlike {m n : Dg} (h : m ≠ n) : ∃ i, i < 35 ∧ (steps m).getD i 0 < (steps n).getD i 0 := by
  refine Classical.byContradiction fun hno => h ?_
  have hall : ∀ i, i < 35 → (steps n).getD i 0 ≤ (steps m).getD i 0 := fun i hi => Nat.le_of_not_lt fun hl => hno ⟨i, hi, hl⟩
  have hd : ∀ i, (digs n).getD i 0 ≤ (digs m).getD i 0 := by
    intro i
    by_cases hi : i < 32
    · have := hall i (by omega)
      rwa [steps, steps, getD_append_left' _ _ _ (by rw [digs_length]; exact hi), getD_append_left' _ _ _ (by rw [digs_length]; exact hi)] at this
    · rw [List.getD_eq_getElem?_getD, List.getElem?_eq_none (by rw [digs_length]; omega)]; exact Nat.zero_le _
  obtain ⟨hle, heq⟩ := rest_mono (digs m) (digs n) rfl (digs_le m) hd
  have r1 := rest_le (digs m); have r2 := rest_le (digs n)
  rw [digs_length] at r1 r2
  have c0 := hall 32 (by omega); have c1 := hall 33 (by omega); have c2 := hall 34 (by omega)
  have s0 : ∀ q : Dg, (steps q).getD 32 0 = rest (digs q) / 256 % 16 := fun q => getD_append_right' (digs q) _ 0
  have s1 : ∀ q : Dg, (steps q).getD 33 0 = rest (digs q) / 16 % 16 := fun q => getD_append_right' (digs q) _ 1
  have s2 : ∀ q : Dg, (steps q).getD 34 0 = rest (digs q) % 16 := fun q => getD_append_right' (digs q) _ 2
  rw [s0, s0] at c0; rw [s1, s1] at c1; rw [s2, s2] at c2
  exact digs_inj (heq (by omega))

section
variable (pair : Dg → Dg → Dg)

def walk (x : Dg) : Nat → Dg
  | 0 => x
  | n + 1 => pair (walk x n) one
def beg (seed : Dg) (i : Nat) : Dg := pair seed ⟨UInt32.ofNat i, 0, 0, 0⟩
def endsTo (f : Nat → Dg) : Nat → Dg
  | 0 => ⟨35, 0, 0, 0⟩
  | n + 1 => pair (endsTo f n) (f n)
def ends (f : Nat → Dg) : Dg := endsTo pair f 35
def pub (seed : Dg) : Dg := ends pair fun i => walk pair (beg pair seed i) 15
def sign (seed msg : Dg) : List Dg := (List.range 35).map fun i => walk pair (beg pair seed i) ((steps msg).getD i 0)
def reachK (msg : Dg) (s : List Dg) : Dg := ends pair fun i => walk pair (s.getD i zeroD) (15 - (steps msg).getD i 0)

theorem walk_add (x : Dg) (m n : Nat) : walk pair (walk pair x m) n = walk pair x (m + n) := by
  induction n with
  | zero => rfl
  | succ n ih => simp only [walk, ih, Nat.add_eq]

theorem endsTo_congr {f g : Nat → Dg} (n : Nat) (h : ∀ i, i < n → f i = g i) : endsTo pair f n = endsTo pair g n := by
  induction n with
  | zero => rfl
  | succ n ih => simp only [endsTo]; rw [ih fun i hi => h i (by omega), h n (by omega)]

theorem sign_length (seed msg : Dg) : (sign pair seed msg).length = 35 := by simp [sign]
theorem sign_at (seed msg : Dg) (i : Nat) (h : i < 35) : (sign pair seed msg).getD i zeroD = walk pair (beg pair seed i) ((steps msg).getD i 0) := by
  simp [sign, List.getD_eq_getElem?_getD, List.getElem?_map, List.getElem?_range h]

theorem reach_sign (seed msg : Dg) : reachK pair msg (sign pair seed msg) = pub pair seed := by
  refine endsTo_congr pair 35 fun i hi => ?_
  rw [sign_at pair seed msg i hi, walk_add]
  have := steps_at_le msg i
  congr 1; omega

/-- The first chain at which the other one shows what lies ahead; from i on, n chains left. -/
def aheadFrom (a b : List Nat) (s t : List Dg) : Nat → Nat → Option Nat
  | _, 0 => none
  | i, n + 1 => if b.getD i 0 < a.getD i 0 ∧ walk pair (t.getD i zeroD) (a.getD i 0 - b.getD i 0) = s.getD i zeroD then some i else aheadFrom a b s t (i + 1) n
def ahead (msg : Dg) (s : List Dg) (other : Dg) (t : List Dg) : Option Nat := aheadFrom pair (steps msg) (steps other) s t 0 35

theorem aheadFrom_some {a b : List Nat} {s t : List Dg} : ∀ (n i j : Nat), aheadFrom pair a b s t i n = some j → i ≤ j ∧ j < i + n ∧ b.getD j 0 < a.getD j 0 ∧ walk pair (t.getD j zeroD) (a.getD j 0 - b.getD j 0) = s.getD j zeroD
  | 0, _, _, h => by simp [aheadFrom] at h
  | n + 1, i, j, h => by
    simp only [aheadFrom] at h
    split at h
    · rename_i hc
      obtain rfl : i = j := by simpa using h
      exact ⟨Nat.le_refl _, by omega, hc⟩
    · have := aheadFrom_some n (i + 1) j h
      exact ⟨by omega, by omega, this.2.2⟩
theorem aheadFrom_none {a b : List Nat} {s t : List Dg} : ∀ (n i : Nat), aheadFrom pair a b s t i n = none → ∀ j, i ≤ j → j < i + n → ¬ (b.getD j 0 < a.getD j 0 ∧ walk pair (t.getD j zeroD) (a.getD j 0 - b.getD j 0) = s.getD j zeroD)
  | 0, i, _, j, h1, h2 => by omega
  | n + 1, i, h, j, h1, h2 => by
    simp only [aheadFrom] at h
    split at h
    · simp at h
    · rename_i hc
      by_cases e : i = j
      · subst e; exact hc
      · exact aheadFrom_none n (i + 1) h j (by omega) (by omega)

/-- Two signatures by one key of unlike messages: there is a chain that gives away. -/
theorem gives (seed : Dg) {msg other : Dg} (h : msg ≠ other) : ∃ i, ahead pair msg (sign pair seed msg) other (sign pair seed other) = some i ∧ i < 35 ∧ (steps other).getD i 0 < (steps msg).getD i 0 ∧
    walk pair ((sign pair seed other).getD i zeroD) ((steps msg).getD i 0 - (steps other).getD i 0) = (sign pair seed msg).getD i zeroD := by
  cases hr : ahead pair msg (sign pair seed msg) other (sign pair seed other) with
  | some i =>
    have := aheadFrom_some pair _ _ _ hr
    exact ⟨i, rfl, by omega, this.2.2⟩
  | none =>
    exfalso
    obtain ⟨i, hi, hl⟩ := unlike (Ne.symm h)
    refine aheadFrom_none pair _ _ hr i (Nat.zero_le _) (by omega) ⟨hl, ?_⟩
    rw [sign_at pair seed msg i hi, sign_at pair seed other i hi, walk_add]
    congr 1; omega
end
end Ot
