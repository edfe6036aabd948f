/- Walks: the document's Same and Like, of tokens that are alike. Conditions: those written in each. -/
import Derived.Test.YtakbpbifgemcdaaDoorT10
namespace Go.Proofs.YtakbpbifgemcdaaDoor
open Go.RowKit
theorem ToksAt.len {w : World} {v : Value} {l : List Tk.Tok} (h : ToksAt w v l) : ∃ A c, v = .slice A l.length c := by
  obtain ⟨A, c, rfl, _⟩ := h; exact ⟨A, c, rfl⟩
theorem ToksAt.some {w : World} {A : Option Addr} {n c : Nat} {l : List Tk.Tok} (h : ToksAt w (.slice A n c) l) (hp : 0 < l.length) : ∃ b off, A = some ⟨b, off, none⟩ := by
  obtain ⟨A', c', he, h⟩ := h
  simp only [Value.slice.injEq] at he
  obtain ⟨b, off, rfl, _⟩ := h hp
  exact ⟨b, off, he.1⟩
set_option maxRecDepth 100000 in
set_option maxHeartbeats 4000000 in
theorem rsame_any (v u : Value) (ts : List Tk.Tok) (w : World) (hv : ToksAt w v ts) (hu : ToksAt w u ts) (hn : ts.length ≤ 20000) :
    Calls Tryd.prog 27 #[v, u] w fun e w' => e = .returned (.bool true) ∧ Below w.heap.size w w' := by
  obtain ⟨A, c, rfl⟩ := hv.len
  obtain ⟨A', c', rfl⟩ := hu.len
  have q : ((ts.length : Int) != (ts.length : Int)) = false := by simp
  go_enter Tryd.func27, Tryd.ntmps27
  go_wp2_with fail
  go_loopw [5] (fun i wr => ∃ k : Nat, k ≤ ts.length ∧ i = .int .i64 k ∧ Below w.heap.size w wr) (fun i _ => ts.length - (Lib.intOf i).toNat)
  case atStart => exact ⟨0, by omega, rfl, Below.refl _ _⟩
  case round =>
    obtain ⟨k, hk, rfl, hb⟩ := hrel
    by_cases hlt : k < ts.length
    · have hd : decide ((k : Int) < (ts.length : Int)) = true := by simp; omega
      obtain ⟨b, off, rfl⟩ := hv.some (by omega)
      obtain ⟨b', off', rfl⟩ := hu.some (by omega)
      obtain ⟨m0, m1, m2, m3⟩ := (hv.below hb).at k hlt
      obtain ⟨n0, n1, n2, n3⟩ := (hu.below hb).at k hlt
      generalize ts.getD k zeroT = d at *
      have hq := tok_neq d d
      rw [decide_eq_true rfl] at hq
      unfold tokV at hq
      have k0 : (0 : Int) ≤ (k : Int) := by omega
      have k1 : (k : Int) < (ts.length : Int) := by omega
      go_wp2_with fail
      go_quiet (fail)
      go_wp2_with fail
      refine ⟨⟨k + 1, by omega, by go_num, pw_drewN hb _⟩, ?_⟩
      simp [Lib.intOf]; omega
    · obtain rfl : k = ts.length := by omega
      have hd : decide ((ts.length : Int) < (ts.length : Int)) = false := by simp
      go_wp2_with fail
      go_ret
      exact ⟨rfl, hb⟩
set_option maxRecDepth 100000 in
set_option maxHeartbeats 4000000 in
theorem rlike_any (v u : Value) (ts us : List Tk.Tok) (w : World) (hv : ToksAt w v ts) (hu : ToksAt w u us) (hn : ts.length ≤ 20000) (he : us.map (fun t => (t.kind, t.text, t.num)) = ts.map (fun t => (t.kind, t.text, t.num))) :
    Calls Tryd.prog 26 #[v, u] w fun e w' => e = .returned (.bool true) ∧ Below w.heap.size w w' := by
  obtain ⟨A, c, rfl⟩ := hv.len
  obtain ⟨A', c', rfl⟩ := hu.len
  have hl : us.length = ts.length := by have := congrArg List.length he; simpa using this
  have hat : ∀ k, k < ts.length → (us.getD k zeroT).kind = (ts.getD k zeroT).kind ∧ (us.getD k zeroT).text = (ts.getD k zeroT).text ∧ (us.getD k zeroT).num = (ts.getD k zeroT).num := fun k hk => by
    have h1 : (us.map (fun t => (t.kind, t.text, t.num)))[k]? = (ts.map (fun t => (t.kind, t.text, t.num)))[k]? := by rw [he]
    have hku : k < us.length := by omega
    rw [List.getElem?_map, List.getElem?_map, List.getElem?_eq_getElem hk, List.getElem?_eq_getElem hku] at h1
    simp only [Option.map_some, Option.some.injEq, Prod.mk.injEq] at h1
    rw [List.getD_eq_getElem?_getD, List.getD_eq_getElem?_getD, List.getElem?_eq_getElem hk, List.getElem?_eq_getElem hku]
    exact h1
  have Hat := Lib.hid hat; clear hat he
  have q : ((ts.length : Int) != (us.length : Int)) = false := by rw [bne_eq_false_iff_eq]; omega
  go_enter Tryd.func26, Tryd.ntmps26
  go_wp2_with fail
  go_loopw [5] (fun i wr => ∃ k : Nat, k ≤ ts.length ∧ i = .int .i64 k ∧ Below w.heap.size w wr) (fun i _ => ts.length - (Lib.intOf i).toNat)
  case atStart => exact ⟨0, by omega, rfl, Below.refl _ _⟩
  case round =>
    obtain ⟨k, hk, rfl, hb⟩ := hrel
    by_cases hlt : k < ts.length
    · have hd : decide ((k : Int) < (ts.length : Int)) = true := by simp; omega
      obtain ⟨b, off, rfl⟩ := hv.some (by omega)
      obtain ⟨b', off', rfl⟩ := hu.some (by omega)
      obtain ⟨m0, m1, m2, m3⟩ := (hv.below hb).at k hlt
      obtain ⟨n0, n1, n2, n3⟩ := (hu.below hb).at k (by omega)
      obtain ⟨e1, e2, e3⟩ := Hat.out k hlt
      rw [e1] at n0; rw [e2] at n1; rw [e3] at n2
      clear e1 e2 e3
      generalize us.getD k zeroT = d' at *
      generalize ts.getD k zeroT = d at *
      generalize bstr d.text = T at *
      have k0 : (0 : Int) ≤ (k : Int) := by omega
      have k1 : (k : Int) < (ts.length : Int) := by omega
      have k2 : (k : Int) < (us.length : Int) := by omega
      go_wp2_with fail
      go_quiet (fail)
      go_wp2_with fail
      refine ⟨⟨k + 1, by omega, by go_num, pw_drewN hb _⟩, ?_⟩
      simp [Lib.intOf]; omega
    · obtain rfl : k = ts.length := by omega
      have hd : decide ((ts.length : Int) < (ts.length : Int)) = false := by simp
      go_wp2_with fail
      go_ret
      exact ⟨rfl, hb⟩
end Go.Proofs.YtakbpbifgemcdaaDoor
