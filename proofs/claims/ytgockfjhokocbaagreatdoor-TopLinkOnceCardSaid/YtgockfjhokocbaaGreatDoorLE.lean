/-
  PROVED: what a delivered datagram makes of a link, in plain Lean.
-/
import Derived.Test.YtgockfjhokocbaaGreatDoorLD
namespace Go.Proofs.YtgockfjhokocbaaGreatDoor
open Go.RowKit

/-- What one call of get leaves. -/
structure Got (x : Lk) (i : Nat) (y : Lk) : Prop where
  inv : Inv y
  l : y.l = x.l.eraseIdx i
  nx : y.nx = x.nx
  s : y.s = x.s
  pushed : y.pushed = x.pushed
  a : x.a ≤ y.a
  cum : x.cum ≤ y.cum
  edit : ∀ d num v, x.l[i]? = some d → IsEdit d.2 num v → num ≤ x.cum + 1 → num ≤ y.cum
  beat : ∀ d n, x.l[i]? = some d → IsBeat d.2 n → n ≤ y.a

theorem inv_erase {x : Lk} (h : Inv x) (i : Nat) : Inv { x with l := x.l.eraseIdx i } :=
  ⟨h.a_cum, h.cum_s, h.s_len, h.len, h.val, h.held, fun y hy => h.fly y (List.mem_of_mem_eraseIdx hy)⟩
theorem inv_ack {x : Lk} (h : Inv x) {n : Nat} (hn : n ≤ x.cum) : Inv { x with a := max x.a n } :=
  ⟨Nat.max_le.2 ⟨h.a_cum, hn⟩, h.cum_s, h.s_len, h.len, h.val, h.held, h.fly⟩
theorem ob_ack {x : Lk} (h : Inv x) {n : Nat} (hn : n ≤ x.cum) : (obSt x).ack (n : Int) = (0, obSt { x with a := max x.a n }) := by
  have h1 := h.cum_s
  have h2 := h.s_len
  have h3 := h.a_cum
  unfold St.ack
  rw [if_neg (by simp only [obSt]; omega)]
  by_cases hle : n ≤ x.a
  · rw [if_pos (by simp only [obSt]; omega)]
    simp only [obSt, Nat.max_eq_left hle]
  · rw [if_neg (by simp only [obSt]; omega)]
    have e : max x.a n = n := Nat.max_eq_right (by omega)
    simp only [obSt, e, Int.toNat_natCast, Prod.mk.injEq, St.mk.injEq, true_and]
    rw [← List.map_drop, List.drop_drop]
    congr 2
    omega

/-- Put keeps what must hold. -/
theorem inv_put {x : Lk} (h : Inv x) (hr : Rising x.held) {num v : Nat} (h2 : num ≤ x.s) (h3 : x.pushed[num - 1]? = some v) :
    Inv { x with held := inPut x.cum x.held num (.int .i64 (v : Nat)) } ∧ (num = x.cum + 1 → (get num (inPut x.cum x.held num (.int .i64 (v : Nat)))).isSome = true) := by
  unfold inPut
  split
  · rename_i hc
    refine ⟨h, fun e => ?_⟩
    rcases hc with hc | hc | hc
    · exact hc
    · omega
    · omega
  · rename_i hc
    have hc1 : ¬ num ≤ x.cum := fun e => hc (.inr (.inl e))
    have hc2 : ¬ x.cum + 8 < num := fun e => hc (.inr (.inr e))
    have hl := h.len
    have hs := h.s_len
    refine ⟨⟨h.a_cum, h.cum_s, h.s_len, h.len, h.val, fun p hp => ?_, h.fly⟩, fun e => ?_⟩
    · rcases (mem_ins hr p).1 hp with rfl | ⟨hp, _⟩
      · exact ⟨by show x.cum < num; omega, by show num ≤ x.cum + 8; omega, h2, v, h3, rfl⟩
      · exact h.held p hp
    · have : get num (ins num (.int .i64 (v : Nat)) x.held) = some (.int .i64 (v : Nat)) := (get_some (hr.ins (by omega))).2 ((mem_ins hr _).2 (.inl rfl))
      rw [this]; rfl
/-- A pop keeps what must hold. -/
theorem inv_pop {x : Lk} (h : Inv x) (hr : Rising x.held) {u : Value} (hg : get (x.cum + 1) x.held = some u) :
    Inv { x with cum := x.cum + 1, held := del (x.cum + 1) x.held } ∧ ∃ v : Nat, u = .int .i64 (v : Nat) ∧ x.pushed[x.cum]? = some v ∧ x.cum < x.pushed.length := by
  have hm := (get_some hr).1 hg
  obtain ⟨h1, h2, h3, v, h4, h5⟩ := h.held _ hm
  have hs := h.s_len
  have ha := h.a_cum
  simp only at h1 h2 h3 h4 h5
  refine ⟨⟨Nat.le_succ_of_le ha, h3, hs, h.len, h.val, fun p hp => ?_, fun y hy => ?_⟩, v, h5, h4, by omega⟩
  · obtain ⟨hp1, hp2⟩ := (mem_del p).1 hp
    obtain ⟨k1, k2, k3, k4⟩ := h.held p hp1
    exact ⟨by show x.cum + 1 < p.1; omega, by show p.1 ≤ x.cum + 1 + 8; omega, k3, k4⟩
  · exact DgOk.later (x := x) (Nat.le_refl _) (Nat.le_succ _) (fun _ _ h => h) (h.fly y hy)
theorem held_len {x : Lk} (h : Inv x) (hr : Rising x.held) : x.held.length ≤ 4096 := by
  have := rising_len hr (lo := x.cum + 1) (hi := x.cum + 9) (fun p hp => by obtain ⟨h1, h2, _⟩ := h.held p hp; omega)
  omega
theorem DgOk.cases {x : Lk} {d : Dg} (h : DgOk x d) : (∃ num v, 1 ≤ num ∧ num ≤ x.s ∧ x.pushed[num - 1]? = some v ∧ IsEdit d num v) ∨ (∃ ack, ack ≤ x.cum ∧ IsBeat d ack) ∨ (d.sp = true ∧ 9 ≤ d.n ∧ d.n ≤ 64 ∧ Broken d.n d.bs) := h
theorem framed_inj {xs ys : List Nat} (hl : xs.length = ys.length) (h : framed xs = framed ys) : xs = ys := by
  unfold framed at h
  exact (List.append_inj h hl).1
theorem edit_num {d : Dg} {n m u v : Nat} (h : IsEdit d n u) (k : IsEdit d m v) : n = m := by
  have e := framed_inj (by rw [editB_length, editB_length]) (h.2.2.2.symm.trans k.2.2.2)
  have e3 := congrArg (fun l => l[3]?) e
  have e4 := congrArg (fun l => l[4]?) e
  simp [editB, laidB, editShape, editV, putB, sizeN] at e3 e4
  omega
theorem beat_num {d : Dg} {n m : Nat} (h : IsBeat d n) (k : IsBeat d m) : n = m := by
  have e := framed_inj (by rw [beatB_length, beatB_length]) (h.2.2.2.symm.trans k.2.2.2)
  have e3 := congrArg (fun l => l[3]?) e
  have e4 := congrArg (fun l => l[4]?) e
  simp [beatB, laidB, beatShape, beatV, putB, sizeN] at e3 e4
  omega
end Go.Proofs.YtgockfjhokocbaaGreatDoor
