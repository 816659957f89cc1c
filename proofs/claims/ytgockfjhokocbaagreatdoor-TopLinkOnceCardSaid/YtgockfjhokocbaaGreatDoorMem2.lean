/-
  PROVED: more words for memory, over any program: an append that grows leaves what was there; a sharper bound on its room; facts carried by a 'Chg'.
-/
import Derived.Test.YtgockfjhokocbaaGreatDoorMem
namespace Go.Proofs.YtgockfjhokocbaaGreatDoor
open Go.RowKit

theorem growBy_quarter (n : Nat) : ∀ r c, c ≤ n + n / 4 + 256 → Builtin.growBy n r c ≤ n + n / 4 + 256
  | 0, c, h => by unfold Builtin.growBy; exact h
  | r + 1, c, h => by
    unfold Builtin.growBy
    split
    · exact h
    · exact growBy_quarter n r _ (by omega)
theorem nextslicecap_quarter {need old : Nat} (h : old < need) : Builtin.nextslicecap need old ≤ need + need / 4 + 256 := by
  unfold Builtin.nextslicecap
  split
  · omega
  · split
    · omega
    · exact growBy_quarter need 4 old (by omega)
theorem grow_quarter {need old bytes : Nat} (hb : (need + need / 4 + 256) * bytes ≤ 281474976710656) : old < need → Builtin.nextslicecap need old * bytes ≤ 281474976710656 := fun h =>
  Nat.le_trans (Nat.mul_le_mul_right _ (nextslicecap_quarter h)) hb

section
variable {P : Program} (w : World)
theorem run_append_row2 (t ty e : TypeId) (i : TypeInfo) (z : Value) (sz bytes : Nat) (ht : P.underlying t = some (.slice e)) (hi : P.info? e = some i) (hz : i.zero = some z)
    (hsize : i.size = sz) (hby : i.bytes = bytes) (hzs : z.cells.size = sz)
    (A : Option Addr) (n cap : Nat) (xs : List Value) (hrow : Row w e sz A n cap xs) (B : Option Addr) (m c : Nat) (news : List Value) (hr : Reads w sz B m news) (h1 : ∀ u ∈ news, u.oneCell' = true)
    (h63 : n + m ≤ maxLen) (hb : cap < n + m → Builtin.nextslicecap (n + m) cap * bytes ≤ 281474976710656) :
    ∃ A' cap' w', (Builtin.append_ #[t, t] ty #[.slice A n cap, .slice B m c]).run P w = .ok (.slice A' (n + m) cap') w' ∧ Row w' e sz A' (n + m) cap' (xs ++ news) ∧ Chg (ob A) w w' ∧ Grew w A n cap m A' cap' ∧ (cap < n + m → Chg [] w w') := by
  obtain ⟨A', cap', w', hrun, h2, h3, h4⟩ := run_append_row (P := P) w t ty e i z sz bytes ht hi hz hsize hby hzs A n cap xs hrow B m c news hr h1 h63 hb
  refine ⟨A', cap', w', hrun, h2, h3, h4, fun hlt => ?_⟩
  subst hsize
  subst hby
  have hsmall : n + m ≤ 9223372036854775807 := by simp only [maxLen] at h63; omega
  have hnc := hrow.le
  obtain ⟨ad, rfl, hcells⟩ := hr.2 (by omega)
  rcases hrow.2 with ⟨rfl, rfl, rfl⟩ | ⟨g, cur, rfl, hg, hnc, hcs, hcm, htake⟩
  · have hnb : Builtin.nextslicecap m 0 = m := nextslicecap_zero (by omega)
    have hb' := hb (by omega)
    simp only [Nat.zero_add, hnb] at hb'
    have hrn := run_append_nil (P := P) w t ty e i z ht hi hz ad m c news hr.1 hcells (by omega) (by omega) hb'
    rw [hrun] at hrn
    have hw : w' = _ := (Result.ok.inj hrn).2
    rw [hw]
    exact ((Chg.refl _ w).drew).alloc _
  · have holds : ∀ j u, xs[j]? = some u → w.cell? ((⟨g, 0, none⟩ : Addr).add j) = some u := by
      intro j u hu
      rw [add_head, hg.cell]
      rw [← htake, List.getElem?_take] at hu
      split at hu
      · simpa using hu
      · cases hu
    have hrn := run_append_grow (P := P) w t ty e i z ht hi hz ⟨g, 0, none⟩ n cap xs hrow.1 holds ad m c news hr.1 hcells (by omega) (by omega) (hb (by omega))
    rw [hrun] at hrn
    have hw : w' = _ := (Result.ok.inj hrn).2
    rw [hw]
    exact ((Chg.refl _ w).drew).alloc _

theorem wpList_append_row2 {ops : Array Oper} {rest : List Oper} {o : Oper} {a : Act} {Q : Exit → Act → World → Prop} (hgd : o.guard = none) (s x : Operand) (t : TypeId)
    (ho : o.op = .call { callee := .builtin .append, args := #[s, x], argTypes := #[t, t] })
    (e : TypeId) (i : TypeInfo) (z : Value) (sz bytes : Nat) (ht : P.underlying t = some (.slice e)) (hi : P.info? e = some i) (hz : i.zero = some z)
    (hsize : i.size = sz) (hby : i.bytes = bytes) (hzs : z.cells.size = sz)
    (A : Option Addr) (n cap : Nat) (xs : List Value) (hs : a.eval s = .slice A n cap) (hrow : Row w e sz A n cap xs) (B : Option Addr) (m c : Nat) (news : List Value) (hx : a.eval x = .slice B m c) (hr : Reads w sz B m news) (h1 : ∀ u ∈ news, u.oneCell' = true)
    (h63 : n + m ≤ maxLen) (hb : cap < n + m → Builtin.nextslicecap (n + m) cap * bytes ≤ 281474976710656)
    (h : ∀ A' cap' w', Row w' e sz A' (n + m) cap' (xs ++ news) → Chg (ob A) w w' → Grew w A n cap m A' cap' → (cap < n + m → Chg [] w w') → wpList P ops Q rest (a.put o.dst (.slice A' (n + m) cap')) w') : wpList P ops Q (o :: rest) a w :=
  wpList_plain hgd fun _ hK => by
    obtain ⟨A', cap', w', hrun, h2, h3, h4, h5⟩ := run_append_row2 (P := P) w t o.type e i z sz bytes ht hi hz hsize hby hzs A n cap xs hrow B m c news hr h1 h63 hb
    unfold Oper.wp execOp
    simp only [ho, resolve, invoke, builtin, Sem.run_bind, Sem.run_pure, Result.andThen_ok, List.map_toArray, List.map_cons, List.map_nil, hs, hx, hrun]
    exact hK _ _ (h A' cap' w' h2 h3 h4 h5)
end

/-! ### facts carried: the 'Chg' first, so that the world is its own -/
theorem Chg.blk' {S : List Nat} {w w' : World} {g : Nat} {t : TypeId} {cs : Array Value} (hc : Chg S w w') (h : Blk w g t cs) (hg : g ∉ S) : Blk w' g t cs := h.keep hc hg
theorem Chg.row' {w w' : World} {e : TypeId} {sz n cap : Nat} {A : Option Addr} {xs : List Value} {S : List Nat} (hc : Chg S w w') (h : Row w e sz A n cap xs) (hS : ∀ i ∈ ob A, i ∉ S) : Row w' e sz A n cap xs := h.keep hc hS
theorem Chg.reads' {w w' : World} {sz n : Nat} {A : Option Addr} {xs : List Value} {S : List Nat} (hc : Chg S w w') (h : Reads w sz A n xs) (hS : ∀ i ∈ ob A, i ∉ S) : Reads w' sz A n xs := h.keep hc hS

/-- A row made by hand: '[]T{..}', its cells a new block. -/
theorem built_reads (w : World) (e : TypeId) (us : List Value) : Reads (w.alloc (.cells us.toArray e)) 1 (some ⟨w.heap.size, 0, none⟩) us.length us := by
  refine ⟨by simp, fun _ => ⟨_, rfl, fun j v hv => ?_⟩⟩
  rw [add_head, (Blk.new w e us.toArray).cell]
  simpa using hv

end Go.Proofs.YtgockfjhokocbaaGreatDoor
