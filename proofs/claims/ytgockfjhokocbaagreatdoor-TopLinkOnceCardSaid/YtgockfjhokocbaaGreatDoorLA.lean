/-
  PROVED: the link as plain data: what holds between its layers at any time; its places in memory, told apart by labels.
-/
import Derived.Test.YtgockfjhokocbaaGreatDoorNF
import Derived.Test.YtgockfjhokocbaaGreatDoorIB
import Derived.Test.YtgockfjhokocbaaGreatDoorOC
import Derived.Test.YtgockfjhokocbaaGreatDoorRF
namespace Go.Proofs.YtgockfjhokocbaaGreatDoor
open Go.RowKit

/-- A link: what the outbox has seen acknowledged and due, what was pushed, what was popped, what is held early, what is in flight. -/
structure Lk where
  a : Nat
  s : Nat
  cum : Nat
  pushed : List Nat
  held : List (Nat × Value)
  l : List (Nat × Dg)
  nx : Nat

def IsEdit (d : Dg) (num v : Nat) : Prop := d.sp = false ∧ d.up = true ∧ d.n = 19 ∧ d.bs = framed (editB num v)
def IsBeat (d : Dg) (ack : Nat) : Prop := d.sp = false ∧ d.up = false ∧ d.n = 9 ∧ d.bs = framed (beatB ack)
/-- What may be in flight. -/
def DgOk (x : Lk) (d : Dg) : Prop :=
  (∃ num v, 1 ≤ num ∧ num ≤ x.s ∧ x.pushed[num - 1]? = some v ∧ IsEdit d num v) ∨ (∃ ack, ack ≤ x.cum ∧ IsBeat d ack) ∨
  (d.sp = true ∧ 9 ≤ d.n ∧ d.n ≤ 64 ∧ Broken d.n d.bs)

structure Inv (x : Lk) : Prop where
  a_cum : x.a ≤ x.cum
  cum_s : x.cum ≤ x.s
  s_len : x.s ≤ x.pushed.length
  len : x.pushed.length ≤ 4096
  val : ∀ v ∈ x.pushed, v ≤ 4095
  held : ∀ p ∈ x.held, x.cum < p.1 ∧ p.1 ≤ x.cum + 8 ∧ p.1 ≤ x.s ∧ ∃ v, x.pushed[p.1 - 1]? = some v ∧ p.2 = .int .i64 (v : Nat)
  fly : ∀ y ∈ x.l, DgOk x y.2

/-- One link's later state. -/
structure Later (x y : Lk) : Prop where
  a : x.a ≤ y.a
  s : x.s ≤ y.s
  cum : x.cum ≤ y.cum
  pushed : ∀ (i v : Nat), x.pushed[i]? = some v → y.pushed[i]? = some v
  nx : y.nx ≤ x.nx + 8
theorem DgOk.later {x y : Lk} {d : Dg} (hs : x.s ≤ y.s) (hc : x.cum ≤ y.cum) (hp : ∀ (i : Nat) (v : Nat), x.pushed[i]? = some v → y.pushed[i]? = some v) (h : DgOk x d) : DgOk y d := by
  rcases h with ⟨num, v, h1, h2, h3, h4⟩ | ⟨ack, h1, h2⟩ | h
  · exact .inl ⟨num, v, h1, Nat.le_trans h2 hs, hp _ _ h3, h4⟩
  · exact .inr (.inl ⟨ack, Nat.le_trans h1 hc, h2⟩)
  · exact .inr (.inr h)

theorem editB_bytes {num v : Nat} (h2 : num ≤ 4096) (h3 : v ≤ 4095) : Bytes (editB num v) := laidB_bytes (editFits h2 h3)
theorem beatB_bytes {ack : Nat} (h2 : ack ≤ 4096) : Bytes (beatB ack) := laidB_bytes (beatFits h2)

/-- Whatever is in flight: how long it is, and that its bytes are bytes. -/
theorem DgOk.bytes {x : Lk} (hx : Inv x) {d : Dg} (h : DgOk x d) : d.bs.length = d.n ∧ 9 ≤ d.n ∧ d.n ≤ 64 ∧ Bytes d.bs := by
  have i1 := hx.s_len
  have i2 := hx.len
  rcases h with ⟨num, v, h1, h2, h3, h4, h5, h6, h7⟩ | ⟨ack, h1, h4, h5, h6, h7⟩ | ⟨h1, h2, h3, xs, k, dd, h4, h5, h6, h7, h8, h9⟩
  · have hv := hx.val v (List.mem_of_getElem? h3)
    rw [h7, h6, framed_length, editB_length]
    exact ⟨rfl, by omega, by omega, framed_bytes (editB_bytes (by omega) hv)⟩
  · have := hx.cum_s
    rw [h7, h6, framed_length, beatB_length]
    exact ⟨rfl, by omega, by omega, framed_bytes (beatB_bytes (by omega))⟩
  · refine ⟨by rw [h9, List.length_set, framed_length]; exact h5, h2, h3, ?_⟩
    rw [h9]
    intro e he
    rcases List.mem_or_eq_of_mem_set he with h | h
    · exact framed_bytes h4 e h
    · omega

/-- A flipped datagram is broken. -/
theorem DgOk.flip {x : Lk} (hx : Inv x) {d d' : Dg} (h : DgOk x d) (hsp : d.sp = false) {k m B : Nat} (hk : k < d.n) (hm1 : 1 ≤ m) (hm2 : m ≤ 255) (hB : d.bs[k]? = some B) (h1 : d'.sp = true) (h2 : d'.n = d.n) (h3 : d'.bs = d.bs.set k (B ^^^ m)) : DgOk x d' := by
  obtain ⟨b1, b2, b3, b4⟩ := h.bytes hx
  have hB2 : B < 256 := b4 B (List.mem_of_getElem? hB)
  have i1 := hx.s_len
  have i2 := hx.len
  have key : ∀ xs, Bytes xs → d.bs = framed xs → Broken d.n d'.bs := by
    intro xs hxs e
    refine ⟨xs, k, B ^^^ m, hxs, by rw [← b1, e, framed_length], hk, Nat.xor_lt_two_pow (n := 8) hB2 (by omega), ?_, by rw [h3, e]⟩
    rw [← e, hB]
    intro hh
    have e2 : B = B ^^^ m := Option.some.inj hh
    have e3 : B ^^^ 0 = B ^^^ m := by rw [Nat.xor_zero]; exact e2
    have := xor_lc e3
    omega
  refine .inr (.inr ⟨h1, by omega, by omega, ?_⟩)
  rw [h2]
  rcases h with ⟨num, v, g1, g2, g3, g4, g5, g6, g7⟩ | ⟨ack, g1, g4, g5, g6, g7⟩ | ⟨g1, _⟩
  · exact key _ (editB_bytes (by omega) (hx.val v (List.mem_of_getElem? g3))) g7
  · have := hx.cum_s
    exact key _ (beatB_bytes (by omega)) g7
  · rw [hsp] at g1; cases g1

theorem rising_len {l : List (Nat × Value)} (hr : Rising l) : ∀ {lo hi : Nat}, (∀ p ∈ l, lo ≤ p.1 ∧ p.1 < hi) → l.length ≤ hi - lo := by
  induction l with
  | nil => intro lo hi _; simp
  | cons q r ih =>
    intro lo hi h
    have h1 := h q (by simp)
    have := ih hr.tail (lo := q.1 + 1) (hi := hi) (fun p hp => ⟨hr.head p hp, (h p (by simp [hp])).2⟩)
    simp only [List.length_cons]
    omega

/-- Its places in memory; 'lam' labels blocks. -/
structure Pl where
  lam : Nat → Nat
  np : Nat
  nb : Nat
  op : Nat
  S : List Nat
  ip : Nat
  ib : Nat
  PA : Option Addr
  pc : Nat
  QA : Option Addr
  qc : Nat

/-- What memory holds of it. -/
structure Rk where
  l : List (Nat × Dg)
  nx : Nat
  ob : St
  cum : Nat
  held : List (Nat × Value)
  ps : List Nat
  qs : List Nat
structure LinkAt (B0 : Nat) (w : World) (q : Nat) (g : Pl) (x : Rk) : Prop where
  blk : Blk w q 35 #[.pointer (some ⟨g.np, 0, none⟩), .pointer (some ⟨g.op, 0, none⟩), .pointer (some ⟨g.ip, 0, none⟩), .slice g.PA x.ps.length g.pc, .slice g.QA x.qs.length g.qc]
  net : NetAt w g.np g.nb x.l x.nx
  box : Box w g.op g.S 8 x.ob
  inb : InAt w g.ip g.ib x.cum x.held
  prow : Row w 3 1 g.PA x.ps.length g.pc (iv x.ps)
  qrow : Row w 3 1 g.QA x.qs.length g.qc (iv x.qs)
  lq : g.lam q = 0 ∧ B0 ≤ q
  lnp : g.lam g.np = 1 ∧ B0 ≤ g.np
  lnb : g.lam g.nb = 1 ∧ B0 ≤ g.nb
  lg : ∀ y ∈ x.l, g.lam y.2.g = 1
  lS : ∀ i ∈ g.S, g.lam i = 2 ∧ B0 ≤ i
  lip : g.lam g.ip = 3 ∧ B0 ≤ g.ip
  lib : g.lam g.ib = 3 ∧ B0 ≤ g.ib
  lP : ∀ i ∈ ob g.PA, g.lam i = 4 ∧ B0 ≤ i
  lQ : ∀ i ∈ ob g.QA, g.lam i = 5 ∧ B0 ≤ i

/-- New blocks get label j. -/
def relab (lam : Nat → Nat) (B j : Nat) : Nat → Nat := fun i => if i < B then lam i else j
theorem relab_old {lam : Nat → Nat} {B j i : Nat} (h : i < B) : relab lam B j i = lam i := if_pos h
theorem relab_in {lam : Nat → Nat} {B j i : Nat} (h : lam i = j ∨ B ≤ i) : relab lam B j i = j := by
  unfold relab
  split
  · rcases h with h | h
    · exact h
    · omega
  · rfl

namespace LinkAt
variable {B0 : Nat} {w w' : World} {q : Nat} {g : Pl} {x : Rk} {T : List Nat}
theorem lt (h : LinkAt B0 w q g x) : q < w.heap.size := h.blk.lt
/-- A step that turns only new blocks. -/
theorem next (h : LinkAt B0 w q g x) (hc : Chg [] w w') : LinkAt B0 w' q g x :=
  ⟨h.blk.keep hc (by simp), h.net.next hc, h.box.keep hc (by simp), h.inb.keep hc (by simp) (by simp), h.prow.keep hc (by simp), h.qrow.keep hc (by simp), h.lq, h.lnp, h.lnb, h.lg, h.lS, h.lip, h.lib, h.lP, h.lQ⟩
/-- All the parts but one, behind a step that turns blocks of one label j and new ones. -/
theorem rest (h : LinkAt B0 w q g x) (j : Nat) (hc : Chg T w w') (hT : ∀ i ∈ T, g.lam i = j) :
    (j ≠ 0 → Blk w' q 35 #[.pointer (some ⟨g.np, 0, none⟩), .pointer (some ⟨g.op, 0, none⟩), .pointer (some ⟨g.ip, 0, none⟩), .slice g.PA x.ps.length g.pc, .slice g.QA x.qs.length g.qc]) ∧
    (j ≠ 1 → NetAt w' g.np g.nb x.l x.nx) ∧ (j ≠ 2 → Box w' g.op g.S 8 x.ob) ∧ (j ≠ 3 → InAt w' g.ip g.ib x.cum x.held) ∧
    (j ≠ 4 → Row w' 3 1 g.PA x.ps.length g.pc (iv x.ps)) ∧ (j ≠ 5 → Row w' 3 1 g.QA x.qs.length g.qc (iv x.qs)) := by
  have n : ∀ i m, g.lam i = m → j ≠ m → i ∉ T := fun i m hi hj hm => by have := hT i hm; omega
  refine ⟨fun hj => h.blk.keep hc (n _ _ h.lq.1 hj), fun hj => h.net.keep hc (n _ _ h.lnp.1 hj) (n _ _ h.lnb.1 hj) (fun y hy => n _ _ (h.lg y hy) hj), fun hj => h.box.keep hc (fun k hk => n _ _ (h.lS k hk).1 hj),
    fun hj => h.inb.keep hc (n _ _ h.lip.1 hj) (n _ _ h.lib.1 hj), fun hj => h.prow.keep hc (fun k hk => n _ _ (h.lP k hk).1 hj), fun hj => h.qrow.keep hc (fun k hk => n _ _ (h.lQ k hk).1 hj)⟩
/-- The labels stand behind a relabelling. -/
theorem labs (h : LinkAt B0 w q g x) (j : Nat) : (relab g.lam w.heap.size j q = 0 ∧ B0 ≤ q) ∧ (relab g.lam w.heap.size j g.np = 1 ∧ B0 ≤ g.np) ∧ (relab g.lam w.heap.size j g.nb = 1 ∧ B0 ≤ g.nb) ∧ (∀ y ∈ x.l, relab g.lam w.heap.size j y.2.g = 1) ∧
    (∀ i ∈ g.S, relab g.lam w.heap.size j i = 2 ∧ B0 ≤ i) ∧ (relab g.lam w.heap.size j g.ip = 3 ∧ B0 ≤ g.ip) ∧ (relab g.lam w.heap.size j g.ib = 3 ∧ B0 ≤ g.ib) ∧ (∀ i ∈ ob g.PA, relab g.lam w.heap.size j i = 4 ∧ B0 ≤ i) ∧ (∀ i ∈ ob g.QA, relab g.lam w.heap.size j i = 5 ∧ B0 ≤ i) := by
  refine ⟨?_, ?_, ?_, fun y hy => ?_, fun i hi => ?_, ?_, ?_, fun i hi => ?_, fun i hi => ?_⟩
  · rw [relab_old h.blk.lt]; exact h.lq
  · rw [relab_old h.net.blk.lt]; exact h.lnp
  · rw [relab_old h.net.map.lt]; exact h.lnb
  · rw [relab_old (h.net.dg y hy).lt]; exact h.lg y hy
  · rw [relab_old (h.box.lt i hi)]; exact h.lS i hi
  · rw [relab_old h.inb.1.lt]; exact h.lip
  · rw [relab_old h.inb.2.1.lt]; exact h.lib
  · rw [relab_old (h.prow.lt i hi)]; exact h.lP i hi
  · rw [relab_old (h.qrow.lt i hi)]; exact h.lQ i hi

theorem net' (h : LinkAt B0 w q g x) {l' : List (Nat × Dg)} {nx' : Nat} (hn : NetAt w' g.np g.nb l' nx') (hc : Chg [g.np, g.nb] w w') (hl : ∀ y ∈ l', y ∈ x.l ∨ w.heap.size ≤ y.2.g) :
    LinkAt B0 w' q { g with lam := relab g.lam w.heap.size 1 } { x with l := l', nx := nx' } := by
  obtain ⟨r1, _, r3, r4, r5, r6⟩ := h.rest 1 hc (by simp [h.lnp.1, h.lnb.1])
  obtain ⟨k1, k2, k3, k4, k5, k6, k7, k8, k9⟩ := h.labs 1
  exact ⟨r1 (by omega), hn, r3 (by omega), r4 (by omega), r5 (by omega), r6 (by omega), k1, k2, k3, fun y hy => by
    rcases hl y hy with h1 | h1
    · exact k4 y h1
    · exact relab_in (.inr h1), k5, k6, k7, k8, k9⟩
theorem box' (h : LinkAt B0 w q g x) (hB : B0 ≤ w.heap.size) {t : St} (hl : Left w g.op g.S 8 t w') : ∃ g', g'.np = g.np ∧ g'.nb = g.nb ∧ g'.op = g.op ∧ g'.ip = g.ip ∧ g'.ib = g.ib ∧ LinkAt B0 w' q g' { x with ob := t } ∧ Chg g.S w w' := by
  obtain ⟨S', hb, hc, hS⟩ := hl
  obtain ⟨r1, r2, _, r4, r5, r6⟩ := h.rest 2 hc (fun i hi => (h.lS i hi).1)
  obtain ⟨k1, k2, k3, k4, k5, k6, k7, k8, k9⟩ := h.labs 2
  refine ⟨{ g with lam := relab g.lam w.heap.size 2, S := S' }, rfl, rfl, rfl, rfl, rfl, ⟨r1 (by omega), r2 (by omega), hb, r4 (by omega), r5 (by omega), r6 (by omega), k1, k2, k3, k4, fun i hi => ?_, k6, k7, k8, k9⟩, hc⟩
  rcases hS i hi with h1 | h1
  · exact k5 i h1
  · exact ⟨relab_in (.inr h1), by omega⟩
theorem inb' (h : LinkAt B0 w q g x) {c' : Nat} {m : List (Nat × Value)} (hi : InAt w' g.ip g.ib c' m) (hc : Chg [g.ip, g.ib] w w') : LinkAt B0 w' q g { x with cum := c', held := m } := by
  obtain ⟨r1, r2, r3, _, r5, r6⟩ := h.rest 3 hc (by simp [h.lip.1, h.lib.1])
  exact ⟨r1 (by omega), r2 (by omega), r3 (by omega), hi, r5 (by omega), r6 (by omega), h.lq, h.lnp, h.lnb, h.lg, h.lS, h.lip, h.lib, h.lP, h.lQ⟩
/-- 'x.pushed = append(x.pushed, v)'. -/
theorem push' (h : LinkAt B0 w q g x) (hB : B0 ≤ w.heap.size) {A' : Option Addr} {c' v : Nat} (hr : Row w' 3 1 A' (x.ps.length + 1) c' (iv (x.ps ++ [v]))) (hc : Chg (ob g.PA) w w') (hA : ∀ i ∈ ob A', i ∈ ob g.PA ∨ w.heap.size ≤ i) :
    ∃ g', g'.np = g.np ∧ g'.nb = g.nb ∧ g'.op = g.op ∧ g'.ip = g.ip ∧ g'.ib = g.ib ∧ LinkAt B0 (w'.setCell ⟨q, 3, none⟩ (.slice A' (x.ps.length + 1) c')) q g' { x with ps := x.ps ++ [v] } := by
  obtain ⟨r1, r2, r3, r4, _, r6⟩ := h.rest 4 hc (fun i hi => (h.lP i hi).1)
  obtain ⟨k1, k2, k3, k4, k5, k6, k7, k8, k9⟩ := h.labs 4
  have hcs : Chg [q] w' (w'.setCell ⟨q, 3, none⟩ (.slice A' (x.ps.length + 1) c')) := (Chg.refl _ _).setCell (.inl (by simp)) _
  have kA : ∀ i ∈ ob A', relab g.lam w.heap.size 4 i = 4 ∧ B0 ≤ i := fun i hi => by
    rcases hA i hi with h1 | h1
    · exact k8 i h1
    · exact ⟨relab_in (.inr h1), by omega⟩
  have n : ∀ i m, relab g.lam w.heap.size 4 i = m → m ≠ 0 → i ∉ [q] := fun i m hi hm he => by simp at he; subst he; have := k1.1; omega
  refine ⟨{ g with lam := relab g.lam w.heap.size 4, PA := A', pc := c' }, rfl, rfl, rfl, rfl, rfl, ?_, (r2 (by omega)).keep hcs (n _ _ k2.1 (by omega)) (n _ _ k3.1 (by omega)) (fun y hy => n _ _ (k4 y hy) (by omega)), (r3 (by omega)).keep hcs (fun i hi => n _ _ (k5 i hi).1 (by omega)),
    (r4 (by omega)).keep hcs (n _ _ k6.1 (by omega)) (n _ _ k7.1 (by omega)), ?_, (r6 (by omega)).keep hcs (fun i hi => n _ _ (k9 i hi).1 (by omega)), k1, k2, k3, k4, k5, k6, k7, kA, k9⟩
  · have := (r1 (by omega)).set_ 3 (.slice A' (x.ps.length + 1) c')
    simpa using this
  · have := hr.keep hcs (fun i hi => n _ _ (kA i hi).1 (by omega))
    simpa using this
/-- 'x.popped = append(x.popped, v)'. -/
theorem pop' (h : LinkAt B0 w q g x) (hB : B0 ≤ w.heap.size) {A' : Option Addr} {c' v : Nat} (hr : Row w' 3 1 A' (x.qs.length + 1) c' (iv (x.qs ++ [v]))) (hc : Chg (ob g.QA) w w') (hA : ∀ i ∈ ob A', i ∈ ob g.QA ∨ w.heap.size ≤ i) :
    ∃ g', g'.np = g.np ∧ g'.nb = g.nb ∧ g'.op = g.op ∧ g'.ip = g.ip ∧ g'.ib = g.ib ∧ g'.PA = g.PA ∧ g'.pc = g.pc ∧ g'.QA = A' ∧ g'.qc = c' ∧ LinkAt B0 (w'.setCell ⟨q, 4, none⟩ (.slice A' (x.qs.length + 1) c')) q g' { x with qs := x.qs ++ [v] } := by
  obtain ⟨r1, r2, r3, r4, r5, _⟩ := h.rest 5 hc (fun i hi => (h.lQ i hi).1)
  obtain ⟨k1, k2, k3, k4, k5, k6, k7, k8, k9⟩ := h.labs 5
  have hcs : Chg [q] w' (w'.setCell ⟨q, 4, none⟩ (.slice A' (x.qs.length + 1) c')) := (Chg.refl _ _).setCell (.inl (by simp)) _
  have kA : ∀ i ∈ ob A', relab g.lam w.heap.size 5 i = 5 ∧ B0 ≤ i := fun i hi => by
    rcases hA i hi with h1 | h1
    · exact k9 i h1
    · exact ⟨relab_in (.inr h1), by omega⟩
  have n : ∀ i m, relab g.lam w.heap.size 5 i = m → m ≠ 0 → i ∉ [q] := fun i m hi hm he => by simp at he; subst he; have := k1.1; omega
  refine ⟨{ g with lam := relab g.lam w.heap.size 5, QA := A', qc := c' }, rfl, rfl, rfl, rfl, rfl, rfl, rfl, rfl, rfl, ?_, (r2 (by omega)).keep hcs (n _ _ k2.1 (by omega)) (n _ _ k3.1 (by omega)) (fun y hy => n _ _ (k4 y hy) (by omega)), (r3 (by omega)).keep hcs (fun i hi => n _ _ (k5 i hi).1 (by omega)),
    (r4 (by omega)).keep hcs (n _ _ k6.1 (by omega)) (n _ _ k7.1 (by omega)), (r5 (by omega)).keep hcs (fun i hi => n _ _ (k8 i hi).1 (by omega)), ?_, k1, k2, k3, k4, k5, k6, k7, k8, kA⟩
  · have := (r1 (by omega)).set_ 4 (.slice A' (x.qs.length + 1) c')
    simpa using this
  · have := hr.keep hcs (fun i hi => n _ _ (kA i hi).1 (by omega))
    simpa using this
/-- Where its own blocks lie. -/
theorem base (h : LinkAt B0 w q g x) : (∀ i ∈ [g.np, g.nb], B0 ≤ i) ∧ (∀ i ∈ [g.ip, g.ib], B0 ≤ i) ∧ (∀ i ∈ g.S, B0 ≤ i) ∧ (∀ i ∈ ob g.PA, B0 ≤ i) ∧ (∀ i ∈ ob g.QA, B0 ≤ i) ∧ B0 ≤ q := by
  refine ⟨by simp [h.lnp.2, h.lnb.2], by simp [h.lip.2, h.lib.2], fun i hi => (h.lS i hi).2, fun i hi => (h.lP i hi).2, fun i hi => (h.lQ i hi).2, h.lq.2⟩
end LinkAt

def obSt (x : Lk) : St := ⟨x.a, x.s, (x.pushed.drop x.a).map fun (v : Nat) => (v : Int)⟩
def raw (x : Lk) : Rk := ⟨x.l, x.nx, obSt x, x.cum, x.held, x.pushed, x.pushed.take x.cum⟩
/-- The link lies in memory, all of its own blocks from B0 on. -/
def LinkIs (B0 : Nat) (w : World) (q : Nat) (x : Lk) : Prop := ∃ g, LinkAt B0 w q g (raw x)
theorem LinkIs.next {B0 : Nat} {w w' : World} {q : Nat} {x : Lk} (h : LinkIs B0 w q x) (hc : Chg [] w w') : LinkIs B0 w' q x := by obtain ⟨g, h⟩ := h; exact ⟨g, h.next hc⟩
theorem Laid.below {B : Nat} {w w' : World} (h : Laid B w) (hb : Below B w w') : Laid B w' := by
  have h4 := h.four
  obtain ⟨a2, c2, e2, l2, r2⟩ := h.edit
  obtain ⟨a6, c6, e6, l6, r6⟩ := h.beat
  have c : ∀ {a : Addr} {v : Value}, a.block < B → w.cell? a = some v → w'.cell? a = some v := fun ha hv => (hb.cell ha).trans hv
  have rd : ∀ {a : Addr} {n : Nat} {xs : List Value}, a.block < B → Reads w 1 (some a) n xs → Reads w' 1 (some a) n xs := fun ha hr => ⟨hr.1, fun hn => by
    obtain ⟨ad, e, hc⟩ := hr.2 hn
    cases e
    exact ⟨_, rfl, fun j u hu => c (by rw [add_block]; exact ha) (hc j u hu)⟩⟩
  exact ⟨h4, Nat.le_trans h.le hb.size, fun i hi => c (show 2 < B by omega) (h.tab i hi), fun i hi => c (show 1 < B by omega) (h.size i hi), ⟨a2, c2, c (show 0 < B by omega) e2, l2, rd l2 r2⟩, ⟨a6, c6, c (show 0 < B by omega) e6, l6, rd l6 r6⟩, c (show 3 < B by omega) h.err⟩
end Go.Proofs.YtgockfjhokocbaaGreatDoor
