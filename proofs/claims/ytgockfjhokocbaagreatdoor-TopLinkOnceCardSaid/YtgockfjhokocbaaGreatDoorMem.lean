/-
  PROVED: words for memory, over any program: a slice that reads as a list ('Reads'), a slice that owns the head of a row ('Row'), a frame by blocks ('Chg'), and the laws on append, make, copy and an element's store in these words.
  No condition beyond what each theorem names.
-/
import Derived.WalkKit
import Derived.Laws.CopyOwn
import Derived.Lib.Hide
import Derived.Deep.Draws
namespace Go.Proofs.YtgockfjhokocbaaGreatDoor
open Go.RowKit

theorem add_add (a : Addr) (i j : Nat) : (a.add i).add j = a.add (i + j) := by
  unfold Addr.add
  by_cases hi : i = 0 <;> by_cases hj : j = 0 <;> simp [hi, hj, Nat.add_assoc]
theorem add_block (a : Addr) (n : Nat) : (a.add n).block = a.block := by unfold Addr.add; split <;> rfl
theorem add_head (g j : Nat) : (⟨g, 0, none⟩ : Addr).add j = ⟨g, j, none⟩ := by unfold Addr.add; split <;> simp_all
theorem add_at (g o j : Nat) : (⟨g, o, none⟩ : Addr).add j = ⟨g, o + j, none⟩ := by unfold Addr.add; split <;> simp_all

/-- The blocks of an address. -/
def ob : Option Addr → List Nat
  | some a => [a.block]
  | none => []

/-- Only blocks of S, and new ones, have turned. -/
structure Chg (S : List Nat) (w w' : World) : Prop where
  os : w'.os = w.os
  tape : w'.tape = w.tape
  output : w'.output = w.output
  size : w.heap.size ≤ w'.heap.size
  block : ∀ k, k < w.heap.size → k ∉ S → w'.heap[k]? = w.heap[k]?

namespace Chg
variable {S T : List Nat} {a b w w' : World}
theorem refl (S : List Nat) (w : World) : Chg S w w := ⟨rfl, rfl, rfl, Nat.le_refl _, fun _ _ _ => rfl⟩
/-- Two steps: of the second only what lies in S, or is new to the first world. -/
theorem trans (h : Chg S a b) (k : Chg T b w) (hT : ∀ i ∈ T, i ∈ S ∨ a.heap.size ≤ i) : Chg S a w :=
  ⟨k.os.trans h.os, k.tape.trans h.tape, k.output.trans h.output, Nat.le_trans h.size k.size, fun i hi hn =>
    (k.block i (Nat.lt_of_lt_of_le hi h.size) (fun hm => by
      rcases hT i hm with h1 | h1
      · exact hn h1
      · omega)).trans (h.block i hi hn)⟩
theorem mono (h : Chg S w w') (hT : ∀ i ∈ S, i ∈ T ∨ w.heap.size ≤ i) : Chg T w w' :=
  ⟨h.os, h.tape, h.output, h.size, fun i hi hn => h.block i hi (fun hm => by
    rcases hT i hm with h1 | h1
    · exact hn h1
    · omega)⟩
theorem next (h : Chg S a b) (k : Chg [] b w) : Chg S a w := h.trans k (by simp)
theorem drew (h : Chg S a w) : Chg S a w.drew := ⟨h.os, h.tape, h.output, h.size, h.block⟩
theorem drewN (h : Chg S a w) (n : Nat) : Chg S a (w.drewN n) := ⟨h.os, h.tape, h.output, h.size, h.block⟩
theorem alloc (h : Chg S a w) (o : Obj) : Chg S a (w.alloc o) :=
  ⟨h.os, h.tape, h.output, Nat.le_trans h.size (by simp), fun i hi hn => (Below.heap_alloc w o i (Nat.lt_of_lt_of_le hi h.size)).trans (h.block i hi hn)⟩
theorem setCell (h : Chg S a w) {p : Addr} (hp : p.block ∈ S ∨ a.heap.size ≤ p.block) (u : Value) : Chg S a (w.setCell p u) :=
  ⟨h.os, h.tape, h.output, by simpa [World.setCell] using h.size, fun i hi hn => (Below.heap_setCell w p u i (by
    rintro rfl
    rcases hp with hp | hp
    · exact hn hp
    · omega)).trans (h.block i hi hn)⟩
theorem setRow (h : Chg S a w) {g : Nat} (hp : g ∈ S ∨ a.heap.size ≤ g) (cs : Array Value) : Chg S a (w.setRow g cs) :=
  ⟨h.os, h.tape, h.output, by simpa using h.size, fun i hi hn => (setRow_other w g i cs (by
    rintro rfl
    rcases hp with hp | hp
    · exact hn hp
    · omega)).trans (h.block i hi hn)⟩
theorem below {B : Nat} (h : Chg S w w') (hS : ∀ i ∈ S, B ≤ i) (hB : B ≤ w.heap.size) : Below B w w' :=
  ⟨h.os, h.tape, h.output, h.size, fun i hi => h.block i (by omega) (fun hm => by have := hS i hm; omega)⟩
theorem cell (h : Chg S w w') {p : Addr} {v : Value} (hv : w.cell? p = some v) (hp : p.block ∉ S) : w'.cell? p = some v :=
  (World.cell?_of_block (h.block p.block (World.block_lt_of_cell? w p hv) hp)).trans hv
end Chg

/-- Block g is just these cells, of this element type, none frozen. -/
def Blk (w : World) (g : Nat) (t : TypeId) (cs : Array Value) : Prop := w.heap[g]? = some (.cells cs t (0, 0))

namespace Blk
variable {w w' : World} {g : Nat} {t : TypeId} {cs : Array Value} {S : List Nat}
theorem lt (h : Blk w g t cs) : g < w.heap.size := by
  rcases Nat.lt_or_ge g w.heap.size with hlt | hge
  · exact hlt
  · unfold Blk at h; rw [Array.getElem?_eq_none hge] at h; cases h
theorem cell (h : Blk w g t cs) (i : Nat) : w.cell? ⟨g, i, none⟩ = cs[i]? := cell_of_row w g i cs t (0, 0) h
theorem frozen (h : Blk w g t cs) (i : Nat) : w.frozen? ⟨g, i, none⟩ = false := by
  unfold Blk at h
  simp [World.frozen?, h]
theorem new (w : World) (t : TypeId) (cs : Array Value) : Blk (w.alloc (.cells cs t)) w.heap.size t cs := heap_alloc_new w _
theorem drew (h : Blk w g t cs) : Blk w.drew g t cs := h
theorem drewN (h : Blk w g t cs) (n : Nat) : Blk (w.drewN n) g t cs := h
theorem alloc (h : Blk w g t cs) (o : Obj) : Blk (w.alloc o) g t cs := (Below.heap_alloc w o g h.lt).trans h
theorem set_ (h : Blk w g t cs) (i : Nat) (u : Value) : Blk (w.setCell ⟨g, i, none⟩ u) g t (cs.setIfInBounds i u) := by
  unfold Blk at h ⊢
  simp [World.setCell, Array.getElem?_modify, h]
theorem far (h : Blk w g t cs) {p : Addr} (hp : g ≠ p.block) (u : Value) : Blk (w.setCell p u) g t cs := (Below.heap_setCell w p u g hp).trans h
theorem keep (h : Blk w g t cs) (hc : Chg S w w') (hg : g ∉ S) : Blk w' g t cs := (hc.block g h.lt hg).trans h
theorem ne_ {g' : Nat} {t' : TypeId} {cs' : Array Value} (h : Blk w g t cs) (h' : Blk w g' t' cs') (hne : t ≠ t') : g ≠ g' := by
  rintro rfl
  unfold Blk at h h'
  rw [h] at h'
  injection h' with h'
  injection h' with _ ht
  exact hne ht
end Blk

/-- The slice value '.slice A n c' (whatever c) holds the cells xs, 'sz' an element. -/
def Reads (w : World) (sz : Nat) (A : Option Addr) (n : Nat) (xs : List Value) : Prop :=
  xs.length = n * sz ∧ (0 < n → ∃ ad, A = some ad ∧ ∀ j u, xs[j]? = some u → w.cell? (ad.add j) = some u)

/-- The slice value '.slice A n cap' is nil, or begins at the head of a row of its own (element type e, not frozen) whose first cells are xs. -/
def Row (w : World) (e : TypeId) (sz : Nat) (A : Option Addr) (n cap : Nat) (xs : List Value) : Prop :=
  xs.length = n * sz ∧ ((A = none ∧ n = 0 ∧ cap = 0) ∨
    ∃ g cur, A = some ⟨g, 0, none⟩ ∧ Blk w g e cur ∧ n ≤ cap ∧ cap * sz ≤ cur.size ∧ cap ≤ maxLen ∧ cur.toList.take (n * sz) = xs)

namespace Reads
variable {w w' : World} {sz n : Nat} {A : Option Addr} {xs : List Value} {S : List Nat}
theorem nil (w : World) (sz : Nat) (A : Option Addr) : Reads w sz A 0 [] := ⟨by simp, fun h => absurd h (by omega)⟩
theorem at_ {k : Nat} (h : Reads w 1 A n xs) (hk : k < n) : ∃ ad u, A = some ad ∧ xs[k]? = some u ∧ w.cell? (ad.add k) = some u := by
  obtain ⟨ad, e, hc⟩ := h.2 (by omega)
  have hl : k < xs.length := by have := h.1; omega
  exact ⟨ad, xs[k], e, List.getElem?_eq_getElem hl, hc k _ (List.getElem?_eq_getElem hl)⟩
theorem keep (h : Reads w sz A n xs) (hc : Chg S w w') (hS : ∀ i ∈ ob A, i ∉ S) : Reads w' sz A n xs :=
  ⟨h.1, fun hn => by
    obtain ⟨ad, rfl, hcell⟩ := h.2 hn
    exact ⟨ad, rfl, fun j u hu => hc.cell (hcell j u hu) (by rw [add_block]; exact hS _ (by simp [ob]))⟩⟩
theorem drew (h : Reads w sz A n xs) : Reads w.drew sz A n xs := h
theorem drewN (h : Reads w sz A n xs) (k : Nat) : Reads (w.drewN k) sz A n xs := h
/-- A cut 's[k:]', as the model spells its address. -/
theorem cut {k cap : Nat} (h : Reads w sz A n xs) (hk : k ≤ n) (hc : n ≤ cap) :
    Reads w sz (if cap = k then A else A.map (·.add (k * sz))) (n - k) (xs.drop (k * sz)) := by
  refine ⟨by rw [List.length_drop, h.1, Nat.sub_mul], fun hn => ?_⟩
  obtain ⟨ad, rfl, hcell⟩ := h.2 (by omega)
  rw [if_neg (by omega)]
  refine ⟨ad.add (k * sz), rfl, fun j u hu => ?_⟩
  rw [add_add]
  exact hcell _ u (by rw [← hu, List.getElem?_drop])
/-- A cut 's[:k]'. -/
theorem take {k : Nat} (h : Reads w sz A n xs) (hk : k ≤ n) : Reads w sz A k (xs.take (k * sz)) := by
  refine ⟨by rw [List.length_take, h.1]; exact Nat.min_eq_left (Nat.mul_le_mul_right _ hk), fun hn => ?_⟩
  obtain ⟨ad, rfl, hcell⟩ := h.2 (by omega)
  refine ⟨ad, rfl, fun j u hu => hcell j u ?_⟩
  rw [List.getElem?_take] at hu
  split at hu
  · exact hu
  · cases hu
theorem lt (h : Reads w 1 A n xs) (hn : 0 < n) : ∀ i ∈ ob A, i < w.heap.size := by
  obtain ⟨ad, u, rfl, _, hc⟩ := h.at_ hn
  intro i hi
  have := World.block_lt_of_cell? _ _ hc
  rw [add_block] at this
  simp [ob] at hi
  omega
end Reads

namespace Row
variable {w w' : World} {e : TypeId} {sz n cap : Nat} {A : Option Addr} {xs : List Value} {S : List Nat}
theorem nil (w : World) (e : TypeId) (sz : Nat) : Row w e sz none 0 0 [] := ⟨by simp, .inl ⟨rfl, rfl, rfl⟩⟩
theorem le (h : Row w e sz A n cap xs) : n ≤ cap := by
  rcases h.2 with ⟨_, h1, h2⟩ | ⟨_, _, _, _, h, _⟩ <;> omega
theorem cap_le (h : Row w e sz A n cap xs) : cap ≤ maxLen := by
  rcases h.2 with ⟨_, h1, h2⟩ | ⟨_, _, _, _, _, _, h, _⟩
  · subst h2; exact Nat.zero_le _
  · exact h
theorem reads (h : Row w e sz A n cap xs) : Reads w sz A n xs := by
  refine ⟨h.1, fun hn => ?_⟩
  rcases h.2 with ⟨_, h1, _⟩ | ⟨g, cur, rfl, hb, _, _, _, ht⟩
  · omega
  · refine ⟨_, rfl, fun j u hu => ?_⟩
    rw [add_head, hb.cell]
    rw [← ht, List.getElem?_take] at hu
    split at hu
    · simpa using hu
    · cases hu
theorem lt (h : Row w e sz A n cap xs) : ∀ i ∈ ob A, i < w.heap.size := by
  rcases h.2 with ⟨rfl, _⟩ | ⟨g, cur, rfl, hb, _⟩
  · simp [ob]
  · intro i hi; simp [ob] at hi; subst hi; exact hb.lt
theorem keep (h : Row w e sz A n cap xs) (hc : Chg S w w') (hS : ∀ i ∈ ob A, i ∉ S) : Row w' e sz A n cap xs := by
  refine ⟨h.1, ?_⟩
  rcases h.2 with h0 | ⟨g, cur, rfl, hb, r⟩
  · exact .inl h0
  · exact .inr ⟨g, cur, rfl, hb.keep hc (hS g (by simp [ob])), r⟩
theorem drew (h : Row w e sz A n cap xs) : Row w.drew e sz A n cap xs := h
theorem drewN (h : Row w e sz A n cap xs) (k : Nat) : Row (w.drewN k) e sz A n cap xs := h
theorem alloc (h : Row w e sz A n cap xs) (o : Obj) : Row (w.alloc o) e sz A n cap xs := h.keep ((Chg.refl [] w).alloc o) (by simp)
/-- Rows of other element types lie elsewhere. -/
theorem ne_blk {g : Nat} {t : TypeId} {cs : Array Value} (h : Row w e sz A n cap xs) (hg : Blk w g t cs) (hne : e ≠ t) : ∀ i ∈ ob A, i ≠ g := by
  rcases h.2 with ⟨rfl, _⟩ | ⟨g', cur, rfl, hb, _⟩
  · simp [ob]
  · intro i hi; simp [ob] at hi; subst hi; exact hb.ne_ hg hne
theorem ne_row {e' : TypeId} {sz' n' cap' : Nat} {A' : Option Addr} {xs' : List Value} (h : Row w e sz A n cap xs) (h' : Row w e' sz' A' n' cap' xs') (hne : e ≠ e') : ∀ i ∈ ob A, ∀ j ∈ ob A', i ≠ j := by
  rcases h'.2 with ⟨rfl, _⟩ | ⟨g', cur, rfl, hb, _⟩
  · simp [ob]
  · intro i hi j hj; simp [ob] at hj; subst hj; exact h.ne_blk hb hne i hi
/-- The same slice cut to 'x[:k]'. -/
theorem take {k : Nat} (h : Row w e sz A n cap xs) (hk : k ≤ n) : Row w e sz A k cap (xs.take (k * sz)) := by
  have hks : k * sz ≤ n * sz := Nat.mul_le_mul_right _ hk
  refine ⟨by rw [List.length_take, h.1]; exact Nat.min_eq_left hks, ?_⟩
  rcases h.2 with ⟨h1, h2, h3⟩ | ⟨g, cur, rfl, hb, h1, h2, h3, ht⟩
  · exact .inl ⟨h1, by omega, h3⟩
  · refine .inr ⟨g, cur, rfl, hb, by omega, h2, h3, ?_⟩
    rw [← ht, List.take_take, Nat.min_eq_left hks]
/-- The same slice cut to 'x[:k:k]'. -/
theorem take3 {k : Nat} (h : Row w e sz A n cap xs) (hk : k ≤ n) : Row w e sz A k k (xs.take (k * sz)) := by
  have hks : k * sz ≤ n * sz := Nat.mul_le_mul_right _ hk
  refine ⟨by rw [List.length_take, h.1]; exact Nat.min_eq_left hks, ?_⟩
  rcases h.2 with ⟨h1, h2, h3⟩ | ⟨g, cur, rfl, hb, h1, h2, h3, ht⟩
  · exact .inl ⟨h1, by omega, by omega⟩
  · refine .inr ⟨g, cur, rfl, hb, by omega, Nat.le_trans (Nat.mul_le_mul_right _ (by omega)) h2, by omega, ?_⟩
    rw [← ht, List.take_take, Nat.min_eq_left hks]
/-- One cell stored. -/
theorem set_ {g k : Nat} (h : Row w e sz (some ⟨g, 0, none⟩) n cap xs) (_hk : k < n * sz) (u : Value) : Row (w.setCell ⟨g, k, none⟩ u) e sz (some ⟨g, 0, none⟩) n cap (xs.set k u) := by
  refine ⟨by simpa using h.1, ?_⟩
  rcases h.2 with ⟨h1, _, _⟩ | ⟨g', cur, hA, hb, h1, h2, h3, ht⟩
  · cases h1
  · obtain rfl : g = g' := by injection hA with hA; injection hA
    refine .inr ⟨g, _, rfl, hb.set_ k u, h1, by simpa using h2, h3, ?_⟩
    rw [← ht, Array.toList_setIfInBounds, List.take_set]
theorem blk (h : Row w e sz A n cap xs) (hn : 0 < n) : ∃ g cur, A = some ⟨g, 0, none⟩ ∧ Blk w g e cur ∧ n ≤ cap ∧ cap * sz ≤ cur.size ∧ cur.toList.take (n * sz) = xs := by
  rcases h.2 with ⟨_, h1, _⟩ | ⟨g, cur, hA, hb, h1, h2, _, ht⟩
  · omega
  · exact ⟨g, cur, hA, hb, h1, h2, ht⟩
end Row

/-! ### append -/
/-- Where the slice lies behind an append: where it lay (there was room), or in a new block. -/
def Grew (w : World) (A : Option Addr) (n cap m : Nat) (A' : Option Addr) (cap' : Nat) : Prop :=
  (A' = A ∧ cap' = cap ∧ n + m ≤ cap) ∨ (A' = some ⟨w.heap.size, 0, none⟩ ∧ cap < n + m)
theorem Grew.at_ {w : World} {A A' : Option Addr} {n cap m cap' : Nat} (h : Grew w A n cap m A' cap') : A' = A ∨ A' = some ⟨w.heap.size, 0, none⟩ := h.elim (fun h => .inl h.1) (fun h => .inr h.1)
theorem Grew.new {w : World} {A A' : Option Addr} {n cap m cap' : Nat} (h : Grew w A n cap m A' cap') (hlt : cap < n + m) : A' = some ⟨w.heap.size, 0, none⟩ :=
  h.elim (fun h => by omega) (fun h => h.1)
theorem Grew.room {w : World} {A A' : Option Addr} {n cap m cap' : Nat} (h : Grew w A n cap m A' cap') (hle : n + m ≤ cap) : A' = A ∧ cap' = cap :=
  h.elim (fun h => ⟨h.1, h.2.1⟩) (fun h => by omega)
theorem Grew.ob_ {w : World} {A A' : Option Addr} {n cap m cap' : Nat} (h : Grew w A n cap m A' cap') : ∀ i ∈ ob A', i ∈ ob A ∨ w.heap.size ≤ i := by
  intro i hi
  rcases h.at_ with rfl | rfl
  · exact .inl hi
  · simp [ob] at hi; omega

section
variable {P : Program} (w : World)

/-- 'append(s, x...)': s nil or at the head of a row, x whatever reads. It grows by the tape, or writes behind s's length. -/
theorem run_append_row (t ty e : TypeId) (i : TypeInfo) (z : Value) (sz bytes : Nat) (ht : P.underlying t = some (.slice e)) (hi : P.info? e = some i) (hz : i.zero = some z)
    (hsize : i.size = sz) (hby : i.bytes = bytes) (hzs : z.cells.size = sz)
    (A : Option Addr) (n cap : Nat) (xs : List Value) (hrow : Row w e sz A n cap xs) (B : Option Addr) (m c : Nat) (news : List Value) (hr : Reads w sz B m news) (h1 : ∀ u ∈ news, u.oneCell' = true)
    (h63 : n + m ≤ maxLen) (hb : cap < n + m → Builtin.nextslicecap (n + m) cap * bytes ≤ 281474976710656) :
    ∃ A' cap' w', (Builtin.append_ #[t, t] ty #[.slice A n cap, .slice B m c]).run P w = .ok (.slice A' (n + m) cap') w' ∧ Row w' e sz A' (n + m) cap' (xs ++ news) ∧ Chg (ob A) w w' ∧ Grew w A n cap m A' cap' := by
  subst hsize
  subst hby
  have hsmall : n + m ≤ 9223372036854775807 := by simp only [maxLen] at h63; omega
  have hlen : (xs ++ news).length = (n + m) * i.size := by rw [List.length_append, hrow.1, hr.1, Nat.add_mul]
  by_cases hm : m = 0
  · subst hm
    have hn0 : news = [] := List.eq_nil_of_length_eq_zero (by simpa using hr.1)
    subst hn0
    have hcap := hrow.le
    refine ⟨A, cap, w, ?_, by simpa using hrow, Chg.refl _ _, .inl ⟨rfl, rfl, hcap⟩⟩
    have hl0 : ∀ (x : Addr), (loadCells x 0).run P w = .ok #[] w := fun x => by simpa using run_loadCells_list (P := P) w x [] (by simp)
    rcases A with _ | a <;> rcases B with _ | b <;> simp [Builtin.append_, run_underlying ht, sizeOf, typeInfo, hi, Builtin.lenOf, Builtin.firstCells, hcap, storeCells, hl0]
  · obtain ⟨ad, rfl, hcells⟩ := hr.2 (by omega)
    have grown : ∀ (old : Nat), old < n + m →
        Row (w.drew.alloc (.cells (xs.toArray ++ news.toArray ++ Builtin.zeroCells z.cells (grownCap w (n + m) old e - (n + m))) e)) e i.size (some ⟨w.heap.size, 0, none⟩) (n + m) (grownCap w (n + m) old e) (xs ++ news) := by
      intro old ho
      have hge := grownCap_ge w (n + m) old e
      have hcm : grownCap w (n + m) old e ≤ maxLen := grownCap_le_maxLen w (n + m) old e h63
      refine ⟨hlen, .inr ⟨w.heap.size, _, rfl, heap_alloc_new w.drew _, hge, ?_, hcm, ?_⟩⟩
      · simp only [Array.size_append, List.size_toArray, size_zeroCells, hzs, hrow.1, hr.1, ← Nat.add_mul]
        exact Nat.le_of_eq (by congr 1; omega)
      · simp only [Array.toList_append, List.append_assoc]
        rw [← List.append_assoc, ← hlen]
        exact List.take_left
    rcases hrow.2 with ⟨rfl, rfl, rfl⟩ | ⟨g, cur, rfl, hg, hnc, hcs, hcm, htake⟩
    · have hx : xs = [] := List.eq_nil_of_length_eq_zero (by simpa using hrow.1)
      subst hx
      have hnb : Builtin.nextslicecap m 0 = m := nextslicecap_zero (by omega)
      have hb' := hb (by omega)
      simp only [Nat.zero_add, hnb] at hb'
      have hrn := run_append_nil (P := P) w t ty e i z ht hi hz ad m c news hr.1 hcells (by omega) (by omega) hb'
      have hgr := grown 0 (by omega)
      simp only [Nat.zero_add, List.nil_append, Array.empty_append] at hgr ⊢
      exact ⟨_, _, _, hrn, hgr, ((Chg.refl _ w).drew).alloc _, .inr ⟨rfl, by omega⟩⟩
    · by_cases hroom : n + m ≤ cap
      · have hfit : n * i.size + news.length ≤ cur.size := by rw [hr.1, ← Nat.add_mul]; exact Nat.le_trans (Nat.mul_le_mul_right _ hroom) hcs
        have hrn := run_append_room (P := P) w t ty e i ht hi g n cap cur hg ad m c news hr.1 hcells h1 hroom hfit
        refine ⟨_, _, _, hrn, ⟨hlen, .inr ⟨g, _, rfl, setRow_heap w g cur _ e _ hg, hroom, ?_, hcm, ?_⟩⟩, (Chg.refl _ w).setRow (.inl (by simp [ob])) _, .inl ⟨rfl, rfl, hroom⟩⟩
        · simp only [List.size_toArray, List.length_append, List.length_take, List.length_drop, Array.length_toList]
          omega
        · rw [htake, ← hlen]
          exact List.take_left
      · have holds : ∀ j u, xs[j]? = some u → w.cell? ((⟨g, 0, none⟩ : Addr).add j) = some u := by
          intro j u hu
          rw [add_head, hg.cell]
          rw [← htake, List.getElem?_take] at hu
          split at hu
          · simpa using hu
          · cases hu
        have hrn := run_append_grow (P := P) w t ty e i z ht hi hz ⟨g, 0, none⟩ n cap xs hrow.1 holds ad m c news hr.1 hcells (by omega) (by omega) (hb (by omega))
        exact ⟨_, _, _, hrn, grown cap (by omega), ((Chg.refl _ w).drew).alloc _, .inr ⟨rfl, by omega⟩⟩

theorem grow_ok {need old bytes : Nat} (h : need * bytes ≤ 140737488355328) : old < need → Builtin.nextslicecap need old * bytes ≤ 281474976710656 := fun ho => growslice_fits ho h

theorem wpList_append_row {ops : Array Oper} {rest : List Oper} {o : Oper} {a : Act} {Q : Exit → Act → World → Prop} (hgd : o.guard = none) (s x : Operand) (t : TypeId)
    (ho : o.op = .call { callee := .builtin .append, args := #[s, x], argTypes := #[t, t] })
    (e : TypeId) (i : TypeInfo) (z : Value) (sz bytes : Nat) (ht : P.underlying t = some (.slice e)) (hi : P.info? e = some i) (hz : i.zero = some z)
    (hsize : i.size = sz) (hby : i.bytes = bytes) (hzs : z.cells.size = sz)
    (A : Option Addr) (n cap : Nat) (xs : List Value) (hs : a.eval s = .slice A n cap) (hrow : Row w e sz A n cap xs) (B : Option Addr) (m c : Nat) (news : List Value) (hx : a.eval x = .slice B m c) (hr : Reads w sz B m news) (h1 : ∀ u ∈ news, u.oneCell' = true)
    (h63 : n + m ≤ maxLen) (hb : cap < n + m → Builtin.nextslicecap (n + m) cap * bytes ≤ 281474976710656)
    (h : ∀ A' cap' w', Row w' e sz A' (n + m) cap' (xs ++ news) → Chg (ob A) w w' → Grew w A n cap m A' cap' → wpList P ops Q rest (a.put o.dst (.slice A' (n + m) cap')) w') : wpList P ops Q (o :: rest) a w :=
  wpList_plain hgd fun _ hK => by
    obtain ⟨A', cap', w', hrun, h2, h3, h4⟩ := run_append_row (P := P) w t o.type e i z sz bytes ht hi hz hsize hby hzs A n cap xs hrow B m c news hr h1 h63 hb
    unfold Oper.wp execOp
    simp only [ho, resolve, invoke, builtin, Sem.run_bind, Sem.run_pure, Result.andThen_ok, List.map_toArray, List.map_cons, List.map_nil, hs, hx, hrun]
    exact hK _ _ (h A' cap' w' h2 h3 h4)

/-- The same as one step of a region that draws its order. -/
theorem step_append_row {ops : Array Oper} {o : Oper} {a : Act} {K : Act → World → Prop} {Q : Exit → Act → World → Prop} {E : Prop} (hgd : o.guard = none) (s x : Operand) (t : TypeId)
    (ho : o.op = .call { callee := .builtin .append, args := #[s, x], argTypes := #[t, t] })
    (e : TypeId) (i : TypeInfo) (z : Value) (sz bytes : Nat) (ht : P.underlying t = some (.slice e)) (hi : P.info? e = some i) (hz : i.zero = some z)
    (hsize : i.size = sz) (hby : i.bytes = bytes) (hzs : z.cells.size = sz)
    (A : Option Addr) (n cap : Nat) (xs : List Value) (hs : a.eval s = .slice A n cap) (hrow : Row w e sz A n cap xs) (B : Option Addr) (m c : Nat) (news : List Value) (hx : a.eval x = .slice B m c) (hr : Reads w sz B m news) (h1 : ∀ u ∈ news, u.oneCell' = true)
    (h63 : n + m ≤ maxLen) (hb : cap < n + m → Builtin.nextslicecap (n + m) cap * bytes ≤ 281474976710656)
    (h : ∀ A' cap' w', Row w' e sz A' (n + m) cap' (xs ++ news) → Chg (ob A) w w' → Grew w A n cap m A' cap' → K (a.put o.dst (.slice A' (n + m) cap')) w') :
    if Region.wanted o (yielded ops a.tmps) = true then Oper.wp P o a w K Q else E := by
  have hw : Region.wanted o (yielded ops a.tmps) = true := by simp [Region.wanted, hgd]
  rw [if_pos hw]
  obtain ⟨A', cap', w', hrun, h2, h3, h4⟩ := run_append_row (P := P) w t o.type e i z sz bytes ht hi hz hsize hby hzs A n cap xs hrow B m c news hr h1 h63 hb
  unfold Oper.wp execOp
  simp only [ho, resolve, invoke, builtin, Sem.run_bind, Sem.run_pure, Result.andThen_ok, List.map_toArray, List.map_cons, List.map_nil, hs, hx, hrun]
  exact h A' cap' w' h2 h3 h4

/-! ### a struct loaded -/
theorem run_load_cells (ty : TypeId) (ad : Addr) (cs : List Value) (hc : ∀ j v, cs[j]? = some v → w.cell? (ad.add j) = some v) (d : TypeDesc)
    (hu : P.underlying ty = some d) (hd : (match d with | .struct _ | .array _ _ => true | _ => false) = true) (hi : (P.info? ty).map (·.size) = some cs.length) : (loadVar ty ad).run P w = .ok (.agg cs.toArray) w := by
  have hl := run_loadCells_list (P := P) w ad cs hc
  cases hq : P.info? ty with
  | none => simp [hq] at hi
  | some i =>
    have hs : i.size = cs.length := by simpa [hq] using hi
    have hagg : (isAgg ty).run P w = .ok true w := by
      unfold isAgg
      rw [Sem.run_bind, run_underlying hu w]
      cases d <;> simp_all
    simp [loadVar, Sem.run_bind, hagg, sizeOf, typeInfo, hq, hs, hl]

/-- 'x := xs[i]' of a struct: its cells, wherever they lie. -/
theorem wpList_load_cells {ops : Array Oper} {rest : List Oper} {o : Oper} {a : Act} {Q : Exit → Act → World → Prop} (hgd : o.guard = none) (ty : TypeId) (x : Operand) (ho : o.op = .load ty x)
    (ad : Addr) (hx : a.eval x = .pointer (some ad)) (cs : List Value) (hc : ∀ j v, cs[j]? = some v → w.cell? (ad.add j) = some v) (d : TypeDesc)
    (hu : P.underlying ty = some d) (hd : (match d with | .struct _ | .array _ _ => true | _ => false) = true) (hi : (P.info? ty).map (·.size) = some cs.length)
    (h : wpList P ops Q rest (a.put o.dst (.agg cs.toArray)) w) : wpList P ops Q (o :: rest) a w :=
  wpList_plain hgd fun _ hK => by
    unfold Oper.wp execOp
    simp only [ho, hx, Instr.loadAt, Instr.sureAddr, Sem.run_bind, Sem.run_pure, Result.andThen_ok, run_load_cells w ty ad cs hc d hu hd hi]
    exact hK _ _ h

/-! ### make -/
theorem made_one (z : Value) (n : Nat) : (madeCells #[z] n).toList = List.replicate n z := by
  apply List.ext_getElem
  · simp [madeCells]
  · intro k h1 h2
    simp [madeCells, Nat.mod_one]

theorem row_made (w : World) (e : TypeId) (sz n cap : Nat) (cur : Array Value) (hnc : n ≤ cap) (hs : cur.size = cap * sz) (hm : cap ≤ maxLen) :
    Row (w.alloc (.cells cur e)) e sz (some ⟨w.heap.size, 0, none⟩) n cap (cur.toList.take (n * sz)) := by
  refine ⟨?_, .inr ⟨w.heap.size, cur, rfl, heap_alloc_new w _, hnc, by omega, hm, rfl⟩⟩
  have := Nat.mul_le_mul_right sz hnc
  rw [List.length_take, Array.length_toList, hs]
  exact Nat.min_eq_left this

/-- 'make([]T, l, c)'. -/
theorem wpList_make_row {ops : Array Oper} {rest : List Oper} {o : Oper} {a : Act} {Q : Exit → Act → World → Prop}
    (hg : o.guard = none) (lo co : Operand) (t : TypeId) (hop : o.op = Op.makeSlice t lo co)
    (e : TypeId) (i : TypeInfo) (z : Value) (sz bytes : Nat) (ht : P.underlying t = some (.slice e)) (hi : P.info? e = some i) (hz : i.zero = some z) (hsize : i.size = sz) (hby : i.bytes = bytes)
    (kl kc : IntKind) (L C : Int) (n c : Nat) (hl : a.eval lo = .int kl L) (hc : a.eval co = .int kc C) (hL : L = (n : Int)) (hC : C = (c : Int)) (hnc : n ≤ c) (b2 : bytes * c ≤ 281474976710656) (b3 : c ≤ maxLen)
    (hK : ∀ w', Row w' e sz (some ⟨w.heap.size, 0, none⟩) n c ((madeCells z.cells (c * sz)).toList.take (n * sz)) → Chg [] w w' → w.heap.size < w'.heap.size →
      wpList P ops Q rest (a.put o.dst (.slice (some ⟨w.heap.size, 0, none⟩) n c)) w') :
    wpList P ops Q (o :: rest) a w := by
  refine wpList_plain hg fun K hK' => ?_
  subst hL hC hsize hby
  have h63 : (c : Int) ≤ 9223372036854775807 := by simp only [maxLen] at b3; omega
  have hb : (i.bytes : Int) * (c : Int) ≤ 281474976710656 := by
    have h : ((i.bytes * c : Nat) : Int) ≤ 281474976710656 := by omega
    rwa [Int.natCast_mul] at h
  have hr := run_make (P := P) w t e i z ht hi hz kl kc n c (by omega) (by omega) hb h63
  simp only [Int.toNat_natCast] at hr
  unfold Oper.wp
  simp [execOp, hop, hl, hc, hr, Result.andThen]
  exact hK' _ _ (hK _ (row_made w e _ n c _ hnc (size_madeCells _ _) b3) ((Chg.refl _ _).alloc _) (by simp))

/-! ### copy -/
/-- 'copy(dst, src)' over the whole of a row of its own: src as long as dst. -/
theorem wpList_copy_row {ops : Array Oper} {rest : List Oper} {o : Oper} {a : Act} {Q : Exit → Act → World → Prop} (hgd : o.guard = none) (d s : Operand) (dT sT : TypeId)
    (ho : o.op = .call { callee := .builtin .copy, args := #[d, s], argTypes := #[dT, sT] }) (e : TypeId) (hu : P.underlying dT = some (.slice e)) (hsz : (P.info? e).map (·.size) = some 1)
    (A B : Option Addr) (n cap m c : Nat) (hd : a.eval d = .slice A n cap) (hs : a.eval s = .slice B m c) (hnm : m = n)
    (xs ys : List Value) (hrow : Row w e 1 A n cap xs) (hr : Reads w 1 B m ys) (h1 : ∀ u ∈ ys, u.oneCell' = true)
    (h : ∀ w', Row w' e 1 A n cap ys → Chg (ob A) w w' → wpList P ops Q rest (a.put o.dst (goInt n)) w') :
    wpList P ops Q (o :: rest) a w := by
  subst hnm
  by_cases h0 : m = 0
  · subst h0
    have hys : ys = [] := List.eq_nil_of_length_eq_zero (by simpa using hr.1)
    have hxs : xs = [] := List.eq_nil_of_length_eq_zero (by simpa using hrow.1)
    subst hys hxs
    exact wpList_copy_nothing hgd d s dT sT ho e hu hsz _ _ _ _ _ _ hd hs (by simp) (h w hrow (Chg.refl _ _))
  · obtain ⟨g, cur, rfl, hb, hnc, hcs, ht⟩ := hrow.blk (by omega)
    obtain ⟨ad, rfl, hcell⟩ := hr.2 (by omega)
    have hl : ys.length = m := by have := hr.1; omega
    have key := wpList_copy_own (w := w) hgd d s dT sT ho e hu hsz g 0 m cap ad m c hd hs cur e hb ys (by simp [hl]) hcell (by simp; omega) h1 (Q := Q) (ops := ops) (rest := rest)
    refine key ?_
    rw [hl]
    refine h _ ⟨by omega, .inr ⟨g, _, rfl, setRow_heap w g cur _ e _ hb, hnc, ?_, hrow.cap_le, ?_⟩⟩ ((Chg.refl _ w).setRow (.inl (by simp [ob])) _)
    · simp [hl]; omega
    · simp [hl]
end
end Go.Proofs.YtgockfjhokocbaaGreatDoor
