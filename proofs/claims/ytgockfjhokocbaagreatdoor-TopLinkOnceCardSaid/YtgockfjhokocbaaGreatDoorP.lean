/-
  PROVED: an outbox as plain numbers and lists: what each call makes of it.
-/
import Derived.Test.YtgockfjhokocbaaGreatDoorMem2
namespace Go.Proofs.YtgockfjhokocbaaGreatDoor
open Go.RowKit

/-- What an outbox holds: up to which number all are acknowledged, the greatest number ever due, and the things that are left. -/
structure St where
  a : Nat
  s : Nat
  xs : List Int

def St.Ok (t : St) : Prop := t.a ≤ t.s ∧ t.s ≤ t.a + t.xs.length ∧ t.a + t.xs.length ≤ 4096
def St.new : St := ⟨0, 0, []⟩
def St.last (t : St) : Nat := t.a + t.xs.length
/-- Push: the number and the error, and what it holds then. -/
def St.push (t : St) (x : Int) : Int × Int × St := if t.last = 4096 then (0, 81, t) else (t.last + 1, 0, ⟨t.a, t.s, t.xs ++ [x]⟩)
def St.ack (t : St) (n : Int) : Int × St :=
  if n < 0 ∨ (t.s : Int) < n then (82, t) else if n ≤ t.a then (0, t) else (0, ⟨n.toNat, t.s, t.xs.drop (n.toNat - t.a)⟩)
def St.due (t : St) (win : Nat) : St := ⟨t.a, max t.s (t.a + min win t.xs.length), t.xs⟩
/-- Numbered from k on. -/
def items (k : Nat) : List Int → List (Int × Int)
  | [] => []
  | x :: xs => ((k : Int), x) :: items (k + 1) xs
theorem items_length (k : Nat) (xs : List Int) : (items k xs).length = xs.length := by
  induction xs generalizing k with
  | nil => rfl
  | cons x xs ih => simp [items, ih]
theorem items_get (k i : Nat) (xs : List Int) (h : i < xs.length) : (items k xs)[i]? = some (((k + i : Nat) : Int), xs[i]) := by
  induction xs generalizing k i with
  | nil => simp at h
  | cons x xs ih =>
    cases i with
    | zero => simp [items]
    | succ i =>
      simp only [List.length_cons] at h
      simp only [items, List.getElem?_cons_succ, List.getElem_cons_succ]
      rw [ih (k + 1) i (by omega)]
      have : k + 1 + i = k + (i + 1) := by omega
      rw [this]
theorem items_snoc (k i : Nat) (xs : List Int) (h : i < xs.length) : items k (xs.take (i + 1)) = items k (xs.take i) ++ [(((k + i : Nat) : Int), xs[i])] := by
  induction xs generalizing k i with
  | nil => simp at h
  | cons x xs ih =>
    cases i with
    | zero => simp [items]
    | succ i =>
      simp only [List.length_cons] at h
      simp only [List.take_succ_cons, items, List.getElem_cons_succ, List.cons_append]
      rw [ih (k + 1) i (by omega)]
      have : k + 1 + i = k + (i + 1) := by omega
      rw [this]

theorem St.new_ok : St.new.Ok := ⟨Nat.le_refl _, Nat.le_refl _, by simp [St.new]⟩
theorem St.push_ok {t : St} (h : t.Ok) (x : Int) : (t.push x).2.2.Ok := by
  unfold St.push
  obtain ⟨h1, h2, h3⟩ := h
  split
  · exact ⟨h1, h2, h3⟩
  · rename_i hn
    unfold St.last at hn
    exact ⟨h1, by simp; omega, by simp; omega⟩
theorem St.ack_ok {t : St} (h : t.Ok) (n : Int) : (t.ack n).2.Ok := by
  unfold St.ack
  obtain ⟨h1, h2, h3⟩ := h
  split
  · exact ⟨h1, h2, h3⟩
  · split
    · exact ⟨h1, h2, h3⟩
    · exact ⟨by simp; omega, by simp; omega, by simp; omega⟩
theorem St.due_ok {t : St} (h : t.Ok) (win : Nat) : (t.due win).Ok := by
  obtain ⟨h1, h2, h3⟩ := h
  refine ⟨?_, ?_, h3⟩
  · simp only [St.due]; omega
  · simp only [St.due]; omega

/-- The cells of things that have 'c n' each. -/
def ev (c : Int → List Value) (xs : List Int) : List Value := xs.flatMap c
theorem ev_length {c : Int → List Value} {sz : Nat} (hc : ∀ n, (c n).length = sz) (xs : List Int) : (ev c xs).length = xs.length * sz := by
  induction xs with
  | nil => simp [ev]
  | cons x xs ih =>
    unfold ev at ih ⊢
    rw [List.flatMap_cons, List.length_append, ih, hc, List.length_cons, Nat.add_mul, Nat.one_mul, Nat.add_comm]
theorem ev_append (c : Int → List Value) (xs ys : List Int) : ev c (xs ++ ys) = ev c xs ++ ev c ys := by simp [ev]
theorem ev_take {c : Int → List Value} {sz : Nat} (hc : ∀ n, (c n).length = sz) (xs : List Int) (k : Nat) : (ev c xs).take (k * sz) = ev c (xs.take k) := by
  by_cases hk : k ≤ xs.length
  · have e : xs = xs.take k ++ xs.drop k := (List.take_append_drop k xs).symm
    have hl : (ev c (xs.take k)).length = k * sz := by rw [ev_length hc, List.length_take, Nat.min_eq_left hk]
    conv => lhs; rw [e]
    rw [ev_append, ← hl, List.take_left]
  · have h1 : xs.take k = xs := List.take_of_length_le (by omega)
    rw [h1]
    exact List.take_of_length_le (by rw [ev_length hc]; exact Nat.mul_le_mul_right _ (by omega))
theorem ev_drop {c : Int → List Value} {sz : Nat} (hc : ∀ n, (c n).length = sz) (xs : List Int) (k : Nat) : (ev c xs).drop (k * sz) = ev c (xs.drop k) := by
  by_cases hk : k ≤ xs.length
  · have e : xs = xs.take k ++ xs.drop k := (List.take_append_drop k xs).symm
    have hl : (ev c (xs.take k)).length = k * sz := by rw [ev_length hc, List.length_take, Nat.min_eq_left hk]
    conv => lhs; rw [e]
    rw [ev_append, ← hl, List.drop_left]
  · have h1 : xs.drop k = [] := List.drop_eq_nil_of_le (by omega)
    rw [h1]
    exact List.drop_eq_nil_of_le (by rw [ev_length hc]; exact Nat.mul_le_mul_right _ (by omega))
/-- The cells of thing k. -/
theorem ev_get {c : Int → List Value} {sz : Nat} (hc : ∀ n, (c n).length = sz) {xs : List Int} {k : Nat} (hk : k < xs.length) {j : Nat} {u : Value} (hu : (c xs[k])[j]? = some u) : (ev c xs)[k * sz + j]? = some u := by
  have h1 : (ev c xs).drop (k * sz) = ev c (xs.drop k) := ev_drop hc xs k
  have h2 : (ev c xs)[k * sz + j]? = ((ev c xs).drop (k * sz))[j]? := by rw [List.getElem?_drop]
  rw [h2, h1, List.drop_eq_getElem_cons hk]
  unfold ev
  rw [List.flatMap_cons, List.getElem?_append_left (by
    obtain ⟨hj, _⟩ := List.getElem?_eq_some_iff.1 hu
    exact hj)]
  exact hu

/-- The cells of numbered things. -/
def itv (c : Int → List Value) (l : List (Int × Int)) : List Value := l.flatMap fun p => .int .i64 p.1 :: c p.2
theorem itv_append (c : Int → List Value) (l m : List (Int × Int)) : itv c (l ++ m) = itv c l ++ itv c m := by simp [itv]
theorem itv_one (c : Int → List Value) (p : Int × Int) : itv c [p] = .int .i64 p.1 :: c p.2 := by simp [itv]
theorem itv_length {c : Int → List Value} {sz : Nat} (hc : ∀ n, (c n).length = sz) (l : List (Int × Int)) : (itv c l).length = l.length * (sz + 1) := by
  induction l with
  | nil => simp [itv]
  | cons x xs ih =>
    unfold itv at ih ⊢
    rw [List.flatMap_cons, List.length_append, ih, List.length_cons, List.length_cons, hc, Nat.add_mul, Nat.one_mul, Nat.add_comm]
theorem itv_get {c : Int → List Value} {sz : Nat} (hc : ∀ n, (c n).length = sz) {l : List (Int × Int)} {k : Nat} (hk : k < l.length) {j : Nat} {u : Value} (hu : (Value.int .i64 (l[k]).1 :: c (l[k]).2)[j]? = some u) : (itv c l)[k * (sz + 1) + j]? = some u := by
  induction l generalizing k with
  | nil => simp at hk
  | cons x xs ih =>
    unfold itv at ih ⊢
    rw [List.flatMap_cons]
    have hl : (Value.int .i64 x.1 :: c x.2).length = sz + 1 := by rw [List.length_cons, hc]
    cases k with
    | zero =>
      rw [Nat.zero_mul, Nat.zero_add, List.getElem?_append_left (by
        obtain ⟨hj, _⟩ := List.getElem?_eq_some_iff.1 hu
        exact hj)]
      exact hu
    | succ k =>
      rw [List.getElem?_append_right (by rw [hl, Nat.add_mul]; omega), hl, show (k + 1) * (sz + 1) + j - (sz + 1) = k * (sz + 1) + j by rw [Nat.add_mul]; omega]
      exact ih (by simpa using hk) hu

/-- A new block reads. -/
theorem built_reads' (w : World) (e : TypeId) (us : List Value) (m sz : Nat) (hl : us.length = m * sz) : Reads (w.alloc (.cells us.toArray e)) sz (some ⟨w.heap.size, 0, none⟩) m us := by
  refine ⟨hl, fun _ => ⟨_, rfl, fun j u hu => ?_⟩⟩
  rw [add_head, (Blk.new w e us.toArray).cell]
  simpa using hu

end Go.Proofs.YtgockfjhokocbaaGreatDoor
