/-
  PROVED: words for a map keyed by ints that the call itself has made, over any program: 'MapAt' (block b is a map that holds just the pairs of a rising list), and the laws on look-up, store, delete and len in these words.
  No condition beyond what each theorem names.
-/
import Derived.Test.YtgockfjhokocbaaGreatDoorMem2
import Derived.Maps.OwnSet
namespace Go.Proofs.YtgockfjhokocbaaGreatDoor
open Go.RowKit Go.Maps

def hv (v : Value) : Option (DataW Value × List MemPlace) := some (.held v, [])
def ent (p : Nat × Value) : Lit × DataW Value := (.int .i64 p.1, .held p.2)
/-- Rising, and each key an int. -/
def Rising (l : List (Nat × Value)) : Prop := l.Pairwise (fun p q => p.1 < q.1) ∧ ∀ p ∈ l, p.1 ≤ 9223372036854775807

def ins (k : Nat) (v : Value) : List (Nat × Value) → List (Nat × Value)
  | [] => [(k, v)]
  | p :: r => if p.1 < k then p :: ins k v r else if p.1 = k then (k, v) :: r else (k, v) :: p :: r
def del (k : Nat) (l : List (Nat × Value)) : List (Nat × Value) := l.filter (fun p => p.1 != k)
def get (k : Nat) (l : List (Nat × Value)) : Option Value := (l.find? (fun p => p.1 == k)).map (·.2)

theorem Rising.nil : Rising [] := ⟨List.Pairwise.nil, by simp⟩
theorem Rising.tail {p : Nat × Value} {r : List (Nat × Value)} (h : Rising (p :: r)) : Rising r := ⟨(List.pairwise_cons.1 h.1).2, fun q hq => h.2 q (by simp [hq])⟩
theorem Rising.head {p : Nat × Value} {r : List (Nat × Value)} (h : Rising (p :: r)) : ∀ q ∈ r, p.1 < q.1 := (List.pairwise_cons.1 h.1).1

theorem mem_ins {k : Nat} {v : Value} {l : List (Nat × Value)} (h : Rising l) (p : Nat × Value) : p ∈ ins k v l ↔ p = (k, v) ∨ (p ∈ l ∧ p.1 ≠ k) := by
  induction l with
  | nil => simp [ins]
  | cons q r ih =>
    have ih := ih h.tail
    have hd := h.head
    unfold ins
    split
    · rename_i hlt
      simp only [List.mem_cons, ih]
      constructor
      · rintro (rfl | h1 | h1)
        · exact .inr ⟨.inl rfl, by omega⟩
        · exact .inl h1
        · exact .inr ⟨.inr h1.1, h1.2⟩
      · rintro (h1 | ⟨rfl | h1, h2⟩)
        · exact .inr (.inl h1)
        · exact .inl rfl
        · exact .inr (.inr ⟨h1, h2⟩)
    · split
      · rename_i hlt heq
        simp only [List.mem_cons]
        constructor
        · rintro (h1 | h1)
          · exact .inl h1
          · exact .inr ⟨.inr h1, by have := hd p h1; omega⟩
        · rintro (h1 | ⟨rfl | h1, h2⟩)
          · exact .inl h1
          · exact absurd heq h2
          · exact .inr h1
      · rename_i hlt heq
        simp only [List.mem_cons]
        constructor
        · rintro (h1 | rfl | h1)
          · exact .inl h1
          · exact .inr ⟨.inl rfl, heq⟩
          · exact .inr ⟨.inr h1, by have := hd p h1; omega⟩
        · rintro (h1 | ⟨rfl | h1, h2⟩)
          · exact .inl h1
          · exact .inr (.inl rfl)
          · exact .inr (.inr h1)

theorem Rising.ins {k : Nat} {v : Value} {l : List (Nat × Value)} (h : Rising l) (hk : k ≤ 9223372036854775807) : Rising (ins k v l) := by
  refine ⟨?_, fun p hp => ?_⟩
  · induction l with
    | nil => exact List.pairwise_singleton _ _
    | cons q r ih =>
      have ih := ih h.tail
      have hd := h.head
      unfold YtgockfjhokocbaaGreatDoor.ins
      split
      · rename_i hlt
        refine List.pairwise_cons.2 ⟨fun p hp => ?_, ih⟩
        rcases (mem_ins h.tail p).1 hp with rfl | ⟨h1, _⟩
        · exact hlt
        · exact hd p h1
      · split
        · rename_i hlt heq
          refine List.pairwise_cons.2 ⟨fun p hp => ?_, h.tail.1⟩
          have := hd p hp
          simp only; omega
        · rename_i hlt heq
          refine List.pairwise_cons.2 ⟨fun p hp => ?_, h.1⟩
          rcases List.mem_cons.1 hp with rfl | hp
          · simp only; omega
          · have := hd p hp; simp only; omega
  · rcases (mem_ins h p).1 hp with rfl | ⟨h1, _⟩
    · exact hk
    · exact h.2 p h1

theorem del_cons {k : Nat} {p : Nat × Value} (r : List (Nat × Value)) (h : p.1 ≠ k) : del k (p :: r) = p :: del k r := by
  unfold del
  rw [List.filter_cons_of_pos (by simpa using h)]
theorem mem_del {k : Nat} {l : List (Nat × Value)} (p : Nat × Value) : p ∈ del k l ↔ p ∈ l ∧ p.1 ≠ k := by simp [del]
theorem Rising.del {k : Nat} {l : List (Nat × Value)} (h : Rising l) : Rising (del k l) := ⟨h.1.filter _, fun p hp => h.2 p ((mem_del p).1 hp).1⟩

theorem get_some {k : Nat} {v : Value} {l : List (Nat × Value)} (h : Rising l) : get k l = some v ↔ (k, v) ∈ l := by
  induction l with
  | nil => simp [get]
  | cons q r ih =>
    have ih := ih h.tail
    have hd := h.head
    unfold get at ih ⊢
    by_cases hq : q.1 = k
    · rw [List.find?_cons_of_pos (by simpa using hq)]
      simp only [Option.map_some, Option.some.injEq, List.mem_cons]
      constructor
      · rintro rfl
        exact .inl (by rw [← hq])
      · rintro (rfl | h1)
        · rfl
        · have := hd _ h1; simp only at this; omega
    · rw [List.find?_cons_of_neg (by simpa using hq), ih]
      simp only [List.mem_cons]
      constructor
      · exact .inr
      · rintro (rfl | h1)
        · exact absurd rfl hq
        · exact h1
theorem get_none {k : Nat} {l : List (Nat × Value)} : get k l = none ↔ ∀ p ∈ l, p.1 ≠ k := by
  simp [get, List.find?_eq_none]

/-! ### the readings -/
theorem before_int (a b : Nat) : (Lit.int .i64 (a : Int)).before (.int .i64 (b : Int)) = decide (a < b) := by
  simp only [Lit.before]
  by_cases h : a < b
  · simp [h]
  · simp [h]
theorem sameKey_int (a b : Nat) : (Lit.int .i64 (a : Int)).sameKey (.int .i64 (b : Int)) = (a == b) := by
  simp only [Lit.sameKey]
  by_cases h : a = b
  · simp [h]
  · have : ¬ (a : Int) = b := by omega
    simp [h, this]
theorem filter_ent (k : Nat) (l : List (Nat × Value)) : (l.map ent).filter (fun p => !p.1.sameKey (.int .i64 (k : Int))) = (del k l).map ent := by
  induction l with
  | nil => rfl
  | cons p r ih =>
    have e : (!(ent p).1.sameKey (.int .i64 (k : Int))) = (p.1 != k) := by
      show (!(Lit.int .i64 (p.1 : Int)).sameKey (.int .i64 (k : Int))) = _
      rw [sameKey_int]
      rfl
    rw [List.map_cons, List.filter_cons, e, ih]
    by_cases h : p.1 = k
    · simp [del, h]
    · simp [del, h]
theorem insert_ent {k : Nat} {v : Value} {l : List (Nat × Value)} (h : Rising l) : DataW.insert (ent (k, v)) ((del k l).map ent) = (ins k v l).map ent := by
  induction l with
  | nil => rfl
  | cons p r ih =>
    have ih := ih h.tail
    have hd := h.head
    have hdel : ∀ j, j ≤ p.1 → del j r = r := fun j hj => by
      unfold del
      rw [List.filter_eq_self]
      intro q hq
      have := hd q hq
      simp
      omega
    unfold ins
    split
    · rename_i hlt
      have e : del k (p :: r) = p :: del k r := del_cons r (by omega)
      rw [e, List.map_cons, List.map_cons, DataW.insert]
      have hb : (ent (k, v)).1.before (ent p).1 = false := by
        show (Lit.int .i64 (k : Int)).before (.int .i64 (p.1 : Int)) = false
        rw [before_int]
        simp; omega
      rw [hb]
      simp only [Bool.false_eq_true, if_false, ih]
    · split
      · rename_i hlt heq
        have e : del k (p :: r) = r := by
          rw [← hdel k (by omega)]
          simp [del, heq]
        rw [e]
        cases r with
        | nil => rfl
        | cons q r' =>
          have hq := hd q (by simp)
          rw [List.map_cons, List.map_cons, DataW.insert]
          have hb : (ent (k, v)).1.before (ent q).1 = true := by
            show (Lit.int .i64 (k : Int)).before (.int .i64 (q.1 : Int)) = true
            rw [before_int]
            simp; omega
          rw [hb]
          simp
      · rename_i hlt heq
        have e : del k (p :: r) = p :: r := by
          rw [del_cons r (by omega), hdel k (by omega)]
        rw [e, List.map_cons, List.map_cons, DataW.insert]
        have hb : (ent (k, v)).1.before (ent p).1 = true := by
          show (Lit.int .i64 (k : Int)).before (.int .i64 (p.1 : Int)) = true
          rw [before_int]
          simp; omega
        rw [hb]
        simp
theorem put_ent {k : Nat} {v : Value} {l : List (Nat × Value)} (h : Rising l) : (DataW.map (l.map ent)).put (.int .i64 (k : Int)) (.held v) = .map ((ins k v l).map ent) := by
  show DataW.map (DataW.insert (ent (k, v)) ((l.map ent).filter fun p => !p.1.sameKey (.int .i64 (k : Int)))) = _
  rw [filter_ent, insert_ent h]
theorem del_ent (k : Nat) (l : List (Nat × Value)) : (DataW.map (l.map ent)).del (.int .i64 (k : Int)) = .map ((del k l).map ent) := by
  show DataW.map ((l.map ent).filter fun p => !p.1.sameKey (.int .i64 (k : Int))) = _
  rw [filter_ent]
theorem find_ent (k : Nat) (l : List (Nat × Value)) : (l.map ent).find? (fun p => p.1.sameKey (.int .i64 (k : Int))) = (l.find? (fun p => p.1 == k)).map ent := by
  induction l with
  | nil => rfl
  | cons p r ih =>
    have e : (ent p).1.sameKey (.int .i64 (k : Int)) = (p.1 == k) := sameKey_int p.1 k
    rw [List.map_cons, List.find?_cons, List.find?_cons, e]
    cases p.1 == k
    · exact ih
    · rfl
theorem at_ent (k : Nat) (z : Value) (l : List (Nat × Value)) : (DataW.map (l.map ent)).atKey (.int .i64 (k : Int)) (.held z) = .held ((get k l).getD z) := by
  unfold DataW.atKey get
  simp only [find_ent]
  cases l.find? (fun p => p.1 == k) <;> rfl
theorem has_ent (k : Nat) (l : List (Nat × Value)) : Maps.has (DataW.map (l.map ent)) (.int .i64 (k : Int)) = (get k l).isSome := by
  rw [Maps.has_eq]
  unfold get
  rw [Option.isSome_map]
  induction l with
  | nil => rfl
  | cons p r ih =>
    have e : (ent p).1.sameKey (.int .i64 (k : Int)) = (p.1 == k) := sameKey_int p.1 k
    rw [List.map_cons, List.any_cons, List.find?_cons, e, ih]
    cases p.1 == k <;> rfl

/-! ### in memory -/
theorem ownsMap_tight {P : Program} {k : TypeId} {R : Value → Option (DataW Value × List MemPlace)} {w : World} {b n : Nat} {D : DataW Value} (h : w.ownsMap P k R b n D) : w.ownsMap P k R b (Maps.size D) D := by
  obtain ⟨es, clock, hb, F, _, rfl⟩ := h
  exact ⟨es, clock, hb, F, by simp [Maps.size, length_sorted], rfl⟩

/-- Block b is a map (keys of type k, an int's) that holds just the pairs of l. -/
def MapAt (P : Program) (k : TypeId) (w : World) (b : Nat) (l : List (Nat × Value)) : Prop :=
  Rising l ∧ w.ownsMap P k hv b l.length (.map (l.map ent))

theorem chg_turned {w w' : World} {b : Nat} (h : w.mapTurned w' b) : Chg [b] w w' := by
  have g := h.grown
  obtain ⟨es, clock, es', clock', hb, rfl⟩ := h
  exact ⟨rfl, rfl, rfl, g.size, fun i hi hn => g.block i hi (by simpa using hn)⟩

namespace MapAt
variable {P : Program} {k t e : TypeId} {w w' : World} {b : Nat} {l : List (Nat × Value)} {S : List Nat}
theorem lt (h : MapAt P k w b l) : b < w.heap.size := h.2.lt
theorem keep (h : MapAt P k w b l) (hc : Chg S w w') (hb : b ∉ S) : MapAt P k w' b l := by
  refine ⟨h.1, ?_⟩
  obtain ⟨es, clock, hb', r⟩ := h.2
  exact ⟨es, clock, (hc.block b h.lt hb).trans hb', r⟩
theorem made (w : World) (P : Program) (k : TypeId) : MapAt P k (w.alloc (.map #[] 0)) w.heap.size [] := ⟨Rising.nil, World.ownsMap_made w P k hv⟩
theorem ne_blk (h : MapAt P k w b l) {g : Nat} {t : TypeId} {cs : Array Value} (hg : Blk w g t cs) : b ≠ g := by
  rintro rfl
  obtain ⟨es, clock, hb, _⟩ := h.2
  unfold Blk at hg
  rw [hg] at hb
  cases hb

theorem wf_key {x : Nat} (h : x ≤ 9223372036854775807) : (Lit.int .i64 (x : Nat)).wf = true := by
  simp [Lit.wf, IntKind.min, IntKind.max, IntKind.signed, IntKind.bits]; omega

variable (hk : P.underlying k = some (.int .i64)) (ht : P.underlying t = some (.map k e))
include hk ht
theorem look_ok (h : MapAt P k w b l) {z : Value} (hz : (zeroValue e).run P w = .ok z w) {x : Nat} (hx : x ≤ 9223372036854775807) :
    (Instr.lookup t (.map (some b)) (.int .i64 x) true).run P w = .ok (.tuple #[(get x l).getD z, .bool (get x l).isSome]) w := by
  obtain ⟨v, ps, hrun, hv'⟩ := h.2.look_ok (int_keyed hk) ht hz (zd := .held z) (zp := []) rfl (keyOf_int_mk hk (wf_key hx))
  rw [at_ent] at hv'
  simp only [hv, Option.some.injEq, Prod.mk.injEq, DataW.held.injEq] at hv'
  rw [hrun, has_ent, hv'.1]
theorem look (h : MapAt P k w b l) {z : Value} (hz : (zeroValue e).run P w = .ok z w) {x : Nat} (hx : x ≤ 9223372036854775807) :
    (Instr.lookup t (.map (some b)) (.int .i64 x) false).run P w = .ok ((get x l).getD z) w := by
  obtain ⟨v, ps, hrun, hv'⟩ := h.2.lookup (int_keyed hk) ht hz (zd := .held z) (zp := []) rfl (keyOf_int_mk hk (wf_key hx))
  rw [at_ent] at hv'
  simp only [hv, Option.some.injEq, Prod.mk.injEq, DataW.held.injEq] at hv'
  rw [hrun, hv'.1]
theorem store (h : MapAt P k w b l) {x : Nat} (hx : x ≤ 9223372036854775807) (hl : l.length < maxLen) (v : Value) :
    ∃ w', (Instr.mapUpdate t (.map (some b)) (.int .i64 x) v).run P w = .ok () w' ∧ MapAt P k w' b (ins x v l) ∧ Chg [b] w w' := by
  obtain ⟨w', hrun, h1, h2⟩ := h.2.store (int_keyed hk) ht hl (keyOf_int_mk hk (wf_key hx)) (val := v) (d := .held v) (ps := []) rfl
  refine ⟨w', hrun, ⟨h.1.ins hx, ?_⟩, chg_turned h2⟩
  rw [put_ent h.1] at h1
  have := ownsMap_tight h1
  rwa [Maps.size_eq, List.length_map] at this
theorem drop (h : MapAt P k w b l) {x : Nat} (hx : x ≤ 9223372036854775807) (ty : TypeId) :
    ∃ w', (Builtin.delete_ #[t, k] ty #[.map (some b), .int .i64 x]).run P w = .ok (.tuple #[]) w' ∧ MapAt P k w' b (del x l) ∧ Chg [b] w w' := by
  obtain ⟨w', hrun, h1, h2⟩ := h.2.drop (int_keyed hk) ht (keyOf_int_mk hk (wf_key hx)) ty
  refine ⟨w', hrun, ⟨h.1.del, ?_⟩, chg_turned h2⟩
  rw [del_ent] at h1
  have := ownsMap_tight h1
  rwa [Maps.size_eq, List.length_map] at this
omit hk in
theorem len (h : MapAt P k w b l) (ty : TypeId) : (Builtin.len_ #[t] ty #[.map (some b)]).run P w = .ok (.int .i64 l.length) w := by
  rw [h.2.len ht ty, Maps.size_eq, List.length_map]
end MapAt

/-! ### at the operation -/
section
variable {P : Program} {k t e : TypeId} (w : World) {ops : Array Oper} {rest : List Oper} {o : Oper} {a : Act} {Q : Exit → Act → World → Prop} {K : Act → World → Prop} {E : Prop} {b : Nat} {l : List (Nat × Value)}
  (hk : P.underlying k = some (.int .i64)) (ht : P.underlying t = some (.map k e)) (h : MapAt P k w b l) {z : Value}
include hk ht h
theorem wp_map_look_ok (m x : Operand) (hop : o.op = Op.lookup t m x true) (hz : (zeroValue e).run P w = .ok z w) (X : Nat) (hm : a.eval m = .map (some b)) (hx : a.eval x = .int .i64 X) (hX : X ≤ 9223372036854775807)
    (hK : K (a.put o.dst (.tuple #[(get X l).getD z, .bool (get X l).isSome])) w) : Oper.wp P o a w K Q := by
  unfold Oper.wp
  simp [execOp, hop, hm, hx, h.look_ok hk ht hz hX, Result.andThen]
  exact hK
theorem wp_map_look (m x : Operand) (hop : o.op = Op.lookup t m x false) (hz : (zeroValue e).run P w = .ok z w) (X : Nat) (hm : a.eval m = .map (some b)) (hx : a.eval x = .int .i64 X) (hX : X ≤ 9223372036854775807)
    (hK : K (a.put o.dst ((get X l).getD z)) w) : Oper.wp P o a w K Q := by
  unfold Oper.wp
  simp [execOp, hop, hm, hx, h.look hk ht hz hX, Result.andThen]
  exact hK
theorem wp_map_store (m x v : Operand) (hop : o.op = Op.mapUpdate t m x v) (X : Nat) (V : Value) (hm : a.eval m = .map (some b)) (hx : a.eval x = .int .i64 X) (hv : a.eval v = V) (hX : X ≤ 9223372036854775807) (hl : l.length < maxLen)
    (hK : ∀ w', MapAt P k w' b (ins X V l) → Chg [b] w w' → K (a.put o.dst undef) w') : Oper.wp P o a w K Q := by
  obtain ⟨w', hrun, h1, h2⟩ := h.store hk ht hX hl V
  unfold Oper.wp
  simp [execOp, hop, hm, hx, hv, hrun, Result.andThen]
  exact hK w' h1 h2
theorem wp_map_delete (m x : Operand) (hop : o.op = Op.call { callee := Callee.builtin Builtin.delete, args := #[m, x], argTypes := #[t, k] }) (X : Nat) (hm : a.eval m = .map (some b)) (hx : a.eval x = .int .i64 X) (hX : X ≤ 9223372036854775807)
    (hK : ∀ w', MapAt P k w' b (del X l) → Chg [b] w w' → K (a.put o.dst (.tuple #[])) w') : Oper.wp P o a w K Q := by
  obtain ⟨w', hrun, h1, h2⟩ := h.drop hk ht hX o.type
  unfold Oper.wp
  simp [execOp, hop, resolve, invoke, builtin, hm, hx, hrun, Result.andThen]
  exact hK w' h1 h2
omit hk in
theorem wp_map_len (m : Operand) (hop : o.op = Op.call { callee := Callee.builtin Builtin.len, args := #[m], argTypes := #[t] }) (hm : a.eval m = .map (some b))
    (hK : K (a.put o.dst (.int .i64 l.length)) w) : Oper.wp P o a w K Q := by
  unfold Oper.wp
  simp [execOp, hop, resolve, invoke, builtin, hm, h.len ht o.type, Result.andThen]
  exact hK
omit hk ht h in
theorem wpList_of (hg : o.guard = none) (hK : Oper.wp P o a w (fun a' w' => wpList P ops Q rest a' w') Q) : wpList P ops Q (o :: rest) a w :=
  wpList_plain hg fun _ hK' => Oper.wp_mono hK' hK
omit hk ht h in
theorem step_of (hg : o.guard = none) (hK : Oper.wp P o a w K Q) : if Region.wanted o (yielded ops a.tmps) = true then Oper.wp P o a w K Q else E := by
  have hw : Region.wanted o (yielded ops a.tmps) = true := by simp [Region.wanted, hg]
  rw [if_pos hw]
  exact hK
end
end Go.Proofs.YtgockfjhokocbaaGreatDoor
