/-
  PROVED: what OutboxApart holds together: four outboxes and a list of steps, each in blocks of its own.
-/
import Derived.Test.YtphbhmppjafhkaaS
import Derived.Test.YtphbhmppjafhkaaPair
namespace Go.Proofs.Ytphbhmppjafhkaa
open Go.RowKit

theorem OpsAt.keep' {w w' : World} {A : Option Addr} {ops : List GOp} {S : List Nat} (h : OpsAt w A ops) (hc : Chg S w w') (hS : ∀ k ∈ ob A, k ∉ S) : OpsAt w' A ops := fun hn => by
  obtain ⟨ad, rfl, hcell⟩ := h hn
  exact ⟨ad, rfl, fun i o ho j u hu => hc.cell (hcell i o ho j u hu) (by rw [add_block, add_block]; exact hS _ (by simp [ob]))⟩

/-- The cells of steps. -/
def opv (ops : List GOp) : List Value := ops.flatMap GOp.cells
theorem opv_length (ops : List GOp) : (opv ops).length = ops.length * 3 := by
  induction ops with
  | nil => rfl
  | cons o ops ih =>
    unfold opv at ih ⊢
    rw [List.flatMap_cons, List.length_append, ih, List.length_cons, Nat.add_mul, Nat.one_mul, Nat.add_comm]
    rfl
theorem opv_append (a b : List GOp) : opv (a ++ b) = opv a ++ opv b := by simp [opv]
theorem opv_get {ops : List GOp} {i : Nat} {o : GOp} (h : ops[i]? = some o) {j : Nat} {u : Value} (hu : o.cells[j]? = some u) : (opv ops)[i * 3 + j]? = some u := by
  induction ops generalizing i with
  | nil => simp at h
  | cons x xs ih =>
    unfold opv at ih ⊢
    rw [List.flatMap_cons]
    have hl : x.cells.length = 3 := rfl
    cases i with
    | zero =>
      simp only [List.getElem?_cons_zero, Option.some.injEq] at h
      subst h
      rw [Nat.zero_mul, Nat.zero_add, List.getElem?_append_left (by
        obtain ⟨hj, _⟩ := List.getElem?_eq_some_iff.1 hu
        exact hj)]
      exact hu
    | succ i =>
      rw [List.getElem?_append_right (by rw [hl, Nat.add_mul]; omega), hl, show (i + 1) * 3 + j - 3 = i * 3 + j by rw [Nat.add_mul]; omega]
      exact ih (by simpa using h)
theorem reads_ops {w : World} {A : Option Addr} {n : Nat} {ops : List GOp} (h : Reads w 3 A n (opv ops)) : OpsAt w A ops := fun hn => by
  have hl := h.1
  rw [opv_length] at hl
  obtain ⟨ad, hA, hcell⟩ := h.2 (by omega)
  exact ⟨ad, hA, fun i o ho j u hu => by rw [add_add]; exact hcell _ u (opv_get ho hu)⟩
theorem ops_reads {w : World} {A : Option Addr} {ops : List GOp} (h : OpsAt w A ops) : Reads w 3 A ops.length (opv ops) := by
  refine ⟨opv_length ops, fun hn => ?_⟩
  obtain ⟨ad, hA, hcell⟩ := h hn
  refine ⟨ad, hA, fun j u hu => ?_⟩
  have hjl : j < (opv ops).length := by
    obtain ⟨hj, _⟩ := List.getElem?_eq_some_iff.1 hu
    exact hj
  rw [opv_length] at hjl
  have hi : j / 3 < ops.length := by omega
  have hr : j % 3 < (ops[j / 3]).cells.length := by show j % 3 < 3; omega
  have h1 := opv_get (List.getElem?_eq_getElem hi) (List.getElem?_eq_getElem hr)
  have e : j / 3 * 3 + j % 3 = j := by omega
  rw [e, hu] at h1
  injection h1 with h1
  have h2 := hcell (j / 3) _ (List.getElem?_eq_getElem hi) (j % 3) _ (List.getElem?_eq_getElem hr)
  rw [add_add, e] at h2
  rw [h1]
  exact h2
theorem opv_one (ops : List GOp) : ∀ u ∈ opv ops, u.oneCell' = true := by
  intro u hu
  unfold opv at hu
  obtain ⟨o, _, ho⟩ := List.mem_flatMap.1 hu
  simp only [GOp.cells, List.mem_cons, List.not_mem_nil, or_false] at ho
  rcases ho with rfl | rfl | rfl <;> rfl

/-- Four outboxes and the list of steps. -/
def ASt (w wr : World) (pa pb pc pd : Nat) (ta tb td : St) (LA : Option Addr) (L : List GOp) : Prop :=
  ∃ S0 S1 S2 S3, Box wr pa S0 3 ta ∧ Box wr pb S1 7 tb ∧ BoxS wr pc S2 ∧ Box wr pd S3 3 td ∧ OpsAt wr LA L ∧ (Apart S0 S1 ∧ Apart S0 S2 ∧ Apart S0 S3 ∧ Apart S1 S2 ∧ Apart S1 S3 ∧ Apart S2 S3 ∧ Apart S0 (ob LA) ∧ Apart S1 (ob LA) ∧ Apart S2 (ob LA) ∧ Apart S3 (ob LA)) ∧ (∀ k ∈ S0 ++ (S1 ++ (S2 ++ S3)), w.heap.size ≤ k) ∧ (∀ k ∈ ob LA, k < wr.heap.size) ∧ Chg [] w wr

theorem ASt.stepA {w wr w' : World} {pa pb pc pd : Nat} {ta tb td : St} {t' : St} {LA : Option Addr} {L : List GOp} {S0 S1 S2 S3 : List Nat}
    (_h0 : Box wr pa S0 3 ta) (h1 : Box wr pb S1 7 tb) (h2 : BoxS wr pc S2) (h3 : Box wr pd S3 3 td) (hL : OpsAt wr LA L) (hsep : Apart S0 S1 ∧ Apart S0 S2 ∧ Apart S0 S3 ∧ Apart S1 S2 ∧ Apart S1 S3 ∧ Apart S2 S3 ∧ Apart S0 (ob LA) ∧ Apart S1 (ob LA) ∧ Apart S2 (ob LA) ∧ Apart S3 (ob LA)) (hw : ∀ k ∈ S0 ++ (S1 ++ (S2 ++ S3)), w.heap.size ≤ k) (hO : ∀ k ∈ ob LA, k < wr.heap.size) (hc : Chg [] w wr)
    (hstep : Left wr pa S0 3 t' w') : ASt w w' pa pb pc pd t' tb td LA L := by
  obtain ⟨a01, a02, a03, a12, a13, a23, o0, o1, o2, o3⟩ := hsep
  obtain ⟨S', hd', hc', hS'⟩ := hstep
  have hsz := hc.size
  have hx : ∀ k ∈ S0, w.heap.size ≤ k := fun k hk => hw k (by simp [hk])
  refine ⟨S', S1, S2, S3, hd', (h1.keep hc' a01.symm), (h2.keep hc' a02.symm), (h3.keep hc' a03.symm), hL.keep' hc' o0.symm, ⟨(Apart.next a01 hS' h1.lt), (Apart.next a02 hS' h2.lt), (Apart.next a03 hS' h3.lt), a12, a13, a23, (Apart.next o0 hS' hO), o1, o2, o3⟩, ?_, fun k hk => Nat.lt_of_lt_of_le (hO k hk) hc'.size, hc.trans hc' (fun i hi => .inr (hx i hi))⟩
  intro k hk
  simp only [List.mem_append] at hk hw
  have hn : k ∈ S' → w.heap.size ≤ k := fun hk => by
    rcases hS' k hk with h | h
    · exact hx k h
    · omega
  rcases hk with hk | hk | hk | hk
  · exact hn hk
  · exact hw k (.inr (.inl hk))
  · exact hw k (.inr (.inr (.inl hk)))
  · exact hw k (.inr (.inr (.inr hk)))

theorem ASt.stepB {w wr w' : World} {pa pb pc pd : Nat} {ta tb td : St} {t' : St} {LA : Option Addr} {L : List GOp} {S0 S1 S2 S3 : List Nat}
    (h0 : Box wr pa S0 3 ta) (_h1 : Box wr pb S1 7 tb) (h2 : BoxS wr pc S2) (h3 : Box wr pd S3 3 td) (hL : OpsAt wr LA L) (hsep : Apart S0 S1 ∧ Apart S0 S2 ∧ Apart S0 S3 ∧ Apart S1 S2 ∧ Apart S1 S3 ∧ Apart S2 S3 ∧ Apart S0 (ob LA) ∧ Apart S1 (ob LA) ∧ Apart S2 (ob LA) ∧ Apart S3 (ob LA)) (hw : ∀ k ∈ S0 ++ (S1 ++ (S2 ++ S3)), w.heap.size ≤ k) (hO : ∀ k ∈ ob LA, k < wr.heap.size) (hc : Chg [] w wr)
    (hstep : Left wr pb S1 7 t' w') : ASt w w' pa pb pc pd ta t' td LA L := by
  obtain ⟨a01, a02, a03, a12, a13, a23, o0, o1, o2, o3⟩ := hsep
  obtain ⟨S', hd', hc', hS'⟩ := hstep
  have hsz := hc.size
  have hx : ∀ k ∈ S1, w.heap.size ≤ k := fun k hk => hw k (by simp [hk])
  refine ⟨S0, S', S2, S3, (h0.keep hc' a01), hd', (h2.keep hc' a12.symm), (h3.keep hc' a13.symm), hL.keep' hc' o1.symm, ⟨(Apart.next a01.symm hS' h0.lt).symm, a02, a03, (Apart.next a12 hS' h2.lt), (Apart.next a13 hS' h3.lt), a23, o0, (Apart.next o1 hS' hO), o2, o3⟩, ?_, fun k hk => Nat.lt_of_lt_of_le (hO k hk) hc'.size, hc.trans hc' (fun i hi => .inr (hx i hi))⟩
  intro k hk
  simp only [List.mem_append] at hk hw
  have hn : k ∈ S' → w.heap.size ≤ k := fun hk => by
    rcases hS' k hk with h | h
    · exact hx k h
    · omega
  rcases hk with hk | hk | hk | hk
  · exact hw k (.inl hk)
  · exact hn hk
  · exact hw k (.inr (.inr (.inl hk)))
  · exact hw k (.inr (.inr (.inr hk)))

theorem ASt.stepC {w wr w' : World} {pa pb pc pd : Nat} {ta tb td : St} {LA : Option Addr} {L : List GOp} {S0 S1 S2 S3 : List Nat}
    (h0 : Box wr pa S0 3 ta) (h1 : Box wr pb S1 7 tb) (_h2 : BoxS wr pc S2) (h3 : Box wr pd S3 3 td) (hL : OpsAt wr LA L) (hsep : Apart S0 S1 ∧ Apart S0 S2 ∧ Apart S0 S3 ∧ Apart S1 S2 ∧ Apart S1 S3 ∧ Apart S2 S3 ∧ Apart S0 (ob LA) ∧ Apart S1 (ob LA) ∧ Apart S2 (ob LA) ∧ Apart S3 (ob LA)) (hw : ∀ k ∈ S0 ++ (S1 ++ (S2 ++ S3)), w.heap.size ≤ k) (hO : ∀ k ∈ ob LA, k < wr.heap.size) (hc : Chg [] w wr)
    (hstep : ∃ S', BoxS w' pc S' ∧ Chg S2 wr w' ∧ ∀ k ∈ S', k ∈ S2 ∨ wr.heap.size ≤ k) : ASt w w' pa pb pc pd ta tb td LA L := by
  obtain ⟨a01, a02, a03, a12, a13, a23, o0, o1, o2, o3⟩ := hsep
  obtain ⟨S', hd', hc', hS'⟩ := hstep
  have hsz := hc.size
  have hx : ∀ k ∈ S2, w.heap.size ≤ k := fun k hk => hw k (by simp [hk])
  refine ⟨S0, S1, S', S3, (h0.keep hc' a02), (h1.keep hc' a12), hd', (h3.keep hc' a23.symm), hL.keep' hc' o2.symm, ⟨a01, (Apart.next a02.symm hS' h0.lt).symm, a03, (Apart.next a12.symm hS' h1.lt).symm, a13, (Apart.next a23 hS' h3.lt), o0, o1, (Apart.next o2 hS' hO), o3⟩, ?_, fun k hk => Nat.lt_of_lt_of_le (hO k hk) hc'.size, hc.trans hc' (fun i hi => .inr (hx i hi))⟩
  intro k hk
  simp only [List.mem_append] at hk hw
  have hn : k ∈ S' → w.heap.size ≤ k := fun hk => by
    rcases hS' k hk with h | h
    · exact hx k h
    · omega
  rcases hk with hk | hk | hk | hk
  · exact hw k (.inl hk)
  · exact hw k (.inr (.inl hk))
  · exact hn hk
  · exact hw k (.inr (.inr (.inr hk)))

theorem ASt.stepD {w wr w' : World} {pa pb pc pd : Nat} {ta tb td : St} {t' : St} {LA : Option Addr} {L : List GOp} {S0 S1 S2 S3 : List Nat}
    (h0 : Box wr pa S0 3 ta) (h1 : Box wr pb S1 7 tb) (h2 : BoxS wr pc S2) (_h3 : Box wr pd S3 3 td) (hL : OpsAt wr LA L) (hsep : Apart S0 S1 ∧ Apart S0 S2 ∧ Apart S0 S3 ∧ Apart S1 S2 ∧ Apart S1 S3 ∧ Apart S2 S3 ∧ Apart S0 (ob LA) ∧ Apart S1 (ob LA) ∧ Apart S2 (ob LA) ∧ Apart S3 (ob LA)) (hw : ∀ k ∈ S0 ++ (S1 ++ (S2 ++ S3)), w.heap.size ≤ k) (hO : ∀ k ∈ ob LA, k < wr.heap.size) (hc : Chg [] w wr)
    (hstep : Left wr pd S3 3 t' w') : ASt w w' pa pb pc pd ta tb t' LA L := by
  obtain ⟨a01, a02, a03, a12, a13, a23, o0, o1, o2, o3⟩ := hsep
  obtain ⟨S', hd', hc', hS'⟩ := hstep
  have hsz := hc.size
  have hx : ∀ k ∈ S3, w.heap.size ≤ k := fun k hk => hw k (by simp [hk])
  refine ⟨S0, S1, S2, S', (h0.keep hc' a03), (h1.keep hc' a13), (h2.keep hc' a23), hd', hL.keep' hc' o3.symm, ⟨a01, a02, (Apart.next a03.symm hS' h0.lt).symm, a12, (Apart.next a13.symm hS' h1.lt).symm, (Apart.next a23.symm hS' h2.lt).symm, o0, o1, o2, (Apart.next o3 hS' hO)⟩, ?_, fun k hk => Nat.lt_of_lt_of_le (hO k hk) hc'.size, hc.trans hc' (fun i hi => .inr (hx i hi))⟩
  intro k hk
  simp only [List.mem_append] at hk hw
  have hn : k ∈ S' → w.heap.size ≤ k := fun hk => by
    rcases hS' k hk with h | h
    · exact hx k h
    · omega
  rcases hk with hk | hk | hk | hk
  · exact hw k (.inl hk)
  · exact hw k (.inr (.inl hk))
  · exact hw k (.inr (.inr (.inl hk)))
  · exact hn hk

section
variable {w wr : World} {pa pb pc pd : Nat} {ta tb td : St} {LA : Option Addr} {L : List GOp}
theorem ASt.chg (h : ASt w wr pa pb pc pd ta tb td LA L) : Chg [] w wr := by
  obtain ⟨S0, S1, S2, S3, h0, h1, h2, h3, hL, hsep, hw, hO, hc⟩ := h
  exact hc
theorem ASt.opsAt (h : ASt w wr pa pb pc pd ta tb td LA L) : OpsAt wr LA L := by
  obtain ⟨S0, S1, S2, S3, h0, h1, h2, h3, hL, hsep, hw, hO, hc⟩ := h
  exact hL
theorem ASt.keep {w' : World} (h : ASt w wr pa pb pc pd ta tb td LA L) (c : Chg [] wr w') : ASt w w' pa pb pc pd ta tb td LA L := by
  obtain ⟨S0, S1, S2, S3, h0, h1, h2, h3, hL, hsep, hw, hO, hc⟩ := h
  exact ⟨S0, S1, S2, S3, h0.keep c (by simp), h1.keep c (by simp), h2.keep c (by simp), h3.keep c (by simp), hL.keep c, hsep, hw, fun k hk => Nat.lt_of_lt_of_le (hO k hk) c.size, hc.next c⟩
theorem ASt.actA (h : ASt w wr pa pb pc pd ta tb td LA L) (o : GOp) : Calls Try.prog 19 #[.pointer (some ⟨pa, 0, none⟩), o.val] wr fun e w' => e = .returned (.int .i64 (actF o 3 ta).1) ∧ ASt w w' pa pb pc pd (actF o 3 ta).2 tb td LA L := by
  obtain ⟨S0, S1, S2, S3, h0, h1, h2, h3, hL, hsep, hw, hO, hc⟩ := h
  exact (act_calls h0 o).mono fun e w' ⟨he, hl⟩ => ⟨he, ASt.stepA h0 h1 h2 h3 hL hsep hw hO hc hl⟩
theorem ASt.actB (h : ASt w wr pa pb pc pd ta tb td LA L) (o : GOp) : Calls Try.prog 19 #[.pointer (some ⟨pb, 0, none⟩), o.val] wr fun e w' => e = .returned (.int .i64 (actF o 7 tb).1) ∧ ASt w w' pa pb pc pd ta (actF o 7 tb).2 td LA L := by
  obtain ⟨S0, S1, S2, S3, h0, h1, h2, h3, hL, hsep, hw, hO, hc⟩ := h
  exact (act_calls h1 o).mono fun e w' ⟨he, hl⟩ => ⟨he, ASt.stepB h0 h1 h2 h3 hL hsep hw hO hc hl⟩
theorem ASt.actD (h : ASt w wr pa pb pc pd ta tb td LA L) (o : GOp) : Calls Try.prog 19 #[.pointer (some ⟨pd, 0, none⟩), o.val] wr fun e w' => e = .returned (.int .i64 (actF o 3 td).1) ∧ ASt w w' pa pb pc pd ta tb (actF o 3 td).2 LA L := by
  obtain ⟨S0, S1, S2, S3, h0, h1, h2, h3, hL, hsep, hw, hO, hc⟩ := h
  exact (act_calls h3 o).mono fun e w' ⟨he, hl⟩ => ⟨he, ASt.stepD h0 h1 h2 h3 hL hsep hw hO hc hl⟩
theorem ASt.pushC (h : ASt w wr pa pb pc pd ta tb td LA L) (x : ByteArray) : Calls Try.prog 50 #[.pointer (some ⟨pc, 0, none⟩), .string x] wr fun e w' => ∃ a b, e = .returned (.tuple #[.int .i64 a, .int .i64 b]) ∧ ASt w w' pa pb pc pd ta tb td LA L := by
  obtain ⟨S0, S1, S2, S3, h0, h1, h2, h3, hL, hsep, hw, hO, hc⟩ := h
  exact (pushS_calls h2 x).mono fun e w' ⟨a, b, he, hl⟩ => ⟨a, b, he, ASt.stepC h0 h1 h2 h3 hL hsep hw hO hc hl⟩
theorem ASt.dueA (h : ASt w wr pa pb pc pd ta tb td LA L) : Calls Try.prog 17 #[.pointer (some ⟨pa, 0, none⟩)] wr fun e w' => ∃ z, e = .returned (.slice (some ⟨z, 0, none⟩) (min 3 ta.xs.length) (min 3 ta.xs.length)) ∧ Row w' 38 2 (some ⟨z, 0, none⟩) (min 3 ta.xs.length) (min 3 ta.xs.length) (itv cI (items (ta.a + 1) (ta.xs.take (min 3 ta.xs.length)))) ∧
    ∃ S3, Box w' pd S3 3 td ∧ z ∉ S3 ∧ (∀ k ∈ S3, w.heap.size ≤ k) ∧ Chg [] w w' := by
  obtain ⟨S0, S1, S2, S3, h0, h1, h2, h3, hL, hsep, hw, hO, hc⟩ := h
  refine (due_calls h0).mono fun e w' ⟨z, he, hr, ⟨S', hd', hc', hS'⟩, hz⟩ => ⟨z, he, hr, S3, h3.keep hc' hsep.2.2.1.symm, fun hm => ?_, fun k hk => hw k (by simp [hk]), hc.trans hc' (fun i hi => .inr (hw i (by simp [hi])))⟩
  have := h3.lt z hm
  omega
theorem ASt.last_ (h : ASt w wr pa pb pc pd ta tb td LA L) : (Calls Try.prog 15 #[.pointer (some ⟨pa, 0, none⟩)] wr fun e w' => e = .returned (.int .i64 ta.last) ∧ ∃ q, w' = wr.drewN q) ∧
    (Calls Try.prog 15 #[.pointer (some ⟨pb, 0, none⟩)] wr fun e w' => e = .returned (.int .i64 tb.last) ∧ ∃ q, w' = wr.drewN q) ∧ (Calls Try.prog 15 #[.pointer (some ⟨pd, 0, none⟩)] wr fun e w' => e = .returned (.int .i64 td.last) ∧ ∃ q, w' = wr.drewN q) := by
  obtain ⟨S0, S1, S2, S3, h0, h1, h2, h3, hL, hsep, hw, hO, hc⟩ := h
  exact ⟨last_calls h0, last_calls h1, last_calls h3⟩
theorem ASt.acked_ (h : ASt w wr pa pb pc pd ta tb td LA L) : (Calls Try.prog 13 #[.pointer (some ⟨pa, 0, none⟩)] wr fun e w' => e = .returned (.int .i64 ta.a) ∧ wr = w') ∧ (Calls Try.prog 13 #[.pointer (some ⟨pd, 0, none⟩)] wr fun e w' => e = .returned (.int .i64 td.a) ∧ wr = w') := by
  obtain ⟨S0, S1, S2, S3, h0, h1, h2, h3, hL, hsep, hw, hO, hc⟩ := h
  exact ⟨acked_calls h0, acked_calls h3⟩
theorem ASt.sent_ (h : ASt w wr pa pb pc pd ta tb td LA L) : (Calls Try.prog 14 #[.pointer (some ⟨pa, 0, none⟩)] wr fun e w' => e = .returned (.int .i64 ta.s) ∧ wr = w') ∧ (Calls Try.prog 14 #[.pointer (some ⟨pd, 0, none⟩)] wr fun e w' => e = .returned (.int .i64 td.s) ∧ wr = w') := by
  obtain ⟨S0, S1, S2, S3, h0, h1, h2, h3, hL, hsep, hw, hO, hc⟩ := h
  exact ⟨sent_calls h0, sent_calls h3⟩
theorem ASt.left_ (h : ASt w wr pa pb pc pd ta tb td LA L) : (Calls Try.prog 22 #[.pointer (some ⟨pa, 0, none⟩)] wr fun e w' => ∃ z, e = .returned (.slice (some ⟨z, 0, none⟩) ta.xs.length ta.xs.length) ∧ Row w' 38 2 (some ⟨z, 0, none⟩) ta.xs.length ta.xs.length (itv cI (items (ta.a + 1) ta.xs)) ∧ Chg [] wr w' ∧ wr.heap.size ≤ z) ∧
    (Calls Try.prog 22 #[.pointer (some ⟨pd, 0, none⟩)] wr fun e w' => ∃ z, e = .returned (.slice (some ⟨z, 0, none⟩) td.xs.length td.xs.length) ∧ Row w' 38 2 (some ⟨z, 0, none⟩) td.xs.length td.xs.length (itv cI (items (td.a + 1) td.xs)) ∧ Chg [] wr w' ∧ wr.heap.size ≤ z) := by
  obtain ⟨S0, S1, S2, S3, h0, h1, h2, h3, hL, hsep, hw, hO, hc⟩ := h
  exact ⟨left_calls h0, left_calls h3⟩
theorem ASt.okA (h : ASt w wr pa pb pc pd ta tb td LA L) : ta.Ok := by
  obtain ⟨S0, S1, S2, S3, h0, h1, h2, h3, hL, hsep, hw, hO, hc⟩ := h
  exact h0.ok
end
end Go.Proofs.Ytphbhmppjafhkaa
