/-
  PROVED: what DiskOwn's loop holds together: two files and the kept lists, each in blocks of its own; the contracts of the calls in these words.
-/
import Derived.Test.YtoaaneejecdglaaMarked
namespace Go.Proofs.Ytoaaneejecdglaa
open Go.RowKit

/-- Blocks B stand as they stood. -/
def Far (B : List Nat) (w w' : World) : Prop := ∃ S, Chg S w w' ∧ ∀ i ∈ B, i ∉ S

theorem Far.of {B : List Nat} {w w' : World} (h : Chg [] w w') : Far B w w' := ⟨[], h, by simp⟩
theorem Far.blk {B : List Nat} {w w' : World} {g : Nat} {t : TypeId} {cs : Array Value} (h : Far B w w') (hb : Blk w g t cs) (hg : g ∈ B) : Blk w' g t cs := by
  obtain ⟨S, hc, hS⟩ := h
  exact hb.keep hc (hS g hg)
theorem Far.row {B : List Nat} {w w' : World} {e : TypeId} {sz n cap g : Nat} {xs : List Value} (h : Far B w w') (hb : Row w e sz (some ⟨g, 0, none⟩) n cap xs) (hg : g ∈ B) : Row w' e sz (some ⟨g, 0, none⟩) n cap xs := by
  obtain ⟨S, hc, hS⟩ := h
  exact hb.keep hc (fun i hi => by simp [ob] at hi; subst hi; exact hS _ hg)
theorem Far.size {B : List Nat} {w w' : World} (h : Far B w w') : w.heap.size ≤ w'.heap.size := by
  obtain ⟨S, hc, _⟩ := h
  exact hc.size

theorem KeptAt.lt {w : World} {q : Nat} {Q C : List Nat} {ks : List (List Int)} (h : KeptAt w q Q C ks) : ∀ k ∈ Q ++ C, k < w.heap.size := by
  obtain ⟨LA, LC, WA, WC, ls, ws, rfl, hK⟩ := h
  intro k hk
  rcases List.mem_append.1 hk with hk | hk
  · rcases List.mem_cons.1 hk with rfl | hk
    · exact hK.1.lt
    · rcases List.mem_append.1 hk with hk | hk
      · exact hK.2.1.lt k hk
      · exact hK.2.2.1.lt k hk
  · exact hK.2.2.2.2.2.2.2 k hk

theorem KeptAt.none_ (w : World) : KeptAt (w.alloc (.cells #[.slice none 0 0, .slice none 0 0] 55)) w.heap.size [w.heap.size] [] [] :=
  ⟨none, 0, none, 0, [], [], rfl, Blk.new _ _ _, Row.nil _ _ _, Row.nil _ _ _, by simp [Apart, ob], by simp [Contents], by simp [Contents], by simp, by simp⟩

/-- The two files d and w and the kept lists, in blocks that are nobody's but theirs, none of them among B. -/
def OSt (w wr : World) (pd pw q : Nat) (rd rw : List Int × Nat) (N : Nat) (B : List Nat) : Prop :=
  ∃ Sd Sw Q C ks, Disk wr pd Sd rd.1 rd.2 ∧ Disk wr pw Sw rw.1 rw.2 ∧ KeptAt wr q Q C ks ∧ ks.length ≤ N ∧ Apart Sd Sw ∧ Apart (Q ++ C) Sd ∧ Apart (Q ++ C) Sw ∧
    (∀ k ∈ Sd ++ (Sw ++ (Q ++ C)), w.heap.size ≤ k) ∧ (∀ k ∈ Sd ++ (Sw ++ (Q ++ C)), k ∉ B) ∧ Chg [] w wr

namespace OSt
variable {w wr : World} {pd pw q N : Nat} {rd rw : List Int × Nat} {B : List Nat}

theorem chg (h : OSt w wr pd pw q rd rw N B) : Chg [] w wr := by
  obtain ⟨Sd, Sw, Q, C, ks, hd, hw, hK, hN, a1, a2, a3, hl, hB, hc⟩ := h
  exact hc

theorem keep {w' : World} {B' : List Nat} (h : OSt w wr pd pw q rd rw N B) (c : Chg [] wr w') (hB' : ∀ i ∈ B', i ∈ B ∨ wr.heap.size ≤ i) : OSt w w' pd pw q rd rw N B' := by
  obtain ⟨Sd, Sw, Q, C, ks, hd, hw, hK, hN, a1, a2, a3, hl, hB, hc⟩ := h
  refine ⟨Sd, Sw, Q, C, ks, hd.keep c (by simp), hw.keep c (by simp), hK.keep c (by simp) (by simp), hN, a1, a2, a3, hl, ?_, hc.next c⟩
  intro k hk hm
  rcases hB' k hm with h | h
  · exact hB k hk h
  · have : k < wr.heap.size := by
      rcases List.mem_append.1 hk with hk | hk
      · exact hd.lt k hk
      · rcases List.mem_append.1 hk with hk | hk
        · exact hw.lt k hk
        · exact hK.lt k hk
    omega

theorem more (h : OSt w wr pd pw q rd rw N B) {M : Nat} (hM : N ≤ M) : OSt w wr pd pw q rd rw M B := by
  obtain ⟨Sd, Sw, Q, C, ks, hd, hw, hK, hN, r⟩ := h
  exact ⟨Sd, Sw, Q, C, ks, hd, hw, hK, by omega, r⟩

theorem drewN (h : OSt w wr pd pw q rd rw N B) (n : Nat) : OSt w (wr.drewN n) pd pw q rd rw N B := h.keep ((Chg.refl _ _).drewN n) (fun _ hi => .inl hi)

/-- The first file stepped. -/
theorem stepD {w' : World} {r : List Int × Nat} {Sd Sw Q C : List Nat} {ks : List (List Int)}
    (_hd : Disk wr pd Sd rd.1 rd.2) (hw : Disk wr pw Sw rw.1 rw.2) (hK : KeptAt wr q Q C ks) (hN : ks.length ≤ N) (a1 : Apart Sd Sw) (a2 : Apart (Q ++ C) Sd) (a3 : Apart (Q ++ C) Sw)
    (hl : ∀ k ∈ Sd ++ (Sw ++ (Q ++ C)), w.heap.size ≤ k) (hB : ∀ k ∈ Sd ++ (Sw ++ (Q ++ C)), k ∉ B) (hc : Chg [] w wr) (hBl : ∀ i ∈ B, i < wr.heap.size) (h : Left wr pd Sd r w') :
    OSt w w' pd pw q r rw N B ∧ Far B wr w' := by
  obtain ⟨S', hd', hc', hS⟩ := h
  have hsz := hc.size
  have e1 : ∀ i ∈ Sd, w.heap.size ≤ i := fun i hi => hl i (by simp [hi])
  have e2 : ∀ i ∈ S', w.heap.size ≤ i ∧ i ∉ B := fun i hi => by
    rcases hS i hi with h | h
    · exact ⟨hl i (by simp [h]), hB i (by simp [h])⟩
    · exact ⟨by omega, fun hm => by have := hBl i hm; omega⟩
  refine ⟨⟨S', Sw, Q, C, ks, hd', hw.keep hc' (fun i hi hm => a1 i hm hi), hK.keep hc' (fun i hi hm => a2 i (by simp [hi]) hm) (fun i hi hm => a2 i (by simp [hi]) hm), hN, a1.next hS hw.lt, (a2.symm.next hS hK.lt).symm, a3, ?_, ?_, hc.trans hc' (fun i hi => .inr (e1 i hi))⟩, Sd, hc', fun i hi hm => hB i (by simp [hm]) hi⟩
  · intro k hk
    rcases List.mem_append.1 hk with hk | hk
    · exact (e2 k hk).1
    · exact hl k (List.mem_append.2 (.inr hk))
  · intro k hk
    rcases List.mem_append.1 hk with hk | hk
    · exact (e2 k hk).2
    · exact hB k (List.mem_append.2 (.inr hk))

/-- The second file stepped. -/
theorem stepW {w' : World} {r : List Int × Nat} {Sd Sw Q C : List Nat} {ks : List (List Int)}
    (hd : Disk wr pd Sd rd.1 rd.2) (_hw : Disk wr pw Sw rw.1 rw.2) (hK : KeptAt wr q Q C ks) (hN : ks.length ≤ N) (a1 : Apart Sd Sw) (a2 : Apart (Q ++ C) Sd) (a3 : Apart (Q ++ C) Sw)
    (hl : ∀ k ∈ Sd ++ (Sw ++ (Q ++ C)), w.heap.size ≤ k) (hB : ∀ k ∈ Sd ++ (Sw ++ (Q ++ C)), k ∉ B) (hc : Chg [] w wr) (hBl : ∀ i ∈ B, i < wr.heap.size) (h : Left wr pw Sw r w') :
    OSt w w' pd pw q rd r N B ∧ Far B wr w' := by
  obtain ⟨S', hd', hc', hS⟩ := h
  have hsz := hc.size
  have e1 : ∀ i ∈ Sw, w.heap.size ≤ i := fun i hi => hl i (by simp [hi])
  have e2 : ∀ i ∈ S', w.heap.size ≤ i ∧ i ∉ B := fun i hi => by
    rcases hS i hi with h | h
    · exact ⟨hl i (by simp [h]), hB i (by simp [h])⟩
    · exact ⟨by omega, fun hm => by have := hBl i hm; omega⟩
  refine ⟨⟨Sd, S', Q, C, ks, hd.keep hc' (fun i hi hm => a1 i hi hm), hd', hK.keep hc' (fun i hi hm => a3 i (by simp [hi]) hm) (fun i hi hm => a3 i (by simp [hi]) hm), hN, (a1.symm.next hS hd.lt).symm, a2, (a3.symm.next hS hK.lt).symm, ?_, ?_, hc.trans hc' (fun i hi => .inr (e1 i hi))⟩, Sw, hc', fun i hi hm => hB i (by simp [hm]) hi⟩
  · intro k hk
    rcases List.mem_append.1 hk with hk | hk
    · exact hl k (List.mem_append.2 (.inl hk))
    · rcases List.mem_append.1 hk with hk | hk
      · exact (e2 k hk).1
      · exact hl k (by simp only [List.mem_append] at hk ⊢; exact .inr (.inr hk))
  · intro k hk
    rcases List.mem_append.1 hk with hk | hk
    · exact hB k (List.mem_append.2 (.inl hk))
    · rcases List.mem_append.1 hk with hk | hk
      · exact (e2 k hk).2
      · exact hB k (by simp only [List.mem_append] at hk ⊢; exact .inr (.inr hk))

theorem put {n c : Nat} {ys : List Int} {A : Option Addr} (h : OSt w wr pd pw q rd rw N B) (hBl : ∀ i ∈ B, i < wr.heap.size) (hy : Reads wr 1 A n (bv ys)) :
    Calls Try.prog 15 #[.pointer (some ⟨pd, 0, none⟩), .slice A n c] wr fun e w' => e = .returned (.int .i64 (putF ys rd.1 rd.2).1) ∧ OSt w w' pd pw q (putF ys rd.1 rd.2).2 rw N B ∧ Far B wr w' := by
  obtain ⟨Sd, Sw, Q, C, ks, hd, hw, hK, hN, a1, a2, a3, hl, hB, hc⟩ := h
  exact (put_calls hd hy).mono fun e w' ⟨he, hL⟩ => ⟨he, stepD hd hw hK hN a1 a2 a3 hl hB hc hBl hL⟩

theorem actD (h : OSt w wr pd pw q rd rw N B) (hBl : ∀ i ∈ B, i < wr.heap.size) (o : GOp) (ho : o.Ok wr) :
    Calls Try.prog 25 #[.pointer (some ⟨pd, 0, none⟩), o.val] wr fun e w' => e = .returned (.int .i64 (actF o rd.1 rd.2).1) ∧ OSt w w' pd pw q (actF o rd.1 rd.2).2 rw N B ∧ Far B wr w' := by
  obtain ⟨Sd, Sw, Q, C, ks, hd, hw, hK, hN, a1, a2, a3, hl, hB, hc⟩ := h
  exact (act_calls hd o ho).mono fun e w' ⟨he, hL⟩ => ⟨he, stepD hd hw hK hN a1 a2 a3 hl hB hc hBl hL⟩

theorem actW (h : OSt w wr pd pw q rd rw N B) (hBl : ∀ i ∈ B, i < wr.heap.size) (o : GOp) (ho : o.Ok wr) :
    Calls Try.prog 25 #[.pointer (some ⟨pw, 0, none⟩), o.val] wr fun e w' => e = .returned (.int .i64 (actF o rw.1 rw.2).1) ∧ OSt w w' pd pw q rd (actF o rw.1 rw.2).2 N B ∧ Far B wr w' := by
  obtain ⟨Sd, Sw, Q, C, ks, hd, hw, hK, hN, a1, a2, a3, hl, hB, hc⟩ := h
  exact (act_calls hw o ho).mono fun e w' ⟨he, hL⟩ => ⟨he, stepW hd hw hK hN a1 a2 a3 hl hB hc hBl hL⟩

theorem bytesD (h : OSt w wr pd pw q rd rw N B) : Calls Try.prog 17 #[.pointer (some ⟨pd, 0, none⟩)] wr fun e w' => ∃ z, e = .returned (.slice (some ⟨z, 0, none⟩) rd.1.length rd.1.length) ∧ Row w' 5 1 (some ⟨z, 0, none⟩) rd.1.length rd.1.length (bv rd.1) ∧ Chg [] wr w' ∧ wr.heap.size ≤ z := by
  obtain ⟨Sd, Sw, Q, C, ks, hd, _⟩ := h
  exact (bytes_calls hd).mono fun e w' ⟨he, hr, hc⟩ => ⟨_, he, hr, hc, Nat.le_refl _⟩
theorem bytesW (h : OSt w wr pd pw q rd rw N B) : Calls Try.prog 17 #[.pointer (some ⟨pw, 0, none⟩)] wr fun e w' => ∃ z, e = .returned (.slice (some ⟨z, 0, none⟩) rw.1.length rw.1.length) ∧ Row w' 5 1 (some ⟨z, 0, none⟩) rw.1.length rw.1.length (bv rw.1) ∧ Chg [] wr w' ∧ wr.heap.size ≤ z := by
  obtain ⟨Sd, Sw, Q, C, ks, _, hd, _⟩ := h
  exact (bytes_calls hd).mono fun e w' ⟨he, hr, hc⟩ => ⟨_, he, hr, hc, Nat.le_refl _⟩
theorem sizeD (h : OSt w wr pd pw q rd rw N B) : Calls Try.prog 16 #[.pointer (some ⟨pd, 0, none⟩)] wr fun e w' => e = .returned (.int .i64 rd.1.length) ∧ wr = w' := by
  obtain ⟨Sd, Sw, Q, C, ks, hd, _⟩ := h
  exact size_calls hd
theorem sizeW (h : OSt w wr pd pw q rd rw N B) : Calls Try.prog 16 #[.pointer (some ⟨pw, 0, none⟩)] wr fun e w' => e = .returned (.int .i64 rw.1.length) ∧ wr = w' := by
  obtain ⟨Sd, Sw, Q, C, ks, _, hd, _⟩ := h
  exact size_calls hd
theorem syncedD (h : OSt w wr pd pw q rd rw N B) : Calls Try.prog 18 #[.pointer (some ⟨pd, 0, none⟩)] wr fun e w' => e = .returned (.int .i64 rd.2) ∧ wr = w' := by
  obtain ⟨Sd, Sw, Q, C, ks, hd, _⟩ := h
  exact synced_calls hd
theorem syncedW (h : OSt w wr pd pw q rd rw N B) : Calls Try.prog 18 #[.pointer (some ⟨pw, 0, none⟩)] wr fun e w' => e = .returned (.int .i64 rw.2) ∧ wr = w' := by
  obtain ⟨Sd, Sw, Q, C, ks, _, hd, _⟩ := h
  exact synced_calls hd
theorem leD (h : OSt w wr pd pw q rd rw N B) : rd.1.length ≤ 262144 := by
  obtain ⟨Sd, Sw, Q, C, ks, hd, _⟩ := h
  exact hd.le.2
theorem whole (h : OSt w wr pd pw q rd rw N B) (hN : N ≤ 140737488351232) : Calls Try.prog 29 #[.pointer (some ⟨q, 0, none⟩)] wr fun e w' => e = .returned (.bool true) ∧ ∃ n, w' = wr.drewN n := by
  obtain ⟨Sd, Sw, Q, C, ks, _, _, hK, hk, _⟩ := h
  exact whole_calls hK (by omega)

/-- A list marked: its block is the kept lists' from there. -/
theorem marked {g n cap : Nat} {bs : List Int} {m : Int} {B' : List Nat} (h : OSt w wr pd pw q rd rw N B) (hBl : ∀ i ∈ B, i < wr.heap.size) (hN : N + 2 ≤ 8796093022208) (hb : Row wr 5 1 (some ⟨g, 0, none⟩) n cap (bv bs)) (hn : n ≤ 140737488351232)
    (hg : g ∈ B) (hgw : w.heap.size ≤ g) (hB' : ∀ i ∈ B', i ∈ B ∧ i ≠ g) :
    Calls Try.prog 28 #[.pointer (some ⟨q, 0, none⟩), .slice (some ⟨g, 0, none⟩) n cap, .int .u8 m] wr fun e w' => e = .returned (.tuple #[]) ∧ OSt w w' pd pw q rd rw (N + 2) B' ∧ Far B' wr w' := by
  obtain ⟨Sd, Sw, Q, C, ks, hd, hw, hK, hk, a1, a2, a3, hl, hB, hc⟩ := h
  have hgd : g ∉ Sd := fun hm => hB g (by simp [hm]) hg
  have hgW : g ∉ Sw := fun hm => hB g (by simp [hm]) hg
  have hgQ : g ∉ Q := fun hm => hB g (by simp [hm]) hg
  have hgC : g ∉ C := fun hm => hB g (by simp [hm]) hg
  refine (marked_calls hK (by omega) hb hn hgC hgQ).mono ?_
  rintro e w' ⟨rfl, Q', C', ks', hK', hl', hc', hQ', hC'⟩
  have hsz := hc.size
  have eQ : ∀ i ∈ g :: Q, w.heap.size ≤ i := fun i hi => by
    rcases List.mem_cons.1 hi with rfl | hi
    · exact hgw
    · exact hl i (by simp [hi])
  have nd : ∀ i ∈ Sd, i ∉ g :: Q := fun i hi hm => by
    rcases List.mem_cons.1 hm with rfl | hm
    · exact hgd hi
    · exact a2 i (by simp [hm]) hi
  have nw : ∀ i ∈ Sw, i ∉ g :: Q := fun i hi hm => by
    rcases List.mem_cons.1 hm with rfl | hm
    · exact hgW hi
    · exact a3 i (by simp [hm]) hi
  have part : ∀ i ∈ Q' ++ C', i ∈ Q ++ C ∨ i = g ∨ wr.heap.size ≤ i := fun i hi => by
    rcases List.mem_append.1 hi with hi | hi
    · rcases hQ' i hi with h | h
      · exact .inl (by simp [h])
      · exact .inr (.inr h)
    · rcases hC' i hi with h | h | h
      · exact .inl (by simp [h])
      · exact .inr (.inl h)
      · exact .inr (.inr h)
  refine ⟨rfl, ⟨Sd, Sw, Q', C', ks', hd.keep hc' nd, hw.keep hc' nw, hK', by omega, a1, ?_, ?_, ?_, ?_, hc.trans hc' (fun i hi => .inr (eQ i hi))⟩, g :: Q, hc', ?_⟩
  · intro i hi hm
    rcases part i hi with h | rfl | h
    · exact a2 i h hm
    · exact hgd hm
    · have := hd.lt i hm; omega
  · intro i hi hm
    rcases part i hi with h | rfl | h
    · exact a3 i h hm
    · exact hgW hm
    · have := hw.lt i hm; omega
  · intro i hi
    rcases List.mem_append.1 hi with hi | hi
    · exact hl i (by simp [hi])
    · rcases List.mem_append.1 hi with hi | hi
      · exact hl i (by simp [hi])
      · rcases part i hi with h | rfl | h
        · exact hl i (by simp only [List.mem_append] at h ⊢; exact .inr (.inr h))
        · exact hgw
        · omega
  · intro i hi hm
    obtain ⟨hm1, hm2⟩ := hB' i hm
    rcases List.mem_append.1 hi with hi | hi
    · exact hB i (by simp [hi]) hm1
    · rcases List.mem_append.1 hi with hi | hi
      · exact hB i (by simp [hi]) hm1
      · rcases part i hi with h | rfl | h
        · exact hB i (by simp only [List.mem_append] at h ⊢; exact .inr (.inr h)) hm1
        · exact hm2 rfl
        · have := hBl i hm1; omega
  · intro i hi hm
    obtain ⟨hm1, hm2⟩ := hB' i hi
    rcases List.mem_cons.1 hm with rfl | hm
    · exact hm2 rfl
    · exact hB i (by simp [hm]) hm1
end OSt

end Go.Proofs.Ytoaaneejecdglaa
