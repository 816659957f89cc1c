/-
  PROVED: the contract of Kept's marked.
-/
import Derived.Test.YtoaaneejecdglaaKept
import Derived.Deep.Cut
namespace Go.Proofs.Ytoaaneejecdglaa
open Go.RowKit

theorem Try.info25 : (Try.prog.info? 25).map (fun i => (i.zero, i.size, i.bytes)) = some (some (.slice none 0 0), 1, 24) := by kernel_rfl

theorem bv_append (xs ys : List Int) : bv xs ++ bv ys = bv (xs ++ ys) := by simp [bv]

/-- The list ahead of an append still reads. -/
theorem append_keeps {wa w2 : World} {g n cap m cap2 : Nat} {A2 : Option Addr} {xs ys : List Value} (hb : Row wa 5 1 (some ⟨g, 0, none⟩) n cap xs) (hrow2 : Row w2 5 1 A2 (n + m) cap2 (xs ++ ys))
    (hcase : Grew wa (some ⟨g, 0, none⟩) n cap m A2 cap2) (hnew : cap < n + m → Chg [] wa w2) : Reads w2 1 (some ⟨g, 0, none⟩) n xs := by
  have hx : xs.length = n := by have := hb.1; omega
  by_cases hr : n + m ≤ cap
  · obtain ⟨rfl, _⟩ := hcase.room hr
    have := hrow2.reads.take (k := n) (by omega)
    rw [Nat.mul_one, ← hx, List.take_left] at this
    rw [hx] at this
    exact this
  · exact hb.reads.keep (hnew (by omega)) (by simp)

/-- Where marked stands: the lists, the bytes b and the bytes g. -/
def MSt (w w' : World) (q g n : Nat) (Q C : List Nat) (LA : Option Addr) (LC : Nat) (WA : Option Addr) (WC : Nat) (kl kw : List (List Int)) (ms : List Int) (A2 : Option Addr) (m2 : Nat) (gs : List Int) : Prop :=
  ∃ ls ws C', KSt w' q LA LC WA WC ls ws kl kw C' ∧ Reads w' 1 (some ⟨g, 0, none⟩) n (bv ms) ∧ Reads w' 1 A2 m2 (bv gs) ∧ Chg (g :: Q) w w' ∧ (∀ i ∈ q :: (ob LA ++ ob WA), i ∈ Q ∨ w.heap.size ≤ i) ∧
    (∀ i ∈ C', i ∈ C ∨ i = g ∨ w.heap.size ≤ i) ∧ g ∈ C' ∧ ∀ i ∈ ob A2, i ∈ C'

theorem MSt.cells {w w' : World} {q g n LC WC m2 : Nat} {Q C : List Nat} {LA WA A2 : Option Addr} {kl kw : List (List Int)} {ms gs : List Int} (h : MSt w w' q g n Q C LA LC WA WC kl kw ms A2 m2 gs) :
    Blk w' q 55 #[.slice LA kl.length LC, .slice WA kw.length WC] := by
  obtain ⟨ls, ws, C', hK, _⟩ := h
  exact hK.1

/-- One list more among the first. -/
theorem MSt.pushL {w w' w1 w2 : World} {q g n LC WC m2 LC' an ac : Nat} {Q C : List Nat} {LA WA A2 LA' A : Option Addr} {kl kw : List (List Int)} {ms gs k : List Int} {ls' : List Value}
    (h : MSt w w' q g n Q C LA LC WA WC kl kw ms A2 m2 gs) (c1 : Chg [] w' w1) (hls : ∀ ls, Row w' 25 1 LA kl.length LC ls → ls' = ls ++ [.slice A an ac]) (hrow : Row w2 25 1 LA' (kl.length + 1) LC' ls') (hch : Chg (ob LA) w1 w2)
    (hg : ∀ i ∈ ob LA', i ∈ ob LA ∨ w1.heap.size ≤ i) (hr : Reads w' 1 A an (bv k)) (hn : an ≤ 140737488355328) (hA : A = some ⟨g, 0, none⟩ ∨ A = A2) :
    MSt w (w2.setCell ⟨q, 0, none⟩ (.slice LA' (kl.length + 1) LC')) q g n Q C LA' LC' WA WC (kl ++ [k]) kw ms A2 m2 gs := by
  obtain ⟨ls, ws, C', hK, hb, hg2, hc, hq, hC, hgC, hA2⟩ := h
  have hAC : ∀ b ∈ ob A, b ∈ C' := by
    rcases hA with rfl | rfl
    · intro b hb; simp [ob] at hb; subst hb; exact hgC
    · exact hA2
  have e := hls ls hK.2.1
  subst e
  have hK2 := hK.pushL c1 hrow hch hg hr hn hAC
  have hsz := hc.size
  have hs1 := c1.size
  have hL : ∀ i ∈ ob LA, i ∈ g :: Q ∨ w.heap.size ≤ i := fun i hi => by
    rcases hq i (by simp [hi]) with h | h
    · exact .inl (by simp [h])
    · exact .inr h
  have hd := hK.2.2.2.2.2.2.1
  have hkeep : ∀ {A : Option Addr} {n : Nat} {xs : List Value}, Reads w' 1 A n xs → (∀ b ∈ ob A, b ∈ C') → Reads (w2.setCell ⟨q, 0, none⟩ (.slice LA' (kl.length + 1) LC')) 1 A n xs := fun hr hb =>
    ((hr.keep c1 (by simp)).keep hch (fun b hm hm2 => hd b (hb b hm) (by simp [hm2]))).keep ((Chg.refl [q] w2).setCell (.inl (by simp)) _) (fun b hm hm2 => hd b (hb b hm) (by simp at hm2; simp [hm2]))
  refine ⟨_, ws, C', hK2, hkeep hb (fun b hb => by simp [ob] at hb; subst hb; exact hgC), hkeep hg2 hA2, ?_, ?_, hC, hgC, hA2⟩
  · refine (((hc.next c1).trans hch hL).setCell ?_ _)
    rcases hq q (by simp) with h | h
    · exact .inl (by simp [h])
    · exact .inr h
  · intro i hi
    rcases List.mem_cons.1 hi with rfl | hi
    · exact hq i (by simp)
    · rcases List.mem_append.1 hi with hi | hi
      · rcases hg i hi with h | h
        · exact hq i (by simp [h])
        · exact .inr (by omega)
      · exact hq i (by simp [hi])

/-- One list more among the second: a new one. -/
theorem MSt.pushW {w w' w0 w1 w2 : World} {q g n LC WC m2 WC' an ac : Nat} {Q C : List Nat} {LA WA A2 WA' A : Option Addr} {kl kw : List (List Int)} {ms gs k : List Int} {ws' : List Value}
    (h : MSt w w' q g n Q C LA LC WA WC kl kw ms A2 m2 gs) (c0 : Chg [] w' w0) (c1 : Chg [] w0 w1) (hws : ∀ ws, Row w' 25 1 WA kw.length WC ws → ws' = ws ++ [.slice A an ac]) (hrow : Row w2 25 1 WA' (kw.length + 1) WC' ws') (hch : Chg (ob WA) w1 w2)
    (hg : ∀ i ∈ ob WA', i ∈ ob WA ∨ w1.heap.size ≤ i) (hr : Reads w0 1 A an (bv k)) (hn : an ≤ 140737488355328) (hA : ∀ b ∈ ob A, w'.heap.size ≤ b ∧ b < w0.heap.size) :
    MSt w (w2.setCell ⟨q, 1, none⟩ (.slice WA' (kw.length + 1) WC')) q g n Q C LA LC WA' WC' kl (kw ++ [k]) ms A2 m2 gs := by
  obtain ⟨ls, ws, C', hK, hb, hg2, hc, hq, hC, hgC, hA2⟩ := h
  have e := hws ws hK.2.2.1
  subst e
  have hsz := hc.size
  have hs0 := c0.size
  have hs1 := c1.size
  have hK0 := hK.keep c0 (by simp) (by simp)
  have hlt := hK.2.2.2.2.2.2.2
  have hd := hK.2.2.2.2.2.2.1
  have hQlt : ∀ i ∈ q :: (ob LA ++ ob WA), i < w'.heap.size := fun i hi => by
    rcases List.mem_cons.1 hi with rfl | hi
    · exact hK.1.lt
    · rcases List.mem_append.1 hi with hi | hi
      · exact hK.2.1.lt i hi
      · exact hK.2.2.1.lt i hi
  have hK1 := hK0.wide (D := ob A ++ C') (fun b hb => by simp [hb]) (fun b hb hm => by
    rcases List.mem_append.1 hb with hb | hb
    · have := (hA b hb).1; have := hQlt b hm; omega
    · exact hd b hb hm) (fun b hb => by
    rcases List.mem_append.1 hb with hb | hb
    · exact (hA b hb).2
    · have := hlt b hb; omega)
  have hK2 := hK1.pushW c1 hrow hch hg hr hn (fun b hb => by simp [hb])
  have hW : ∀ i ∈ ob WA, i ∈ g :: Q ∨ w.heap.size ≤ i := fun i hi => by
    rcases hq i (by simp [hi]) with h | h
    · exact .inl (by simp [h])
    · exact .inr h
  have hkeep : ∀ {A : Option Addr} {n : Nat} {xs : List Value}, Reads w' 1 A n xs → (∀ b ∈ ob A, b ∈ C') → Reads (w2.setCell ⟨q, 1, none⟩ (.slice WA' (kw.length + 1) WC')) 1 A n xs := fun hr hb =>
    (((hr.keep c0 (by simp)).keep c1 (by simp)).keep hch (fun b hm hm2 => hd b (hb b hm) (by simp [hm2]))).keep ((Chg.refl [q] w2).setCell (.inl (by simp)) _) (fun b hm hm2 => hd b (hb b hm) (by simp at hm2; simp [hm2]))
  refine ⟨ls, _, ob A ++ C', hK2, hkeep hb (fun b hb => by simp [ob] at hb; subst hb; exact hgC), hkeep hg2 hA2, ?_, ?_, ?_, by simp [hgC], fun i hi => by simp [hA2 i hi]⟩
  · refine ((((hc.next c0).next c1).trans hch hW).setCell ?_ _)
    rcases hq q (by simp) with h | h
    · exact .inl (by simp [h])
    · exact .inr h
  · intro i hi
    rcases List.mem_cons.1 hi with rfl | hi
    · exact hq i (by simp)
    · rcases List.mem_append.1 hi with hi | hi
      · exact hq i (by simp [hi])
      · rcases hg i hi with h | h
        · exact hq i (by simp [h])
        · exact .inr (by omega)
  · intro i hi
    rcases List.mem_append.1 hi with hi | hi
    · have := (hA i hi).1; exact .inr (.inr (by omega))
    · exact hC i hi

theorem copied_ex {w : World} {n c : Nat} {B : Option Addr} {ys : List Int} (hy : Reads w 1 B n (bv ys)) (hn : n ≤ 140737488351232) :
    Calls Try.prog 19 #[.slice B n c] w fun e w' => ∃ z, e = .returned (.slice (some ⟨z, 0, none⟩) n n) ∧ Row w' 5 1 (some ⟨z, 0, none⟩) n n (bv ys) ∧ Chg [] w w' ∧ Hid (z = w.heap.size) :=
  (copied_calls hy hn).mono fun _ _ ⟨he, hr, hc⟩ => ⟨_, he, hr, hc, rfl⟩

theorem blk_ge {z s : Nat} (h : s ≤ z) : ∀ i ∈ ob (some (⟨z, 0, none⟩ : Addr)), s ≤ i := fun i hi => by simp [ob] at hi; omega

theorem Grew.new_ge {w : World} {A A' : Option Addr} {n cap m cap' s : Nat} (h : Grew w A n cap m A' cap') (hlt : cap < n + m) (hs : s ≤ w.heap.size) : ∀ b ∈ ob A', s ≤ b := fun b hb => by
  rw [h.new hlt] at hb
  exact blk_ge hs b hb

theorem Row.uniq {w : World} {e : TypeId} {sz n cap : Nat} {A : Option Addr} {xs ys : List Value} (h : Row w e sz A n cap xs) (h' : Row w e sz A n cap ys) : xs = ys := by
  by_cases hn : n = 0
  · subst hn
    have h1 := h.1
    have h2 := h'.1
    rw [List.eq_nil_of_length_eq_zero (l := xs) (by omega), List.eq_nil_of_length_eq_zero (l := ys) (by omega)]
  · obtain ⟨g, cur, hA, hb, _, _, ht⟩ := h.blk (by omega)
    obtain ⟨g', cur', hA', hb', _, _, ht'⟩ := h'.blk (by omega)
    rw [hA] at hA'
    injection hA' with hA'
    injection hA' with hA'
    subst hA'
    unfold Blk at hb hb'
    rw [hb] at hb'
    injection hb' with hb'
    injection hb' with hb'
    rw [← ht, ← ht', hb']

theorem reads_app {w : World} {A : Option Addr} {n : Nat} {xs : List Int} {a b c : Int} (h : Reads w 1 A n (bv xs ++ [.int .u8 a, .int .u8 b, .int .u8 c])) : Reads w 1 A n (bv (xs ++ [a, b, c])) := by
  rw [← bv_append xs [a, b, c]]
  exact h

/-- What the last push leaves. -/
theorem MSt.last {w w' w0 w1 w2 : World} {q g n LC WC m2 WC' an ac c : Nat} {Q C : List Nat} {LA WA A2 WA' A : Option Addr} {ks : List (List Int)} {ms gs k : List Int} {ws : List Value}
    (h : MSt w w' q g n Q C LA LC WA WC (ks ++ [ms] ++ [k]) (ks ++ [ms]) ms A2 m2 gs) (hcn : (ks ++ [ms]).length = c) (c0 : Chg [] w' w0) (c1 : Chg [] w0 w1) (hws : Row w' 25 1 WA c WC ws) (hrow : Row w2 25 1 WA' (c + 1) WC' (ws ++ [.slice A an ac])) (hch : Chg (ob WA) w1 w2)
    (hg : ∀ i ∈ ob WA', i ∈ ob WA ∨ w1.heap.size ≤ i) (hr : Reads w0 1 A an (bv k)) (hn : an ≤ 140737488355328) (hA : ∀ b ∈ ob A, w'.heap.size ≤ b ∧ b < w0.heap.size):
    ∃ Q' C' ks', KeptAt (w2.setCell ⟨q, 1, none⟩ (.slice WA' (c + 1) WC')) q Q' C' ks' ∧ ks'.length = ks.length + 2 ∧ Chg (g :: Q) w (w2.setCell ⟨q, 1, none⟩ (.slice WA' (c + 1) WC')) ∧
      (∀ k ∈ Q', k ∈ Q ∨ w.heap.size ≤ k) ∧ ∀ k ∈ C', k ∈ C ∨ k = g ∨ w.heap.size ≤ k := by
  subst hcn
  obtain ⟨l1, l2, C', hK, hb, hg2, hc, hq, hC, hgC, hA2⟩ := h.pushW c0 c1 (fun l hl => by rw [hws.uniq hl]) hrow hch hg hr hn hA
  rw [List.length_append, List.length_singleton] at hK
  exact ⟨_, C', ks ++ [ms] ++ [k], ⟨_, _, _, _, l1, l2, rfl, by simpa using hK⟩, by simp, hc, hq, hC⟩

set_option maxHeartbeats 2000000 in
theorem marked_calls {w : World} {q g n cap : Nat} {Q C : List Nat} {ks : List (List Int)} {bs : List Int} {m : Int} (h : KeptAt w q Q C ks) (hk : ks.length + 2 ≤ 8796093022208)
    (hb : Row w 5 1 (some ⟨g, 0, none⟩) n cap (bv bs)) (hn : n ≤ 140737488351232) (hgC : g ∉ C) (hgQ : g ∉ Q) :
    Calls Try.prog 28 #[.pointer (some ⟨q, 0, none⟩), .slice (some ⟨g, 0, none⟩) n cap, .int .u8 m] w fun e w' => e = .returned (.tuple #[]) ∧ ∃ Q' C' ks', KeptAt w' q Q' C' ks' ∧ ks'.length = ks.length + 2 ∧ Chg (g :: Q) w w' ∧
      (∀ k ∈ Q', k ∈ Q ∨ w.heap.size ≤ k) ∧ ∀ k ∈ C', k ∈ C ∨ k = g ∨ w.heap.size ≤ k := by
  obtain ⟨LA, LC, WA, WC, ls, ws, rfl, hK⟩ := h
  obtain ⟨i0, hi, hz0, hz1, hz2⟩ := info_parts Try.info5
  obtain ⟨j0, hj, hy0, hy1, hy2⟩ := info_parts Try.info25
  have HK := Lib.hid hK
  have HGC := Lib.hid hgC
  have HGQ := Lib.hid hgQ
  have hglt := hb.lt g (by simp [ob])
  clear hK hgC hgQ
  go_enter Try.func28, Try.ntmps28
  go_wp2
  go_loopw [6] (fun i wr => ∃ (k : Nat) (ms : List Int), k ≤ n ∧ i = .int .i64 k ∧ Row wr 5 1 (some ⟨g, 0, none⟩) n cap (bv ms) ∧ Chg [g] w wr) (fun i _ => n - (intOf i).toNat)
  case atStart => exact ⟨0, bs, Nat.zero_le _, rfl, hb, Chg.refl _ _⟩
  case round =>
    clear hb
    obtain ⟨k, ms, hkn, rfl, hrow, hcw⟩ := hrel
    by_cases hlt : k < n
    · obtain ⟨gg, cur, hA, hbk, h1, h2, h3⟩ := hrow.blk (by omega)
      obtain rfl : g = gg := by injection hA with hA; injection hA
      have hkc : k < cur.size := by omega
      have hd : wr.cell? ⟨g, k, none⟩ = some cur[k] := by rw [hbk.cell]; exact Array.getElem?_eq_getElem hkc
      have hf := hbk.frozen k
      have HR := Lib.hid hrow
      clear hbk h3 hA hrow
      go_wp2
      go_roundw
      case rel =>
        refine ⟨k + 1, ms.set k ((m + k) % 256), by omega, by go_num, ?_, hcw.setCell (.inl (by simp)) _⟩
        have := HR.out.set_ (k := k) (by omega) (.int .u8 ((m + k) % 256))
        unfold bv at this ⊢
        rw [← List.map_set] at this
        exact this
      case measure => simp [intOf]; omega
    · obtain rfl : k = n := by omega
      have hrowA := hrow.alloc (.cells #[.int .u8 m, .int .u8 2, .int .u8 2] 5)
      have hone := built_reads wr 5 [.int .u8 m, .int .u8 2, .int .u8 2]
      have hca := (Chg.refl [] wr).alloc (.cells #[.int .u8 m, .int .u8 2, .int .u8 2] 5)
      go_wp2_with (at_builtin; refine wpList_append_row2 _ rfl (.tmp 21) (.tmp 23) 25 rfl 5 i0 (.int .u8 0) 1 1 Try.underlying25 hi hz0 hz1 hz2 rfl _ k cap (bv ms) rfl hrowA _ 3 3 [.int .u8 m, .int .u8 2, .int .u8 2] rfl hone (by simp [Value.oneCell']) (by unfold maxLen; omega) (grow_ok (by omega)) ?_)
      intro A2 cap2 w2 hrow2 hch2 hcase2 hnew2
      have hM : MSt w w2 q g k (q :: (ob LA ++ ob WA)) C LA LC WA WC ks ks ms A2 (k + 3) (ms ++ [m, 2, 2]) := by
        have hcc : Chg [g] w w2 := (hcw.next hca).trans hch2 (fun i hi => .inl (by simpa [ob] using hi))
        have hszw := (hcw.next hca).size
        have hK2 := HK.out.keep hcc (fun i hi hm => by simp only [List.mem_singleton] at hm; subst hm; exact HGQ.out hi) (fun i hi hm => by simp only [List.mem_singleton] at hm; subst hm; exact HGC.out hi)
        have hlt := HK.out.2.2.2.2.2.2.2
        have hd := HK.out.2.2.2.2.2.2.1
        have hQlt : ∀ i ∈ q :: (ob LA ++ ob WA), i < w.heap.size := fun i hi => by
          rcases List.mem_cons.1 hi with rfl | hi
          · exact HK.out.1.lt
          · rcases List.mem_append.1 hi with hi | hi
            · exact HK.out.2.1.lt i hi
            · exact HK.out.2.2.1.lt i hi
        have hA2 : ∀ i ∈ ob A2, i = g ∨ w.heap.size ≤ i := fun i hi => by
          rcases hcase2.ob_ i hi with h | h
          · exact .inl (by simpa [ob] using h)
          · exact .inr (by omega)
        have e : bv ms ++ [.int .u8 m, .int .u8 2, .int .u8 2] = bv (ms ++ [m, 2, 2]) := bv_append ms [m, 2, 2]
        refine ⟨ls, ws, g :: (ob A2 ++ C), hK2.wide (fun b hb => by simp [hb]) ?_ ?_, append_keeps hrowA hrow2 hcase2 hnew2, by rw [← e]; exact hrow2.reads, hcc.mono (by simp), fun i hi => .inl hi, ?_, by simp, fun i hi => by simp [hi]⟩
        · intro b hb hm
          rcases List.mem_cons.1 hb with rfl | hb
          · exact HGQ.out hm
          · rcases List.mem_append.1 hb with hb | hb
            · rcases hA2 b hb with rfl | h
              · exact HGQ.out hm
              · have := hQlt b hm; omega
            · exact hd b hb hm
        · intro b hb
          have hs2 := hcc.size
          rcases List.mem_cons.1 hb with rfl | hb
          · omega
          · rcases List.mem_append.1 hb with hb | hb
            · exact hrow2.lt b hb
            · have := hlt b hb; omega
        · intro i hi
          rcases List.mem_cons.1 hi with rfl | hi
          · exact .inr (.inl rfl)
          · rcases List.mem_append.1 hi with hi | hi
            · rcases hA2 i hi with h | h
              · exact .inr (.inl h)
              · exact .inr (.inr h)
            · exact .inl hi
      clear hrowA hone hca hch2 hcase2 hnew2 hrow2 hrow hcw
      have HM := Lib.hid hM
      obtain ⟨ls2, ws2, C2, hK2, hRb2, hRg2, hzz⟩ := hM
      clear hzz
      have hb2 := hK2.1
      have hL2 := hK2.2.1
      have hqL2 : q ∉ ob LA := fun hm => hL2.ne_blk hb2 (by decide) q hm rfl
      have c20 := hb2.cell 0
      have hLX := hL2.alloc (.cells #[.slice (some ⟨g, 0, none⟩) k cap] 25)
      have hbX := hb2.alloc (.cells #[.slice (some ⟨g, 0, none⟩) k cap] 25)
      have honeX := built_reads w2 25 [.slice (some ⟨g, 0, none⟩) k cap]
      have hcX := (Chg.refl [] w2).alloc (.cells #[.slice (some ⟨g, 0, none⟩) k cap] 25)
      have HL2 := Lib.hid hL2
      have HRb2 := Lib.hid hRb2
      clear hK2 hb2 hL2 hRb2 hRg2
      go_wp2_with (at_builtin; refine wpList_append_row2 _ rfl (.tmp 29) (.tmp 31) 53 rfl 25 j0 (.slice none 0 0) 1 24 Try.underlying53 hj hy0 hy1 hy2 rfl LA ks.length LC ls2 rfl hLX _ 1 1 [.slice (some ⟨g, 0, none⟩) k cap] rfl honeX (by simp [Value.oneCell']) (by unfold maxLen; omega) (grow_quarter (by omega)) ?_)
      intro LA3 LC3 w3 hrow3 hch3 hcase3 _
      have hM4 := HM.out.pushL hcX (fun l hl => by rw [HL2.out.uniq hl]) hrow3 hch3 hcase3.ob_ HRb2.out (by omega) (.inl rfl)
      have hb3 := hch3.blk' hbX hqL2
      have c30 := hb3.cell 0
      have f30 := hb3.frozen 0
      clear hcX hrow3 hch3 hcase3 hLX hbX honeX hb3 c20
      go_wp2_with fail
      generalize w3.setCell ⟨q, 0, none⟩ (.slice LA3 (ks.length + 1) LC3) = w4 at *
      have HM4 := Lib.hid hM4
      obtain ⟨ls4, ws4, C4, hK4, hRb4, hRg4, hzz⟩ := hM4
      clear hzz hRg4
      have hb4 := hK4.1
      have hW4 := hK4.2.2.1
      have hqW4 : Hid (q ∉ ob WA) := fun hm => hW4.ne_blk hb4 (by decide) q hm rfl
      have c41 := hb4.cell 1
      have HB4 := Lib.hid hb4
      have HW4 := Lib.hid hW4
      have HRb4 := Lib.hid hRb4
      clear hK4 hb4 hW4 hRb4
      go_cut [] from 35 (fun wx => ∃ WA6 WC6, Hid (MSt w wx q g k (q :: (ob LA ++ ob WA)) C LA3 LC3 WA6 WC6 (ks ++ [ms]) (ks ++ [ms]) ms A2 (k + 3) (ms ++ [m, 2, 2])))
      case first =>
        go_region_law (first
          | (go_simp; go_at_call 19; refine Calls.mono (copied_calls (ys := ms) ?_ hn) ?_; · exact HRb4.out
             rintro e w5 ⟨rfl, hr5, hc5⟩
             have HR5 : Hid (Row w5 5 1 (some ⟨w4.heap.size, 0, none⟩) k k (bv ms)) := hr5
             have c51 := hc5.cell (p := ⟨q, 1, none⟩) (v := .slice WA ks.length WC) (by exact c41) (by simp)
             have hWX := (hc5.row' HW4.out (by simp)).alloc (.cells #[.slice (some ⟨w4.heap.size, 0, none⟩) k k] 25)
             have hbX := (hc5.blk' HB4.out (by simp)).alloc (.cells #[.slice (some ⟨w4.heap.size, 0, none⟩) k k] 25)
             have cX1 := hbX.cell 1
             have honeX := built_reads w5 25 [.slice (some ⟨w4.heap.size, 0, none⟩) k k])
          | (refine step_append_row _ rfl (.tmp 39) (.tmp 42) 53 rfl 25 j0 (.slice none 0 0) 1 24 Try.underlying53 hj hy0 hy1 hy2 rfl WA ks.length WC ws4 rfl hWX _ 1 1 [.slice (some ⟨w4.heap.size, 0, none⟩) k k] rfl honeX (by simp [Value.oneCell']) (by unfold maxLen; omega) (grow_quarter (by omega)) ?_
             intro WA6 WC6 w6 hrow6 hch6 hcase6
             have hb6 := hch6.blk' hbX hqW4.out
             have c61 := hb6.cell 1
             have f61 := hb6.frozen 1))
        all_goals
          have hM7 := HM4.out.pushW (w0 := w5) (w1 := _) (by first | exact hc5 | exact (Chg.refl [] w4).drew.next hc5 | exact ((Chg.refl [] w4).drewN _).next hc5) (by first | exact (Chg.refl [] w5).alloc _ | exact ((Chg.refl [] w5).alloc _).drew | exact ((Chg.refl [] w5).alloc _).drewN _ | exact (Chg.refl [] w5).drew.alloc _ | exact ((Chg.refl [] w5).drewN _).alloc _)
            (fun l hl => by rw [HW4.out.uniq hl]) hrow6 hch6 hcase6.ob_ HR5.out.reads (by omega) (fun b hb => ⟨by simp [ob] at hb; omega, HR5.out.lt b hb⟩)
          go_wp2_with fail
          go_meet
          case rel => exact ⟨_, _, hM7⟩
      case rest =>
        obtain ⟨WA6, WC6, HM7⟩ := hcut
        clear HM4 HB4 HW4 HRb4 c41 hqW4
        generalize wc = w7 at *
        obtain ⟨ls7, ws7, C7, hK7, hRb7, hRg7, hzz⟩ := HM7.out
        clear hzz
        have hb7 := hK7.1
        have hL7 := hK7.2.1
        have hqL7 : q ∉ ob LA3 := fun hm => hL7.ne_blk hb7 (by decide) q hm rfl
        have e1 : (ks ++ [ms]).length = ks.length + 1 := by simp
        rw [e1] at hL7 hb7
        have c70 := hb7.cell 0
        have hLX := hL7.alloc (.cells #[.slice A2 (k + 3) cap2] 25)
        have hbX := hb7.alloc (.cells #[.slice A2 (k + 3) cap2] 25)
        have honeX := built_reads w7 25 [.slice A2 (k + 3) cap2]
        have hcX := (Chg.refl [] w7).alloc (.cells #[.slice A2 (k + 3) cap2] 25)
        have HL7 := Lib.hid hL7
        have HRg7 := Lib.hid hRg7
        clear hK7 hb7 hL7 hRb7 hRg7 e1
        go_wp2_with (at_builtin; refine wpList_append_row2 _ rfl (.tmp 50) (.tmp 52) 53 rfl 25 j0 (.slice none 0 0) 1 24 Try.underlying53 hj hy0 hy1 hy2 rfl LA3 (ks.length + 1) LC3 ls7 rfl hLX _ 1 1 [.slice A2 (k + 3) cap2] rfl honeX (by simp [Value.oneCell']) (by unfold maxLen; omega) (grow_quarter (by omega)) ?_)
        intro LA8 LC8 w8 hrow8 hch8 hcase8 _
        have hM8 := HM7.out.pushL (w1 := _) (A := A2) (an := k + 3) (ac := cap2) (ls' := ls7 ++ [.slice A2 (k + 3) cap2]) (by first | exact hcX | exact hcX.drew | exact hcX.drewN _ | exact (Chg.refl [] w7).drew.alloc _ | exact ((Chg.refl [] w7).drewN _).alloc _) (fun l hl => by rw [List.length_append, List.length_singleton] at hl; rw [HL7.out.uniq hl]) (by rw [List.length_append, List.length_singleton]; exact hrow8) hch8 hcase8.ob_ HRg7.out (by omega) (.inr rfl)
        rw [List.length_append, List.length_singleton] at hM8
        have hb8 := hch8.blk' hbX hqL7
        have c80 := hb8.cell 0
        have f80 := hb8.frozen 0
        clear hcX hrow8 hch8 hcase8 hLX hbX honeX hb8 c70
        go_wp2_with fail
        generalize w8.setCell ⟨q, 0, none⟩ (.slice LA8 (ks.length + 1 + 1) LC8) = w9 at *
        have HM8 := Lib.hid hM8
        obtain ⟨ls9, ws9, C9, hK9, hRb9, hRg9, hzz⟩ := hM8
        clear hzz hRg9
        have hb9 := hK9.1
        have hW9 := hK9.2.2.1
        have hqW9 : Hid (q ∉ ob WA6) := fun hm => hW9.ne_blk hb9 (by decide) q hm rfl
        have e1 : (ks ++ [ms]).length = ks.length + 1 := by simp
        rw [e1] at hW9 hb9
        have c91 := hb9.cell 1
        have HB9 := Lib.hid hb9
        have HW9 := Lib.hid hW9
        have HRb9 := Lib.hid hRb9
        clear hK9 hb9 hW9 hRb9 e1
        have hcB := (Chg.refl [] w9).alloc (.cells #[.int .u8 m, .int .u8 2, .int .u8 2] 5)
        have honeB := built_reads w9 5 [.int .u8 m, .int .u8 2, .int .u8 2]
        have hbB := HB9.out.alloc (.cells #[.int .u8 m, .int .u8 2, .int .u8 2] 5)
        have cB1 := hbB.cell 1
        have HWlt : Hid (∀ i ∈ ob WA6, i < w9.heap.size) := HW9.out.lt
        have Hqlt : Hid (q < w9.heap.size) := HB9.out.lt
        go_region_law (first
          | (go_simp; go_at_call 19; refine Calls.mono (copied_ex (ys := ms) ?_ hn) ?_; · exact HRb9.out
             rintro e w10 ⟨z, rfl, hr10, hc10, hz⟩
             have hb10 := hc10.blk' HB9.out (by simp)
             have c10 := hb10.cell 1
             have hbY := hb10.alloc (.cells #[.int .u8 m, .int .u8 2, .int .u8 2] 5)
             have cY1 := hbY.cell 1
             have hWY := (hc10.row' HW9.out (by simp)).alloc (.cells #[.int .u8 m, .int .u8 2, .int .u8 2] 5)
             have hRY : Row (w10.alloc (.cells #[.int .u8 m, .int .u8 2, .int .u8 2] 5)) 5 1 (some ⟨z, 0, none⟩) k k (bv ms) := Row.alloc hr10 (.cells #[.int .u8 m, .int .u8 2, .int .u8 2] 5)
             have honeY := built_reads w10 5 [.int .u8 m, .int .u8 2, .int .u8 2]
             have hcY : Chg [] w9 (w10.alloc (.cells #[.int .u8 m, .int .u8 2, .int .u8 2] 5)) := by
               first
                 | exact Chg.alloc hc10 _
                 | exact ((Chg.refl [] w9).drew.next hc10).alloc _
                 | exact (((Chg.refl [] w9).drewN _).next hc10).alloc _
             have hzn : Hid (∀ i ∈ ob (some (⟨z, 0, none⟩ : Addr)), w9.heap.size ≤ i) := blk_ge (by rw [hz.out]; exact Nat.le_refl _))
          | (go_simp; go_at_call 19; refine Calls.mono (copied_ex (ys := ms) ?_ hn) ?_; · exact hcB.reads' HRb9.out (by simp)
             rintro e w10 ⟨z, rfl, hr10, hc10, hz⟩
             have hbY := hc10.blk' hbB (by simp)
             have cY1 := hbY.cell 1
             have hWY := hc10.row' (HW9.out.alloc (.cells #[.int .u8 m, .int .u8 2, .int .u8 2] 5)) (by simp)
             have hRY := hr10
             have honeY := hc10.reads' honeB (by simp)
             have hcY : Chg [] w9 w10 := by
               first
                 | exact Chg.next hcB hc10
                 | exact hcB.drew.next hc10
                 | exact (hcB.drewN _).next hc10
             have hzn : Hid (∀ i ∈ ob (some (⟨z, 0, none⟩ : Addr)), w9.heap.size ≤ i) := blk_ge (by rw [hz.out]; exact hcB.size))
          | (refine step_append_row _ rfl (.tmp 62) (.tmp 64) 25 rfl 5 i0 (.int .u8 0) 1 1 Try.underlying25 hi hz0 hz1 hz2 rfl (some ⟨z, 0, none⟩) k k (bv ms) rfl hRY _ 3 3 [.int .u8 m, .int .u8 2, .int .u8 2] rfl honeY (by simp [Value.oneCell']) (by unfold maxLen; omega) (grow_ok (by omega)) ?_
             intro A11 cap11 w11 hrow11 hch11 hcase11
             have hW11 : Row w11 25 1 WA6 (ks.length + 1) WC6 ws9 := hch11.row' hWY (fun i hi hm => by have := HWlt.out i hi; have := hzn.out i hm; omega)
             have hb11 := hch11.blk' hbY (fun hm => by have := Hqlt.out; have := hzn.out q hm; omega)
             have hc11 : Hid (Chg [] w9 w11) := Chg.trans hcY hch11 (fun i hi => .inr (hzn.out i hi))
             have hA11 : Hid (∀ b ∈ ob A11, w9.heap.size ≤ b ∧ b < w11.heap.size) := fun b hb => ⟨hcase11.new_ge (by omega) hcY.size b hb, hrow11.lt b hb⟩
             have HR11 := Lib.hid hrow11
             have c111 := hb11.cell 1
             have hbZ := hb11.alloc (.cells #[.slice A11 (k + 3) cap11] 25)
             have cZ1 := hbZ.cell 1
             have hWZ := hW11.alloc (.cells #[.slice A11 (k + 3) cap11] 25)
             have honeZ := built_reads w11 25 [.slice A11 (k + 3) cap11]
             clear hrow11 hcase11)
          | (refine step_append_row _ rfl (.tmp 60) (.tmp 66) 53 rfl 25 j0 (.slice none 0 0) 1 24 Try.underlying53 hj hy0 hy1 hy2 rfl WA6 (ks.length + 1) WC6 ws9 rfl hWZ _ 1 1 [.slice A11 (k + 3) cap11] rfl honeZ (by simp [Value.oneCell']) (by unfold maxLen; omega) (grow_quarter (by omega)) ?_
             intro WA12 WC12 w12 hrow12 hch12 hcase12
             have hb12 := hch12.blk' hbZ hqW9.out
             have c121 := hb12.cell 1
             have f121 := hb12.frozen 1))
        all_goals
          have hend := HM8.out.last (by simp) hc11.out ((Chg.refl [] w11).alloc _) HW9.out hrow12 hch12 hcase12.ob_ (reads_app HR11.out.reads) (by omega) hA11.out
          go_wp2_with fail
          go_end0
          exact ⟨rfl, hend⟩

end Go.Proofs.Ytoaaneejecdglaa
