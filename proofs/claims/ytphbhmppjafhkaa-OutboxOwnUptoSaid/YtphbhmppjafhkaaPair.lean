/-
  PROVED: the pair of outboxes (two of the program's, two of the document's): its words, what a step leaves, the contracts of sameItems, site, renewed and begun.
-/
import Derived.Test.YtphbhmppjafhkaaRef
namespace Go.Proofs.Ytphbhmppjafhkaa
open Go.RowKit

/-- Two footprints share no block. -/
def Apart (S T : List Nat) : Prop := ∀ k ∈ S, k ∉ T
theorem Apart.symm {S T : List Nat} (h : Apart S T) : Apart T S := fun k hk hm => h k hm hk
theorem Apart.next {S S' T : List Nat} {w : World} (h : Apart S T) (hS : ∀ k ∈ S', k ∈ S ∨ w.heap.size ≤ k) (hT : ∀ k ∈ T, k < w.heap.size) : Apart S' T := fun k hk hm => by
  rcases hS k hk with hh | hh
  · exact h k hh hm
  · have := hT k hm; omega

/-- Item k of a list that reads. -/
theorem item_at {w : World} {A : Option Addr} {m k : Nat} {l : List (Int × Int)} (hr : Reads w 2 A m (itv cI l)) (hk : k < l.length) :
    ∃ ad, A = some ad ∧ w.cell? (ad.add (k * 2)) = some (.int .i64 (l[k]).1) ∧ w.cell? (ad.add (k * 2 + 1)) = some (.int .i64 (l[k]).2) := by
  have hl := hr.1
  rw [itv_length cI_len] at hl
  obtain ⟨ad, e, hcl⟩ := hr.2 (by omega)
  exact ⟨ad, e, hcl _ _ (itv_get cI_len hk (j := 0) (u := .int .i64 (l[k]).1) rfl), hcl _ _ (itv_get cI_len hk (j := 1) (u := .int .i64 (l[k]).2) rfl)⟩

set_option maxRecDepth 100000 in
set_option maxHeartbeats 1000000 in
theorem sameItems_yes {w : World} {z cz m c : Nat} {B : Option Addr} {l : List (Int × Int)} (hm : m ≤ 4096) (hx : Reads w 2 (some ⟨z, 0, none⟩) m (itv cI l)) (hy : Row w 99 2 B m c (itv cI l)) :
    Calls Try.prog 53 #[.slice (some ⟨z, 0, none⟩) m cz, .slice B m c] w fun e w' => e = .returned (.bool true) ∧ ∃ q, w' = w.drewN q := by
  have hl : Hid (l.length = m) := by have := hx.1; rw [itv_length cI_len] at this; unfold Hid; omega
  have HX := Lib.hid hx
  have HY := Lib.hid hy
  clear hx hy
  go_enter Try.func53, Try.ntmps53
  go_wp2_with fail
  go_loopw [5] (fun i wr => ∃ k q, k ≤ m ∧ i = .int .i64 k ∧ wr = w.drewN q) (fun i _ => m - (intOf i).toNat)
  case atStart => exact ⟨0, 0, Nat.zero_le _, rfl, rfl⟩
  case round =>
    obtain ⟨k, q, hk, rfl, rfl⟩ := hrel
    by_cases hlt : k < m
    · have hkl : k < l.length := by rw [hl.out]; exact hlt
      obtain ⟨c0, c1⟩ := item_cells HX.out hkl
      obtain ⟨g, cur, rfl, _⟩ := HY.out.blk (by omega)
      obtain ⟨d0, d1⟩ := item_cells HY.out.reads hkl
      generalize (l[k]).1 = a at *
      generalize (l[k]).2 = b at *
      clear hkl
      go_wp2_with fail
      go_quiet (fail)
      go_wp2_with fail
      go_roundw
      case rel => exact ⟨k + 1, _, by omega, by go_num, rfl⟩
      case measure => simp [intOf]; omega
    · go_wp2
      go_ret
      exact ⟨rfl, q, rfl⟩

/-- Of one site: the program's outbox, the document's, and what both hold. -/
structure Half where
  p : Nat
  S : List Nat
  r : Nat
  T : List Nat
  win : Nat
  t : St

def Half.all (f : Half) : List Nat := f.S ++ f.T
def Half.At (w : World) (f : Half) : Prop := Box w f.p f.S f.win f.t ∧ RBox w f.r f.T f.win f.t ∧ Apart f.S f.T

/-- The pair behind block q: at site i the half f, at the other g. -/
def PairAt (w : World) (q i : Nat) (f g : Half) : Prop :=
  (∃ cs, Blk w q 88 cs ∧ cs.size = 4 ∧ cs[i]? = some (.pointer (some ⟨f.p, 0, none⟩)) ∧ cs[2 + i]? = some (.pointer (some ⟨f.r, 0, none⟩)) ∧ cs[1 - i]? = some (.pointer (some ⟨g.p, 0, none⟩)) ∧ cs[3 - i]? = some (.pointer (some ⟨g.r, 0, none⟩))) ∧
  f.At w ∧ g.At w ∧ Apart f.all g.all ∧ q ∉ f.all ∧ q ∉ g.all
theorem PairAt.swap {w : World} {q i : Nat} {f g : Half} (h : PairAt w q i f g) (hi : i < 2) : PairAt w q (1 - i) g f := by
  obtain ⟨⟨cs, hb, hs, h1, h2, h3, h4⟩, hf, hg, ha, hq, hq'⟩ := h
  refine ⟨⟨cs, hb, hs, h3, ?_, ?_, ?_⟩, hg, hf, ha.symm, hq', hq⟩
  · rw [show 2 + (1 - i) = 3 - i by omega]; exact h4
  · rw [show 1 - (1 - i) = i by omega]; exact h1
  · rw [show 3 - (1 - i) = 2 + i by omega]; exact h2

theorem Half.At.keep {w w' : World} {f : Half} {T : List Nat} (h : f.At w) (hc : Chg T w w') (hS : ∀ i ∈ f.all, i ∉ T) : f.At w' :=
  ⟨h.1.keep hc (fun i hi => hS i (by simp [Half.all, hi])), h.2.1.keep hc (fun i hi => hS i (by simp [Half.all, hi])), h.2.2⟩
theorem Half.At.lt {w : World} {f : Half} (h : f.At w) : ∀ i ∈ f.all, i < w.heap.size := by
  intro i hi
  rcases List.mem_append.1 hi with hi | hi
  · exact h.1.lt i hi
  · exact h.2.1.lt i hi
theorem PairAt.keep {w w' : World} {q i : Nat} {f g : Half} (h : PairAt w q i f g) (hc : Chg [] w w') : PairAt w' q i f g := by
  obtain ⟨⟨cs, hb, hs⟩, hf, hg, ha⟩ := h
  exact ⟨⟨cs, hb.keep hc (by simp), hs⟩, hf.keep hc (by simp), hg.keep hc (by simp), ha⟩
theorem PairAt.one {w : World} {q i : Nat} {f g : Half} (h : PairAt w q i f g) : w.cell? ⟨q, i, none⟩ = some (.pointer (some ⟨f.p, 0, none⟩)) := by
  obtain ⟨⟨cs, hb, hs, h1, _⟩, _⟩ := h
  rw [hb.cell]; exact h1
theorem PairAt.two {w : World} {q i : Nat} {f g : Half} (h : PairAt w q i f g) : w.cell? ⟨q, 2 + i, none⟩ = some (.pointer (some ⟨f.r, 0, none⟩)) := by
  obtain ⟨⟨cs, hb, hs, h1, h2, _⟩, _⟩ := h
  rw [hb.cell]; exact h2
theorem PairAt.lt {w : World} {q i : Nat} {f g : Half} (h : PairAt w q i f g) : q < w.heap.size := by
  obtain ⟨⟨cs, hb, _⟩, _⟩ := h
  exact hb.lt

theorem bits_one (n : Int) : bits .and .i64 n 1 = 0 ∨ bits .and .i64 n 1 = 1 := by
  show IntKind.i64.wrap (((BitVec.ofInt 64 n &&& BitVec.ofInt 64 1).toNat : Nat) : Int) = 0 ∨ IntKind.i64.wrap (((BitVec.ofInt 64 n &&& BitVec.ofInt 64 1).toNat : Nat) : Int) = 1
  have h1 : (BitVec.ofInt 64 1).toNat = 1 := by decide
  have h2 := Nat.mod_lt (BitVec.ofInt 64 n).toNat (show 0 < 2 by omega)
  rw [BitVec.toNat_and, h1, Nat.and_one_is_mod, IntKind.wrap_i64]
  omega
/-- The site of a step. -/
def siteN (n : Int) : Nat := (bits .and .i64 n 1).toNat
theorem siteN_lt (n : Int) : siteN n < 2 := by unfold siteN; have := bits_one n; omega
theorem siteN_calls (n : Int) (w : World) : Calls Try.prog 49 #[.int .i64 n] w fun e w' => e = .returned (.int .i64 (siteN n : Nat)) ∧ w = w' := by
  have e : ((siteN n : Nat) : Int) = bits .and .i64 n 1 := by unfold siteN; have := bits_one n; omega
  rw [e]
  go_enter Try.func49, Try.ntmps49
  go_wp2
  go_ret
  exact ⟨rfl, rfl⟩

/-- What a step on site i leaves. -/
def PLeft (w : World) (q i : Nat) (f g : Half) (w' : World) : Prop :=
  ∃ f', PairAt w' q i f' g ∧ Chg (q :: f.all) w w' ∧ ∀ k ∈ f'.all, k ∈ f.all ∨ w.heap.size ≤ k
theorem PLeft.same {w w' : World} {q i : Nat} {f g : Half} (h : PairAt w q i f g) (hc : Chg [] w w') : PLeft w q i f g w' :=
  ⟨f, h.keep hc, hc.mono (by simp), fun k hk => .inl hk⟩
theorem PLeft.after {w w0 w' : World} {q i : Nat} {f g : Half} (hc : Chg [] w w0) (h : PLeft w0 q i f g w') : PLeft w q i f g w' := by
  obtain ⟨f', hp, hc', hS⟩ := h
  refine ⟨f', hp, (hc.mono (T := q :: f.all) (by simp)).trans hc' (fun i hi => .inl hi), fun k hk => ?_⟩
  rcases hS k hk with h | h
  · exact .inl h
  · exact .inr (Nat.le_trans hc.size h)

theorem pair_both {w w1 w2 w3 w4 w5 : World} {q i : Nat} {f g : Half} {t' : St} (h : PairAt w q i f g) (c1 : Chg [] w w1) (hl : Left w1 f.p f.S f.win t' w2) (c2 : Chg [] w2 w3) (hr : RLeft w3 f.r f.T f.win t' w4) (c4 : Chg [] w4 w5) : PLeft w q i f g w5 := by
  have hq := h.lt
  obtain ⟨⟨cs, hb, hcs⟩, hf, hg, ha, hqf, hqg⟩ := h
  obtain ⟨S', hd2, hc2, hS⟩ := hl
  obtain ⟨T', hr4, hc4, hT⟩ := hr
  have hflt := hf.lt
  have hglt := hg.lt
  have s01 := c1.size
  have s12 := hc2.size
  have s23 := c2.size
  have hfS : ∀ k ∈ f.S, k ∈ f.all := fun k hk => by simp [Half.all, hk]
  have hfT : ∀ k ∈ f.T, k ∈ f.all := fun k hk => by simp [Half.all, hk]
  have hS'T : Apart S' f.T := Apart.next hf.2.2 hS (fun k hk => by have := hflt k (hfT k hk); omega)
  have hd4 := (hd2.keep c2 (by simp)).keep hc4 hS'T
  have hTS : Apart S' T' := by
    intro k hk hm
    rcases hT k hm with hh | hh
    · exact hS'T k hk hh
    · have := hd2.lt k hk; omega
  have hch2 : Chg f.all w w5 := by
    refine Chg.next ?_ c4
    refine Chg.trans ?_ hc4 (fun k hk => .inl (hfT k hk))
    refine Chg.next ?_ c2
    exact (c1.mono (by simp)).trans hc2 (fun k hk => .inl (hfS k hk))
  have hch : Chg (q :: f.all) w w5 := hch2.mono (fun k hk => .inl (by simp [hk]))
  have hall : ∀ k ∈ S' ++ T', k ∈ f.all ∨ w.heap.size ≤ k := by
    intro k hk
    rcases List.mem_append.1 hk with hk | hk
    · rcases hS k hk with hh | hh
      · exact .inl (hfS k hh)
      · exact .inr (by omega)
    · rcases hT k hk with hh | hh
      · exact .inl (hfT k hh)
      · exact .inr (by omega)
  refine ⟨⟨f.p, S', f.r, T', f.win, t'⟩, ⟨⟨cs, hb.keep hch2 hqf, hcs⟩, ⟨hd4.keep c4 (by simp), hr4.keep c4 (by simp), hTS⟩, hg.keep hch2 (fun k hk hm => ha k hm hk), ?_, ?_, hqg⟩, hch, hall⟩
  · intro k hk hm
    rcases hall k hk with hh | hh
    · exact ha k hh hm
    · have := hglt k hm; omega
  · intro hm
    rcases hall q hm with hh | hh
    · exact hqf hh
    · omega

/-- The two cells of a site stored. -/
theorem two_set {cs : Array Value} {i : Nat} (hi : i < 2) (h4 : cs.size = 4) {u v : Value} :
    ((cs.setIfInBounds i u).setIfInBounds (2 + i) v).size = 4 ∧ ((cs.setIfInBounds i u).setIfInBounds (2 + i) v)[i]? = some u ∧ ((cs.setIfInBounds i u).setIfInBounds (2 + i) v)[2 + i]? = some v ∧
    ((cs.setIfInBounds i u).setIfInBounds (2 + i) v)[1 - i]? = cs[1 - i]? ∧ ((cs.setIfInBounds i u).setIfInBounds (2 + i) v)[3 - i]? = cs[3 - i]? := by
  refine ⟨by simpa using h4, ?_, ?_, ?_, ?_⟩
  · rw [Array.getElem?_setIfInBounds_ne (by omega), Array.getElem?_setIfInBounds_self_of_lt (by omega)]
  · rw [Array.getElem?_setIfInBounds_self_of_lt (by simp; omega)]
  · rw [Array.getElem?_setIfInBounds_ne (by omega), Array.getElem?_setIfInBounds_ne (by omega)]
  · rw [Array.getElem?_setIfInBounds_ne (by omega), Array.getElem?_setIfInBounds_ne (by omega)]

/-- A site renewed. -/
def Renewed (w w' : World) (q i n : Nat) (cs : Array Value) : Prop :=
  ∃ p S r T, Box w' p S n St.new ∧ RBox w' r T n St.new ∧ Apart S T ∧ Blk w' q 88 ((cs.setIfInBounds i (.pointer (some ⟨p, 0, none⟩))).setIfInBounds (2 + i) (.pointer (some ⟨r, 0, none⟩))) ∧ Chg [q] w w' ∧ ∀ k ∈ S ++ T, w.heap.size ≤ k

set_option maxHeartbeats 2000000 in
set_option maxRecDepth 100000 in
theorem renewed_no {w : World} {q i : Nat} (n : Int) (hn : n < 1 ∨ 4096 < n) :
    Calls Try.prog 52 #[.pointer (some ⟨q, 0, none⟩), .int .i64 i, .int .i64 n] w fun e w' => e = .returned (.bool true) ∧ w = w' := by
  have h1 := new_no w n hn
  have h2 := rnew_no w n hn
  clear hn
  go_enter Try.func52, Try.ntmps52
  go_wp2_with (first
    | (go_at_call 10; refine h1.mono ?_; rintro e w' ⟨rfl, rfl⟩)
    | (go_at_call 27; refine h2.mono ?_; rintro e w' ⟨rfl, rfl⟩)
    | (go_at_call 11; refine (num_calls _ _).mono ?_; rintro e w' ⟨rfl, rfl⟩))
  go_ret
  exact ⟨rfl, rfl⟩

set_option maxHeartbeats 2000000 in
set_option maxRecDepth 100000 in
theorem renewed_ok {w : World} {q i n : Nat} {cs : Array Value} (hb : Blk w q 88 cs) (h4 : cs.size = 4) (hi : i < 2) (n1 : 1 ≤ n) (n2 : n ≤ 4096) :
    Calls Try.prog 52 #[.pointer (some ⟨q, 0, none⟩), .int .i64 i, .int .i64 n] w fun e w' => e = .returned (.bool true) ∧ Renewed w w' q i n cs := by
  have hi0 : (0 : Int) ≤ (i : Int) := by omega
  have hi1 : (i : Int) < 2 := by omega
  have HB := Lib.hid hb
  have hql := Lib.hid hb.lt
  clear hb
  go_enter Try.func52, Try.ntmps52
  go_wp2_with (first
    | (go_at_call 10; refine (new_ok w n n1 n2).mono ?_; rintro e w1 ⟨p, S, rfl, hb1, hc1, hS1⟩)
    | (go_at_call 27; refine (rnew_ok _ n n1 n2).mono ?_
       rintro e w2 ⟨r, T, rfl, hr2, hc2, hT2⟩
       have hbq := (hc1.next hc2).blk' HB.out (by simp)
       have hset1 := hbq.set_ i (.pointer (some ⟨p, 0, none⟩))
       have c1 : w2.cell? ⟨q, i, none⟩ = some (cs[i]'(by omega)) := by rw [hbq.cell]; exact Array.getElem?_eq_getElem (by omega)
       have f1 := hbq.frozen i
       have c2 : (w2.setCell ⟨q, i, none⟩ (.pointer (some ⟨p, 0, none⟩))).cell? ⟨q, 2 + i, none⟩ = some (cs[2 + i]'(by omega)) := by
         rw [hset1.cell, Array.getElem?_setIfInBounds_ne (by omega)]; exact Array.getElem?_eq_getElem (by omega)
       have f2 := hset1.frozen (2 + i)
       have HS := Lib.hid (hset1.set_ (2 + i) (.pointer (some ⟨r, 0, none⟩)))
       clear hbq hset1)
    | (go_at_call 11; refine (num_calls _ _).mono ?_; rintro e w' ⟨rfl, rfl⟩))
  go_ret
  have hs1 := hc1.size
  have hs2 := hc2.size
  have hq := hql.out
  have hcc : Chg [q] w2 ((w2.setCell ⟨q, i, none⟩ (.pointer (some ⟨p, 0, none⟩))).setCell ⟨q, 2 + i, none⟩ (.pointer (some ⟨r, 0, none⟩))) := ((Chg.refl _ _).setCell (.inl (by simp)) _).setCell (.inl (by simp)) _
  have hTw : ∀ k ∈ T, w.heap.size ≤ k := fun k hk => by have := hT2 k hk; omega
  refine ⟨rfl, p, S, r, T, (hb1.keep hc2 (by simp)).keep hcc (fun k hk hm => ?_), hr2.keep hcc (fun k hk hm => ?_), fun k hk hm => ?_, HS.out, ((hc1.next hc2).mono (by simp)).trans hcc (fun k hk => .inl hk), fun k hk => ?_⟩
  · simp at hm; subst hm; have := hS1 k hk; omega
  · simp at hm; subst hm; have := hTw k hk; omega
  · have := hb1.lt k hk; have := hT2 k hm; omega
  · rcases List.mem_append.1 hk with hk | hk
    · exact hS1 k hk
    · exact hTw k hk

theorem Renewed.left {w w' : World} {q i n : Nat} {f g : Half} (h : PairAt w q i f g) (hi : i < 2) (hr : ∀ cs, Blk w q 88 cs → Renewed w w' q i n cs) : PLeft w q i f g w' := by
  have hq := h.lt
  obtain ⟨⟨cs, hb, h4, e1, e2, e3, e4⟩, hf, hg, hfg, hqf, hqg⟩ := h
  obtain ⟨p, S, r, T, hd, hrr, ha, hb', hc, hS⟩ := hr cs hb
  obtain ⟨t1, t2, t3, t4, t5⟩ := two_set (u := .pointer (some ⟨p, 0, none⟩)) (v := .pointer (some ⟨r, 0, none⟩)) hi h4
  have hglt := hg.lt
  refine ⟨⟨p, S, r, T, n, St.new⟩, ⟨⟨_, hb', t1, t2, t3, t4.trans e3, t5.trans e4⟩, ⟨hd, hrr, ha⟩, hg.keep hc (fun k hk hm => ?_), ?_, ?_, hqg⟩, hc.mono (by simp), fun k hk => .inr (hS k hk)⟩
  · simp at hm; subst hm; exact hqg hk
  · intro k hk hm
    have := hS k hk
    have := hglt k hm
    omega
  · intro hm
    have := hS q hm
    omega

set_option maxHeartbeats 2000000 in
set_option maxRecDepth 100000 in
theorem begun_calls (w : World) : Calls Try.prog 23 #[] w fun e w' => ∃ q f g, e = .returned (.tuple #[.pointer (some ⟨q, 0, none⟩), .bool true]) ∧ PairAt w' q 0 f g ∧ Chg [] w w' ∧ w.heap.size ≤ q ∧ Hid (∀ k ∈ f.all ++ g.all, w.heap.size ≤ k) := by
  have hb0 : Blk (w.alloc (.cells #[.pointer none, .pointer none, .pointer none, .pointer none] 88)) w.heap.size 88 #[.pointer none, .pointer none, .pointer none, .pointer none] := Blk.new _ _ _
  have q0 : Chg [] w (w.alloc (.cells #[.pointer none, .pointer none, .pointer none, .pointer none] 88)) := (Chg.refl _ _).alloc _
  go_enter Try.func23, Try.ntmps23
  go_wp2_with fail
  generalize w.alloc (.cells #[.pointer none, .pointer none, .pointer none, .pointer none] 88) = w0 at *
  obtain ⟨q, hq⟩ : ∃ q, q = w.heap.size := ⟨_, rfl⟩
  rw [← hq] at hb0
  rw [← hq]
  have HQ := Lib.hid hq
  clear hq
  refine (renewed_ok (i := 0) (n := 8) hb0 rfl (by omega) (by omega) (by omega)).mono ?_
  rintro e w1 ⟨rfl, p, S, r, T, hd, hr, ha, hb1, hc1, hS⟩
  obtain ⟨t1, t2, t3, t4, t5⟩ := two_set (cs := #[.pointer none, .pointer none, .pointer none, .pointer none]) (i := 0) (u := .pointer (some ⟨p, 0, none⟩)) (v := .pointer (some ⟨r, 0, none⟩)) (by omega) rfl
  have HB1 := Lib.hid hb1
  have T1 := Lib.hid t1
  have T2 := Lib.hid t2
  have T3 := Lib.hid t3
  clear t1 t2 t3 t4 t5 hb1
  generalize (Array.setIfInBounds _ _ _ : Array Value) = cs1 at HB1 T1 T2 T3
  go_wp2_with fail
  refine (renewed_ok (i := 1) (n := 1) HB1.out T1.out (by omega) (by omega) (by omega)).mono ?_
  rintro e w2 ⟨rfl, p', S', r', T', hd', hr', ha', hb2, hc2, hS'⟩
  obtain ⟨t1, t2, t3, t4, t5⟩ := two_set (i := 1) (u := .pointer (some ⟨p', 0, none⟩)) (v := .pointer (some ⟨r', 0, none⟩)) (by omega) T1.out
  have HB2 := Lib.hid hb2
  have hfin : PairAt w2 q 0 ⟨p, S, r, T, 8, St.new⟩ ⟨p', S', r', T', 1, St.new⟩ := by
    have s0 := q0.size
    have s1 := hc1.size
    have hql := hb0.lt
    have hq1 := HQ.out
    have hSl : ∀ k ∈ S ++ T, k < w1.heap.size := fun k hk => by
      rcases List.mem_append.1 hk with hk | hk
      · exact hd.lt k hk
      · exact hr.lt k hk
    have hqn : q ∉ S ++ T := fun hm => by have := hS q hm; omega
    refine ⟨⟨_, HB2.out, t1, t4.trans T2.out, t5.trans T3.out, t2, t3⟩, ⟨hd.keep hc2 (fun k hk hm => ?_), hr.keep hc2 (fun k hk hm => ?_), ha⟩, ⟨hd', hr', ha'⟩, ?_, hqn, ?_⟩
    · simp at hm; subst hm; exact hqn (by simp [hk])
    · simp at hm; subst hm; exact hqn (by simp [hk])
    · intro k hk hm
      have h1 := hSl k hk
      have h2 := hS' k hm
      omega
    · intro hm
      have := hS' q hm
      omega
  have hch : Chg [] w w2 := (q0.trans hc1 (fun k hk => .inr (by simp at hk; have := HQ.out; omega))).trans hc2 (fun k hk => .inr (by simp at hk; have := HQ.out; omega))
  have hF : Hid (∀ k ∈ Half.all ⟨p, S, r, T, 8, St.new⟩ ++ Half.all ⟨p', S', r', T', 1, St.new⟩, w.heap.size ≤ k) := by
    intro k hk
    have s0 := q0.size
    have s1 := hc1.size
    rcases List.mem_append.1 hk with hk | hk
    · have := hS k hk; omega
    · have := hS' k hk; omega
  have HF := Lib.hid hfin
  have HCH := Lib.hid hch
  clear hfin hch t1 t2 t3 t4 t5 hb2
  go_wp2_with fail
  go_ret2
  exact ⟨q, _, _, rfl, HF.out, HCH.out, Nat.le_of_eq HQ.out.symm, hF⟩

end Go.Proofs.Ytphbhmppjafhkaa
