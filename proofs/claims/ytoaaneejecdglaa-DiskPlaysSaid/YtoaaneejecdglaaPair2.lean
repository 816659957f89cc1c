/-
  PROVED: what a step leaves of the pair; the contract of renewed.
-/
import Derived.Test.YtoaaneejecdglaaPair
namespace Go.Proofs.Ytoaaneejecdglaa
open Go.RowKit

/-- What a step on site i leaves. -/
def PLeft (w : World) (q i : Nat) (f g : Half) (w' : World) : Prop :=
  ∃ f', PairAt w' q i f' g ∧ Chg (q :: f.all) w w' ∧ ∀ k ∈ f'.all, k ∈ f.all ∨ w.heap.size ≤ k

theorem PLeft.same {w w' : World} {q i : Nat} {f g : Half} (h : PairAt w q i f g) (hc : Chg [] w w') : PLeft w q i f g w' :=
  ⟨f, h.keep hc, hc.mono (by simp), fun k hk => .inl hk⟩

theorem PairAt.lt {w : World} {q i : Nat} {f g : Half} (h : PairAt w q i f g) : q < w.heap.size := by
  obtain ⟨⟨cs, hb, _⟩, _⟩ := h
  exact hb.lt

theorem pair_both {w w1 w2 w3 w4 w5 : World} {q i : Nat} {f g : Half} {bs' : List Int} {s' : Nat} (h : PairAt w q i f g) (c1 : Chg [] w w1) (hl : Left w1 f.p f.S (bs', s') w2) (c2 : Chg [] w2 w3) (hr : RLeft w3 f.r f.T (bs', s') w4) (c4 : Chg [] w4 w5) : PLeft w q i f g w5 := by
  have hq := h.lt
  obtain ⟨⟨cs, hb, hcs⟩, hf, hg, ha, hqf, hqg⟩ := h
  obtain ⟨S', hd2, hc2, hS⟩ := hl
  obtain ⟨T', hr4, hc4, hT⟩ := hr
  have hflt := hf.lt
  have hglt := hg.lt
  have s01 := c1.size
  have s12 := hc2.size
  have s23 := c2.size
  have hfS : ∀ k ∈ f.S, k ∈ f.all := fun k hk => by simp [Half.all, hk]
  have hfT : ∀ k ∈ f.T, k ∈ f.all := fun k hk => by simp [Half.all, hk]
  have hS'T : Apart S' f.T := Apart.next hf.2.2 hS (fun k hk => by have := hflt k (hfT k hk); omega)
  have hd4 := (hd2.keep c2 (by simp)).keep hc4 hS'T
  have hTS : Apart S' T' := by
    intro k hk hm
    rcases hT k hm with hh | hh
    · exact hS'T k hk hh
    · have := hd2.lt k hk; omega
  have hch : Chg (q :: f.all) w w5 := by
    refine Chg.next ?_ c4
    refine Chg.trans ?_ hc4 (fun k hk => .inl (by simp [hfT k hk]))
    refine Chg.next ?_ c2
    exact (c1.mono (by simp)).trans hc2 (fun k hk => .inl (by simp [hfS k hk]))
  have hch2 : Chg f.all w w5 := by
    refine Chg.next ?_ c4
    refine Chg.trans ?_ hc4 (fun k hk => .inl (hfT k hk))
    refine Chg.next ?_ c2
    exact (c1.mono (by simp)).trans hc2 (fun k hk => .inl (hfS k hk))
  have hall : ∀ k ∈ S' ++ T', k ∈ f.all ∨ w.heap.size ≤ k := by
    intro k hk
    rcases List.mem_append.1 hk with hk | hk
    · rcases hS k hk with hh | hh
      · exact .inl (hfS k hh)
      · exact .inr (by omega)
    · rcases hT k hk with hh | hh
      · exact .inl (hfT k hh)
      · exact .inr (by omega)
  refine ⟨⟨f.p, S', f.r, T', bs', s'⟩, ⟨⟨cs, hb.keep hch2 hqf, hcs⟩, ⟨hd4.keep c4 (by simp), hr4.keep c4 (by simp), hTS⟩, hg.keep hch2 (fun k hk hm => ha k hm hk), ?_, ?_, hqg⟩, hch, hall⟩
  · intro k hk hm
    rcases hall k hk with hh | hh
    · exact ha k hh hm
    · have := hglt k hm; omega
  · intro hm
    rcases hall q hm with hh | hh
    · exact hqf hh
    · omega

theorem pair_set {w w' : World} {q i p' r' s' : Nat} {S' T' : List Nat} {bs' : List Int} {f g : Half} {cs' : Array Value} (h : PairAt w q i f g) (hb : Blk w' q 71 cs') (h4 : cs'.size = 4)
    (e1 : cs'[i]? = some (.pointer (some ⟨p', 0, none⟩))) (e2 : cs'[2 + i]? = some (.pointer (some ⟨r', 0, none⟩))) (e3 : cs'[1 - i]? = some (.pointer (some ⟨g.p, 0, none⟩))) (e4 : cs'[3 - i]? = some (.pointer (some ⟨g.r, 0, none⟩)))
    (hd : Disk w' p' S' bs' s') (hr : RDisk w' r' T' bs' s') (ha : Apart S' T') (hc : Chg [q] w w') (hS : ∀ k ∈ S' ++ T', w.heap.size ≤ k) : PLeft w q i f g w' := by
  have hq := h.lt
  obtain ⟨⟨cs, _, _⟩, hf, hg, hfg, hqf, hqg⟩ := h
  have hglt := hg.lt
  refine ⟨⟨p', S', r', T', bs', s'⟩, ⟨⟨cs', hb, h4, e1, e2, e3, e4⟩, ⟨hd, hr, ha⟩, hg.keep hc (fun k hk hm => ?_), ?_, ?_, hqg⟩, hc.mono (by simp), fun k hk => .inr (hS k hk)⟩
  · simp at hm; subst hm; exact hqg hk
  · intro k hk hm
    have := hS k hk
    have := hglt k hm
    omega
  · intro hm
    have := hS q hm
    omega

/-- The two cells of a site stored. -/
theorem two_set {cs : Array Value} {i : Nat} (hi : i < 2) (h4 : cs.size = 4) {u v x y : Value} (e3 : cs[1 - i]? = some x) (e4 : cs[3 - i]? = some y) :
    ((cs.setIfInBounds i u).setIfInBounds (2 + i) v).size = 4 ∧ ((cs.setIfInBounds i u).setIfInBounds (2 + i) v)[i]? = some u ∧ ((cs.setIfInBounds i u).setIfInBounds (2 + i) v)[2 + i]? = some v ∧
    ((cs.setIfInBounds i u).setIfInBounds (2 + i) v)[1 - i]? = some x ∧ ((cs.setIfInBounds i u).setIfInBounds (2 + i) v)[3 - i]? = some y := by
  refine ⟨by simpa using h4, ?_, ?_, ?_, ?_⟩
  · rw [Array.getElem?_setIfInBounds_ne (by omega), Array.getElem?_setIfInBounds_self_of_lt (by omega)]
  · rw [Array.getElem?_setIfInBounds_self_of_lt (by simp; omega)]
  · rw [Array.getElem?_setIfInBounds_ne (by omega), Array.getElem?_setIfInBounds_ne (by omega)]; exact e3
  · rw [Array.getElem?_setIfInBounds_ne (by omega), Array.getElem?_setIfInBounds_ne (by omega)]; exact e4

end Go.Proofs.Ytoaaneejecdglaa
