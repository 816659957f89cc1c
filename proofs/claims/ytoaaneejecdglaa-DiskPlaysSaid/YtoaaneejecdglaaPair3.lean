/-
  PROVED: the contract of renewed.
-/
import Derived.Test.YtoaaneejecdglaaPair2
namespace Go.Proofs.Ytoaaneejecdglaa
open Go.RowKit

set_option maxHeartbeats 2000000 in
set_option maxRecDepth 100000 in
theorem renewed_new {w : World} {q : Nat} {f g : Half} (o : GOp) (h : PairAt w q (siteN o.site) f g) (hk : o.kind = 1) :
    Calls Try.prog 37 #[.pointer (some ⟨q, 0, none⟩), o.val] w fun e w' => e = .returned (.bool true) ∧ PLeft w q (siteN o.site) f g w' := by
  obtain ⟨k, st, a, b, c, A, n, cap, ys⟩ := o
  simp only at hk
  subst hk
  have q0 : Chg [] w (w.alloc (.cells #[.int .i64 1, .int .i64 st, .int .i64 a, .int .i64 b, .int .i64 c, .slice A n cap] 44)) := (Chg.refl _ _).alloc _
  have h0 := h.keep q0
  have hbx := Blk.new w 44 #[.int .i64 1, .int .i64 st, .int .i64 a, .int .i64 b, .int .i64 c, .slice A n cap]
  unfold GOp.val
  simp only at h h0 ⊢
  have hs2 := siteN_lt st
  have hcall := siteN_calls st
  generalize siteN st = i at *
  have hi0 : (0 : Int) ≤ (i : Int) := by omega
  have hi1 : (i : Int) < 2 := by omega
  go_enter Try.func37, Try.ntmps37
  go_wp2_with fail
  generalize w.alloc (.cells #[.int .i64 1, .int .i64 st, .int .i64 a, .int .i64 b, .int .i64 c, .slice A n cap] 44) = w0 at *
  have hsz := Lib.hid q0.size
  generalize hgb : w.heap.size = gb at *
  have b0 := hbx.cell 0
  have b1 := hbx.cell 1
  have H := Lib.hid h0
  obtain ⟨⟨cs, hb, h4, e1, e2, e3, e4⟩, hrest⟩ := h0
  have E2 := Lib.hid e2
  have E3 := Lib.hid e3
  have E4 := Lib.hid e4
  have hql := hb.lt
  have c1 := H.out.one
  have c2 := H.out.two
  have f1 := hb.frozen i
  clear e1 e2 e3 e4 hrest
  go_wp2_with (go_at_call 30; refine (hcall _).mono ?_; rintro e w' ⟨rfl, rfl⟩)
  go_region_law (first
    | (go_simp; go_at_call 24; refine (new_calls _).mono ?_; rintro e w1 ⟨rfl, hd1, hc1⟩
       have c11 := hc1.cell (p := ⟨q, i, none⟩) (v := .pointer (some ⟨f.p, 0, none⟩)) (by exact c1) (by simp)
       have c12 := hc1.cell (p := ⟨q, 2 + i, none⟩) (v := .pointer (some ⟨f.r, 0, none⟩)) (by exact c2) (by simp)
       have hb1 := hc1.blk hb (by simp)
       have f11 := hb1.frozen i
       have f12 := hb1.frozen (2 + i)))
  all_goals
    have hset : Blk (w1.setCell ⟨q, i, none⟩ (.pointer (some ⟨w0.heap.size, 0, none⟩))) q 71 (cs.setIfInBounds i (.pointer (some ⟨w0.heap.size, 0, none⟩))) := hb1.set_ i _
    have hlt4 := Lib.hid h4
    go_wp2
    go_region_law (first
      | (go_simp; go_at_call 36; refine (rnew_calls _).mono ?_; rintro e w2 ⟨rfl, hd2, hc2⟩
         have hb2 := hc2.blk hset (by simp)
         have c22 : w2.cell? ⟨q, 2 + i, none⟩ = some (.pointer (some ⟨f.r, 0, none⟩)) := by
           rw [hb2.cell, Array.getElem?_setIfInBounds_ne (by omega)]; exact E2.out
         have c21 : w2.cell? ⟨q, i, none⟩ = some (.pointer (some ⟨w0.heap.size, 0, none⟩)) := by
           rw [hb2.cell, Array.getElem?_setIfInBounds_self_of_lt (by have := hlt4.out; omega)]
         have f21 := hb2.frozen i
         have f22 := hb2.frozen (2 + i)))
  all_goals
    go_wp2
    go_ret
    have hs0 := hsz.out
    have hs1 := hc1.size
    have hd1' : Disk w1 w0.heap.size [w0.heap.size] [] 0 := hd1
    have hsc : (w1.setCell ⟨q, i, none⟩ (.pointer (some ⟨w0.heap.size, 0, none⟩))).heap.size = w1.heap.size := by simp [World.setCell]
    have hd2' : RDisk w2 (w1.setCell ⟨q, i, none⟩ (.pointer (some ⟨w0.heap.size, 0, none⟩))).heap.size [(w1.setCell ⟨q, i, none⟩ (.pointer (some ⟨w0.heap.size, 0, none⟩))).heap.size] [] 0 := hd2
    have hs2' : (w1.setCell ⟨q, i, none⟩ (.pointer (some ⟨w0.heap.size, 0, none⟩))).heap.size ≤ w2.heap.size := hc2.size
    rw [hsc] at hd2' hs2'
    have hs1' : w0.heap.size ≤ w1.heap.size := hc1.size
    have hlt1 : w0.heap.size < w1.heap.size := hd1'.lt _ (by simp)
    obtain ⟨t1, t2, t3, t4, t5⟩ := two_set (u := .pointer (some ⟨w0.heap.size, 0, none⟩)) (v := .pointer (some ⟨w1.heap.size, 0, none⟩)) hs2 hlt4.out E3.out E4.out
    have qA : Chg [q] w w1 := by
      first
        | exact (q0.mono (by simp)).next hc1
        | exact (q0.drew.mono (by simp)).next hc1
        | exact ((q0.drewN _).mono (by simp)).next hc1
    have qB : Chg [q] w w2 := by
      first
        | exact (qA.setCell (p := ⟨q, i, none⟩) (.inl (by simp)) _).next hc2
        | exact (qA.setCell (p := ⟨q, i, none⟩) (.inl (by simp)) _).drew.next hc2
        | exact ((qA.setCell (p := ⟨q, i, none⟩) (.inl (by simp)) _).drewN _).next hc2
    have hd1s : Disk (w1.setCell ⟨q, i, none⟩ (.pointer (some ⟨w0.heap.size, 0, none⟩))) w0.heap.size [w0.heap.size] [] 0 := hd1'.keep ((Chg.refl [q] w1).setCell (.inl (by simp)) _) (by simp; omega)
    have hd1t := hc2.disk hd1s (by simp)
    have qC := qB.setCell (p := ⟨q, 2 + i, none⟩) (.inl (by simp)) (.pointer (some ⟨w1.heap.size, 0, none⟩))
    have hst : Chg [q] w2 (w2.setCell ⟨q, 2 + i, none⟩ (.pointer (some ⟨w1.heap.size, 0, none⟩))) := (Chg.refl [q] w2).setCell (.inl (by simp)) _
    refine ⟨rfl, pair_set h (hb2.set_ (2 + i) _) t1 t2 t3 t4 t5 (hd1t.keep hst (by simp; omega)) (hd2'.keep hst (by simp; omega)) ?_ qC ?_⟩
    · intro k hk hm
      simp at hk hm
      omega
    · intro k hk
      simp at hk
      omega

set_option maxHeartbeats 2000000 in
set_option maxRecDepth 100000 in
theorem renewed_full {w : World} {q : Nat} {f g : Half} (o : GOp) (h : PairAt w q (siteN o.site) f g) (hk : o.kind ≠ 1) (ho : o.Ok w) (hn : 262144 < o.n) :
    Calls Try.prog 37 #[.pointer (some ⟨q, 0, none⟩), o.val] w fun e w' => e = .returned (.bool true) ∧ PLeft w q (siteN o.site) f g w' := by
  obtain ⟨k, st, a, b, c, A, n, cap, ys⟩ := o
  obtain ⟨hy, hn'⟩ := ho
  simp only at hk hy hn' hn
  have hkb : (k == 1) = false := by simpa using hk
  clear hk
  have q0 : Chg [] w (w.alloc (.cells #[.int .i64 k, .int .i64 st, .int .i64 a, .int .i64 b, .int .i64 c, .slice A n cap] 44)) := (Chg.refl _ _).alloc _
  have h0 := h.keep q0
  have hy0 := hy.keep q0 (by simp)
  have hbx := Blk.new w 44 #[.int .i64 k, .int .i64 st, .int .i64 a, .int .i64 b, .int .i64 c, .slice A n cap]
  unfold GOp.val
  simp only at h h0 ⊢
  have hs2 := siteN_lt st
  have hcall := siteN_calls st
  generalize siteN st = i at *
  go_enter Try.func37, Try.ntmps37
  go_wp2_with fail
  generalize w.alloc (.cells #[.int .i64 k, .int .i64 st, .int .i64 a, .int .i64 b, .int .i64 c, .slice A n cap] 44) = w0 at *
  generalize hgb : w.heap.size = gb at *
  have b0 := hbx.cell 0
  have b1 := hbx.cell 1
  have b5 := hbx.cell 5
  go_wp2_with (first
    | (go_at_call 30; refine (hcall _).mono ?_; rintro e w' ⟨rfl, rfl⟩)
    | (go_at_call 19; refine (copied_calls hy0 hn').mono ?_; rintro e w1 ⟨rfl, hr1, hc1⟩; have b15 := hc1.cell b5 (by simp))
    | (go_at_call 23; refine (from_full _ _ _ _ hn).mono ?_; rintro e w' ⟨rfl, rfl⟩)
    | (go_at_call 45; refine (rfrom_full _ _ _ _ hn).mono ?_; rintro e w' ⟨rfl, rfl⟩)
    | (go_at_call 14; refine (num_calls _ _).mono ?_; rintro e w' ⟨rfl, rfl⟩))
  go_ret
  exact ⟨rfl, PLeft.same h (q0.next hc1)⟩

set_option maxHeartbeats 2000000 in
set_option maxRecDepth 100000 in
theorem renewed_ok {w : World} {q : Nat} {f g : Half} (o : GOp) (h : PairAt w q (siteN o.site) f g) (hk : o.kind ≠ 1) (ho : o.Ok w) (hn : o.n ≤ 262144) :
    Calls Try.prog 37 #[.pointer (some ⟨q, 0, none⟩), o.val] w fun e w' => e = .returned (.bool true) ∧ PLeft w q (siteN o.site) f g w' := by
  obtain ⟨k, st, a, b, c, A, n, cap, ys⟩ := o
  obtain ⟨hy, hn'⟩ := ho
  simp only at hk hy hn' hn
  have hkb : (k == 1) = false := by simpa using hk
  clear hk
  have q0 : Chg [] w (w.alloc (.cells #[.int .i64 k, .int .i64 st, .int .i64 a, .int .i64 b, .int .i64 c, .slice A n cap] 44)) := (Chg.refl _ _).alloc _
  have h0 := h.keep q0
  have hy0 := hy.keep q0 (by simp)
  have hbx := Blk.new w 44 #[.int .i64 k, .int .i64 st, .int .i64 a, .int .i64 b, .int .i64 c, .slice A n cap]
  unfold GOp.val
  simp only at h h0 ⊢
  have hs2 := siteN_lt st
  have hcall := siteN_calls st
  generalize siteN st = i at *
  have hi0 : (0 : Int) ≤ (i : Int) := by omega
  have hi1 : (i : Int) < 2 := by omega
  have hql := h.lt
  go_enter Try.func37, Try.ntmps37
  go_wp2_with fail
  generalize w.alloc (.cells #[.int .i64 k, .int .i64 st, .int .i64 a, .int .i64 b, .int .i64 c, .slice A n cap] 44) = w0 at *
  have hsz := Lib.hid q0.size
  generalize hgb : w.heap.size = gb at *
  have b0 := hbx.cell 0
  have b1 := hbx.cell 1
  have b5 := hbx.cell 5
  go_wp2_with (first
    | (go_at_call 30; refine (hcall _).mono ?_; rintro e w' ⟨rfl, rfl⟩)
    | (go_at_call 19; refine (copied_calls hy0 hn').mono ?_; rintro e w1 ⟨rfl, hr1, hc1⟩; have b15 := hc1.cell b5 (by simp))
    | (go_at_call 23; refine (from_ok hr1.reads hn).mono ?_; rintro e w2 ⟨p', S', rfl, hd2, hc2, hS2⟩; have b25 := hc2.cell b15 (by simp))
    | (go_at_call 45; refine (rfrom_ok ((hy0.keep hc1 (by simp)).keep hc2 (by simp)) hn).mono ?_; rintro e w3 ⟨r', T', rfl, hd3, hc3, hT3⟩
       have qq := Lib.hid ((((q0.next hc1).next hc2).next hc3))
       have h3 := h.keep qq.out
       obtain ⟨⟨cs, hb, h4, e1, e2, e3, e4⟩, _⟩ := h3
       have E1 := Lib.hid e1
       have E2 := Lib.hid e2
       have E3 := Lib.hid e3
       have E4 := Lib.hid e4
       have H4 := Lib.hid h4
       have x1 := hb.cell i
       rw [E1.out] at x1
       have x2 := hb.cell (2 + i)
       rw [E2.out] at x2
       have f1 := hb.frozen i
       have f2 := hb.frozen (2 + i)
       clear e1 e2 e3 e4 h4)
    | (go_at_call 14; refine (num_calls _ _).mono ?_; rintro e w' ⟨rfl, rfl⟩))
  go_ret
  have hs0 := hsz.out
  have s1 := hc1.size
  have s2 := hc2.size
  have hS' : ∀ k ∈ S', w.heap.size ≤ k := fun k hk => by have := hS2 k hk; omega
  have hT' : ∀ k ∈ T', w.heap.size ≤ k := fun k hk => by have := hT3 k hk; omega
  have ha : Apart S' T' := fun k hk hm => by have := hd2.lt k hk; have := hT3 k hm; omega
  obtain ⟨t1, t2, t3, t4, t5⟩ := two_set (u := .pointer (some ⟨p', 0, none⟩)) (v := .pointer (some ⟨r', 0, none⟩)) hs2 H4.out E3.out E4.out
  have hst : Chg [q] w3 ((w3.setCell ⟨q, i, none⟩ (.pointer (some ⟨p', 0, none⟩))).setCell ⟨q, 2 + i, none⟩ (.pointer (some ⟨r', 0, none⟩))) := ((Chg.refl [q] w3).setCell (.inl (by simp)) _).setCell (.inl (by simp)) _
  have hnq : ∀ k, w.heap.size ≤ k → k ∉ [q] := fun k hk hm => by simp at hm; omega
  refine ⟨rfl, pair_set h ((hb.set_ i _).set_ (2 + i) _) t1 t2 t3 t4 t5 ((hd2.keep hc3 (by simp)).keep hst (fun k hk => hnq k (hS' k hk))) (hd3.keep hst (fun k hk => hnq k (hT' k hk))) ha ((qq.out.mono (by simp)).trans hst (by simp)) ?_⟩
  intro k hk
  rcases List.mem_append.1 hk with hk | hk
  · exact hS' k hk
  · exact hT' k hk

theorem renewed_calls {w : World} {q : Nat} {f g : Half} (o : GOp) (h : PairAt w q (siteN o.site) f g) (ho : o.Ok w) :
    Calls Try.prog 37 #[.pointer (some ⟨q, 0, none⟩), o.val] w fun e w' => e = .returned (.bool true) ∧ PLeft w q (siteN o.site) f g w' := by
  by_cases hk : o.kind = 1
  · exact renewed_new o h hk
  · by_cases hn : o.n ≤ 262144
    · exact renewed_ok o h hk ho hn
    · exact renewed_full o h hk ho (by omega)

end Go.Proofs.Ytoaaneejecdglaa
