/-
  PROVED: the pair of files (two of the program's, two of the document's): its words, and the contract of asked.
-/
import Derived.Test.YtoaaneejecdglaaRef2
import Derived.Test.YtoaaneejecdglaaRef3
import Derived.Test.YtoaaneejecdglaaApart
namespace Go.Proofs.Ytoaaneejecdglaa
open Go.RowKit

/-- Of one site: the program's file, the document's, and what both hold. -/
structure Half where
  p : Nat
  S : List Nat
  r : Nat
  T : List Nat
  bs : List Int
  s : Nat

def Half.all (f : Half) : List Nat := f.S ++ f.T
def Half.At (w : World) (f : Half) : Prop := Disk w f.p f.S f.bs f.s ∧ RDisk w f.r f.T f.bs f.s ∧ Apart f.S f.T

/-- The pair behind block q: at site i the half f, at the other g. -/
def PairAt (w : World) (q i : Nat) (f g : Half) : Prop :=
  (∃ cs, Blk w q 71 cs ∧ cs.size = 4 ∧ cs[i]? = some (.pointer (some ⟨f.p, 0, none⟩)) ∧ cs[2 + i]? = some (.pointer (some ⟨f.r, 0, none⟩)) ∧ cs[1 - i]? = some (.pointer (some ⟨g.p, 0, none⟩)) ∧ cs[3 - i]? = some (.pointer (some ⟨g.r, 0, none⟩))) ∧
  f.At w ∧ g.At w ∧ Apart f.all g.all ∧ q ∉ f.all ∧ q ∉ g.all
theorem PairAt.swap {w : World} {q i : Nat} {f g : Half} (h : PairAt w q i f g) (hi : i < 2) : PairAt w q (1 - i) g f := by
  obtain ⟨⟨cs, hb, hs, h1, h2, h3, h4⟩, hf, hg, ha, hq, hq'⟩ := h
  refine ⟨⟨cs, hb, hs, h3, ?_, ?_, ?_⟩, hg, hf, ha.symm, hq', hq⟩
  · rw [show 2 + (1 - i) = 3 - i by omega]; exact h4
  · rw [show 1 - (1 - i) = i by omega]; exact h1
  · rw [show 3 - (1 - i) = 2 + i by omega]; exact h2

theorem Chg.disk {w w' : World} {p s : Nat} {S T : List Nat} {bs : List Int} (hc : Chg T w w') (h : Disk w p S bs s) (hS : ∀ i ∈ S, i ∉ T) : Disk w' p S bs s := h.keep hc hS
theorem Chg.rdisk {w w' : World} {p s : Nat} {S T : List Nat} {bs : List Int} (hc : Chg T w w') (h : RDisk w p S bs s) (hS : ∀ i ∈ S, i ∉ T) : RDisk w' p S bs s := h.keep hc hS
theorem Chg.row {w w' : World} {e : TypeId} {sz n cap : Nat} {A : Option Addr} {xs : List Value} {S : List Nat} (hc : Chg S w w') (h : Row w e sz A n cap xs) (hS : ∀ i ∈ ob A, i ∉ S) : Row w' e sz A n cap xs := h.keep hc hS
theorem Chg.reads {w w' : World} {sz n : Nat} {A : Option Addr} {xs : List Value} {S : List Nat} (hc : Chg S w w') (h : Reads w sz A n xs) (hS : ∀ i ∈ ob A, i ∉ S) : Reads w' sz A n xs := h.keep hc hS

theorem Half.At.keep {w w' : World} {f : Half} {T : List Nat} (h : f.At w) (hc : Chg T w w') (hS : ∀ i ∈ f.all, i ∉ T) : f.At w' :=
  ⟨h.1.keep hc (fun i hi => hS i (by simp [Half.all, hi])), h.2.1.keep hc (fun i hi => hS i (by simp [Half.all, hi])), h.2.2⟩
theorem Half.At.lt {w : World} {f : Half} (h : f.At w) : ∀ i ∈ f.all, i < w.heap.size := by
  intro i hi
  rcases List.mem_append.1 hi with hi | hi
  · exact h.1.lt i hi
  · exact h.2.1.lt i hi
theorem PairAt.keep {w w' : World} {q i : Nat} {f g : Half} (h : PairAt w q i f g) (hc : Chg [] w w') : PairAt w' q i f g := by
  obtain ⟨⟨cs, hb, hs⟩, hf, hg, ha⟩ := h
  exact ⟨⟨cs, hb.keep hc (by simp), hs⟩, hf.keep hc (by simp), hg.keep hc (by simp), ha⟩
theorem PairAt.one {w : World} {q i : Nat} {f g : Half} (h : PairAt w q i f g) : w.cell? ⟨q, i, none⟩ = some (.pointer (some ⟨f.p, 0, none⟩)) := by
  obtain ⟨⟨cs, hb, hs, h1, _⟩, _⟩ := h
  rw [hb.cell]; exact h1
theorem PairAt.two {w : World} {q i : Nat} {f g : Half} (h : PairAt w q i f g) : w.cell? ⟨q, 2 + i, none⟩ = some (.pointer (some ⟨f.r, 0, none⟩)) := by
  obtain ⟨⟨cs, hb, hs, h1, h2, _⟩, _⟩ := h
  rw [hb.cell]; exact h2

def siteN (n : Int) : Nat := if (bits .and .i64 n 1 == 1) = true then 1 else 0
theorem siteN_lt (n : Int) : siteN n < 2 := by unfold siteN; split <;> omega
theorem siteN_calls (n : Int) (w : World) : Calls Try.prog 30 #[.int .i64 n] w fun e w' => e = .returned (.int .i64 (siteN n : Nat)) ∧ w = w' := by
  refine (site_calls n w).mono fun e w' ⟨he, hw⟩ => ⟨?_, hw⟩
  rw [he]
  unfold siteN
  split <;> rfl

set_option maxHeartbeats 2000000 in
set_option maxRecDepth 100000 in
theorem asked_calls {w : World} {q : Nat} {f g : Half} (o : GOp) (h : PairAt w q (siteN o.site) f g) :
    Calls Try.prog 33 #[.pointer (some ⟨q, 0, none⟩), o.val] w fun e w' => e = .returned (.bool true) ∧ Chg [] w w' := by
  obtain ⟨k, st, a, b, c, A, n, cap, ys⟩ := o
  have q0 : Chg [] w (w.alloc (.cells #[.int .i64 k, .int .i64 st, .int .i64 a, .int .i64 b, .int .i64 c, .slice A n cap] 44)) := (Chg.refl _ _).alloc _
  have h0 := h.keep q0
  have hbx := Blk.new w 44 #[.int .i64 k, .int .i64 st, .int .i64 a, .int .i64 b, .int .i64 c, .slice A n cap]
  unfold GOp.val
  simp only at h h0 ⊢
  have hs2 := siteN_lt st
  have hcall := siteN_calls st
  generalize siteN st = i at *
  have hi0 : (0 : Int) ≤ (i : Int) := by omega
  have hi1 : (i : Int) < 2 := by omega
  clear h
  have hd := h0.2.1.1
  have hr := h0.2.1.2.1
  by_cases k7 : k = 7
  · subst k7
    go_enter Try.func33, Try.ntmps33
    go_wp2_with fail
    generalize w.alloc (.cells #[.int .i64 7, .int .i64 st, .int .i64 a, .int .i64 b, .int .i64 c, .slice A n cap] 44) = w0 at *
    generalize w.heap.size = gb at *
    have b0 := hbx.cell 0
    have b1 := hbx.cell 1
    have c1 := h0.one
    have c2 := h0.two
    have hle := hd.le
    go_wp2_with (go_at_call 30; refine (hcall _).mono ?_; rintro e w' ⟨rfl, rfl⟩)
    go_region_law (first
      | (go_simp; go_at_call 16; refine Calls.mono (size_calls (p := f.p) (s := f.s) (S := f.S) (bs := f.bs) ?_) ?_; exact hd; rintro e w' ⟨rfl, rfl⟩)
      | (go_simp; go_at_call 42; refine Calls.mono (rsize_calls (p := f.r) (s := f.s) (S := f.T) (bs := f.bs) ?_) ?_; exact hr; rintro e w' ⟨rfl, rfl⟩))
    all_goals
      go_wp2
      go_ret
      exact ⟨rfl, by first | exact q0 | exact q0.drew | exact q0.drewN _⟩
  by_cases k8 : k = 8
  · subst k8
    clear k7
    go_enter Try.func33, Try.ntmps33
    go_wp2_with fail
    generalize w.alloc (.cells #[.int .i64 8, .int .i64 st, .int .i64 a, .int .i64 b, .int .i64 c, .slice A n cap] 44) = w0 at *
    generalize w.heap.size = gb at *
    have b0 := hbx.cell 0
    have b1 := hbx.cell 1
    have c1 := h0.one
    have c2 := h0.two
    have hle := hd.le
    go_wp2_with (go_at_call 30; refine (hcall _).mono ?_; rintro e w' ⟨rfl, rfl⟩)
    go_region_law (first
      | (go_simp; go_at_call 18; refine Calls.mono (synced_calls (p := f.p) (s := f.s) (S := f.S) (bs := f.bs) ?_) ?_; exact hd; rintro e w' ⟨rfl, rfl⟩)
      | (go_simp; go_at_call 43; refine Calls.mono (rsynced_calls (p := f.r) (s := f.s) (S := f.T) (bs := f.bs) ?_) ?_; exact hr; rintro e w' ⟨rfl, rfl⟩))
    all_goals
      go_wp2
      go_ret
      exact ⟨rfl, by first | exact q0 | exact q0.drew | exact q0.drewN _⟩
  · have b7 : (k == 7) = false := by simpa using k7
    have b8 : (k == 8) = false := by simpa using k8
    clear k7 k8
    go_enter Try.func33, Try.ntmps33
    go_wp2_with fail
    generalize w.alloc (.cells #[.int .i64 k, .int .i64 st, .int .i64 a, .int .i64 b, .int .i64 c, .slice A n cap] 44) = w0 at *
    generalize w.heap.size = gb at *
    have b0 := hbx.cell 0
    have b1 := hbx.cell 1
    have c1 := h0.one
    have c2 := h0.two
    have hle := hd.le
    go_wp2_with (go_at_call 30; refine (hcall _).mono ?_; rintro e w' ⟨rfl, rfl⟩)
    go_region_law (first
      | (go_simp; go_at_call 17
         first
           | (refine Calls.mono (bytes_calls (p := f.p) (s := f.s) (S := f.S) (bs := f.bs) ?_) ?_; exact hd)
           | (refine Calls.mono (bytes_calls (p := f.p) (s := f.s) (S := f.S) (bs := f.bs) ?_) ?_; exact Chg.disk hc44 hd (by simp))
         rintro e w17 ⟨rfl, hr17, hc17⟩
         try have c3 := hc17.cell (p := ⟨q, 2 + i, none⟩) (v := .pointer (some ⟨f.r, 0, none⟩)) (by exact c2) (by simp))
      | (go_simp; go_at_call 44
         first
           | (refine Calls.mono (rbytes_calls (p := f.r) (s := f.s) (S := f.T) (bs := f.bs) ?_) ?_; exact hr)
           | (refine Calls.mono (rbytes_calls (p := f.r) (s := f.s) (S := f.T) (bs := f.bs) ?_) ?_; exact Chg.rdisk hc17 hr (by simp))
         rintro e w44 ⟨rfl, hr44, hc44⟩
         try have c4 := hc44.cell (p := ⟨q, i, none⟩) (v := .pointer (some ⟨f.p, 0, none⟩)) (by exact c1) (by simp))
      | (go_simp; go_at_call 22
         first
           | (refine Calls.mono (same_yes (xs := f.bs) (ys := f.bs) ?_ ?_ (by omega) rfl) ?_; exact (Chg.row hc44 hr17 (by simp)).reads; exact Row.reads hr44)
           | (refine Calls.mono (same_yes (xs := f.bs) (ys := f.bs) ?_ ?_ (by omega) rfl) ?_; exact Row.reads hr17; exact (Chg.row hc17 hr44 (by simp)).reads)
         rintro e w' ⟨rfl, q1, rfl⟩))
    all_goals
      go_wp2
      go_ret
      exact ⟨rfl, by
        first
          | exact ((q0.next hc17).next hc44).drewN _
          | exact ((q0.drew.next hc17).next hc44).drewN _
          | exact (((q0.drewN _).next hc17).next hc44).drewN _
          | exact ((q0.next hc44).next hc17).drewN _
          | exact ((q0.drew.next hc44).next hc17).drewN _
          | exact (((q0.drewN _).next hc44).next hc17).drewN _⟩

end Go.Proofs.Ytoaaneejecdglaa
