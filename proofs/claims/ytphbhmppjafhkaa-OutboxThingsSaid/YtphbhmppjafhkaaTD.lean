/-
  PROVED: the contract of sameThings, where it answers true.
-/
import Derived.Test.YtphbhmppjafhkaaTC
namespace Go.Proofs.Ytphbhmppjafhkaa
open Go.RowKit

/-- A world that has only grown. -/
structure Beyond (w : World) where
  w' : World
  h : Chg [] w w'
instance (w : World) : Nonempty (Beyond w) := ⟨⟨w, Chg.refl _ _⟩⟩
/-- A region that draws its order, whose operations read, and whose calls only make new memory. -/
theorem wp_region_beyond_lit {P : Program} {id : Nat} {Q : Exit → Act → World → Prop} {a : Act} {w : World} {l : List Oper} (hm : P.follows .mixedOrders = true) (hB : Region.lexB .any l.toArray = true)
    (h : wpQuiet P l.toArray (fun w' => ∃ u : Beyond w, w' = u.w') (fun a' => ∀ w', (∃ u : Beyond w, w' = u.w') → Q .normal a' w') l a) : (Code.region id l.toArray true).wp P Q a w :=
  wp_region_quiet (C := fun w' => ∃ u : Beyond w, w' = u.w') hm hB ⟨⟨_, (Chg.refl _ w).drew⟩, rfl⟩ (by simpa using h)

theorem thing_cells {w : World} {z m k : Nat} {l : List (Int × Int)} (hr : Reads w 7 (some ⟨z, 0, none⟩) m (itv cT l)) (hk : k < l.length) :
    w.cell? ⟨z, k * 7, none⟩ = some (.int .i64 (l[k]).1) ∧ ∀ j u, (cT (l[k]).2)[j]? = some u → w.cell? ⟨z, k * 7 + 1 + j, none⟩ = some u := by
  have hl := hr.1
  rw [itv_length cT_len] at hl
  obtain ⟨ad, e, hcl⟩ := hr.2 (by omega)
  injection e with e
  subst e
  refine ⟨?_, fun j u hu => ?_⟩
  · have h0 := hcl _ _ (itv_get cT_len hk (j := 0) (u := .int .i64 (l[k]).1) rfl)
    rw [add_head] at h0
    exact h0
  · have h1 := hcl _ _ (itv_get cT_len hk (j := j + 1) (u := u) (by simpa using hu))
    rw [add_head] at h1
    rw [show k * 7 + 1 + j = k * (6 + 1) + (j + 1) by omega]
    exact h1

set_option maxRecDepth 100000 in
set_option maxHeartbeats 2000000 in
theorem sameThings_yes {w : World} {z cz m c : Nat} {B : Option Addr} {l : List (Int × Int)} (hm : m ≤ 4096) (hx : Reads w 7 (some ⟨z, 0, none⟩) m (itv cT l)) (hy : Row w 99 2 B m c (itv cI l)) :
    Calls Try.prog 34 #[.slice (some ⟨z, 0, none⟩) m cz, .slice B m c] w fun e w' => e = .returned (.bool true) ∧ Chg [] w w' := by
  have hl : Hid (l.length = m) := by have := hx.1; rw [itv_length cT_len] at this; unfold Hid; omega
  have HX := Lib.hid hx
  have HY := Lib.hid hy
  clear hx hy
  go_enter Try.func34, Try.ntmps34
  go_wp2_with fail
  go_loopw [5] (fun i wr => ∃ k, k ≤ m ∧ i = .int .i64 k ∧ Chg [] w wr) (fun i _ => m - (intOf i).toNat)
  case atStart => exact ⟨0, Nat.zero_le _, rfl, Chg.refl _ _⟩
  case round =>
    obtain ⟨k, hk, rfl, hc⟩ := hrel
    by_cases hlt : k < m
    · have hkl : k < l.length := by rw [hl.out]; exact hlt
      obtain ⟨g, cur, rfl, _⟩ := HY.out.blk (by omega)
      have hth := fun W => thing_calls W (l[k]).2
      have hcc := fun u : Beyond wr => thing_cells (HX.out.keep (hc.next u.h) (by simp)) hkl
      have hdd := fun u : Beyond wr => item_cells (HY.out.keep (hc.next u.h) (by simp)).reads hkl
      generalize (l[k]).1 = a at *
      generalize (l[k]).2 = b at *
      unfold cT at hth hcc
      generalize strT b = sx at *
      generalize wrap64 (-b) = nx at *
      have c0 := fun u : Beyond wr => (hcc u).1
      have d0 := fun u : Beyond wr => (hdd u).1
      have d1 := fun u : Beyond wr => (hdd u).2
      have s0 := fun u : Beyond wr => (hcc u).2 0 _ rfl
      have s1 := fun u : Beyond wr => (hcc u).2 1 _ rfl
      have s2 := fun u : Beyond wr => (hcc u).2 2 _ rfl
      have s3 := fun u : Beyond wr => (hcc u).2 3 _ rfl
      have s4 := fun u : Beyond wr => (hcc u).2 4 _ rfl
      have s5 := fun u : Beyond wr => (hcc u).2 5 _ rfl
      simp only [Nat.add_assoc, Nat.reduceAdd, Nat.add_zero] at s0 s1 s2 s3 s4 s5
      have HTH := Lib.hid hth
      clear hkl hcc hdd hth
      go_wp2_with fail
      refine wp_region_beyond_lit (by kernel_rfl) (by kernel_rfl) ?_
      repeat (go_big_quiet_step ((rename_i u; go_at_call 29; exact (HTH.out _).mono fun e w' ⟨he, hc⟩ => ⟨he, ⟨w', u.h.next hc⟩, rfl⟩)))
      refine wpQuiet_nil ?_
      intro w6 hw6
      obtain ⟨u, rfl⟩ := hw6
      go_wp2_with fail
      go_roundw
      case rel => exact ⟨k + 1, by omega, by go_num, hc.next u.h⟩
      case measure => simp [intOf]; omega
    · go_wp2
      go_ret
      exact ⟨rfl, hc⟩
end Go.Proofs.Ytphbhmppjafhkaa
