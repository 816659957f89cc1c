/-
  PROVED: the contracts of OutboxDue's helpers row and drained, where they answer true.
-/
import Derived.Test.YtphbhmppjafhkaaD
import Derived.Deep.LoopGhost
namespace Go.Proofs.Ytphbhmppjafhkaa
open Go.RowKit

/-- The cells of item i of a list. -/
theorem item_cells {w : World} {z m k : Nat} {l : List (Int × Int)} (hr : Reads w 2 (some ⟨z, 0, none⟩) m (itv cI l)) (hk : k < l.length) :
    w.cell? ⟨z, k * 2, none⟩ = some (.int .i64 (l[k]).1) ∧ w.cell? ⟨z, k * 2 + 1, none⟩ = some (.int .i64 (l[k]).2) := by
  have hl := hr.1
  rw [itv_length cI_len] at hl
  obtain ⟨ad, e, hcl⟩ := hr.2 (by omega)
  injection e with e
  subst e
  have h0 := hcl _ _ (itv_get cI_len hk (j := 0) (u := .int .i64 (l[k]).1) rfl)
  have h1 := hcl _ _ (itv_get cI_len hk (j := 1) (u := .int .i64 (l[k]).2) rfl)
  rw [add_head] at h0 h1
  exact ⟨h0, h1⟩
theorem items_at {f k : Nat} {xs : List Int} (hk : k < xs.length) : (items f xs)[k]'(by rw [items_length]; exact hk) = (((f + k : Nat) : Int), xs[k]) := by
  have := items_get f k xs hk
  rw [List.getElem?_eq_getElem (by rw [items_length]; exact hk)] at this
  exact Option.some.inj this

set_option maxRecDepth 100000 in
set_option maxHeartbeats 1000000 in
theorem row_yes {w : World} {z a lc pn pc : Nat} {A : Option Addr} {xs put : List Int} (hl : Reads w 2 (some ⟨z, 0, none⟩) xs.length (itv cI (items (a + 1) xs))) (hp : Reads w 1 A pn (ev cI put)) (hpn : put.length = pn) (hle : a + xs.length ≤ pn) (h4 : pn ≤ 4096)
    (hg : ∀ i (h : i < xs.length), put[a + i]? = some xs[i]) :
    Calls Try.prog 46 #[.slice (some ⟨z, 0, none⟩) xs.length lc, .int .i64 ((a : Int) + 1), .int .i64 xs.length, .slice A pn pc] w fun e w' => e = .returned (.bool true) ∧ ∃ q, w' = w.drewN q := by
  have HG := Lib.hid hg
  have HL := Lib.hid hl
  have HP := Lib.hid hp
  have HPN := Lib.hid hpn
  clear hg hl hp hpn
  go_enter Try.func46, Try.ntmps46
  go_wp2_with fail
  go_loopw [9] (fun i wr => ∃ k q, k ≤ xs.length ∧ i = .int .i64 k ∧ wr = w.drewN q) (fun i _ => xs.length - (intOf i).toNat)
  case atStart => exact ⟨0, 0, Nat.zero_le _, rfl, rfl⟩
  case round =>
    obtain ⟨k, q, hk, rfl, rfl⟩ := hrel
    by_cases hlt : k < xs.length
    · have hi : k < (items (a + 1) xs).length := by rw [items_length]; exact hlt
      obtain ⟨c0, c1⟩ := item_cells HL.out hi
      rw [items_at hlt] at c0 c1
      simp only at c0 c1
      rw [show (((a + 1 + k : Nat) : Int)) = (a : Int) + 1 + k by omega] at c0
      obtain ⟨ad, u, rfl, hu, cp⟩ := HP.out.at_ (k := a + k) (by omega)
      have hx := HG.out k hlt
      obtain ⟨hp1, hp2⟩ := List.getElem?_eq_some_iff.1 hx
      rw [ev_cI_get hp1, hp2] at hu
      obtain rfl : Value.int .i64 xs[k] = u := by injection hu
      have e1 : IntKind.i64.wrap ((a : Int) + 1 + k) = (a : Int) + 1 + k := IntWalk.i64_in _ (by omega)
      have e2 : IntKind.i64.wrap ((a : Int) + 1 + k - 1) = (a : Int) + k := by rw [IntWalk.i64_in _ (by omega)]; omega
      have g1 : ¬ (a : Int) + 1 + k < 1 := by omega
      have g2 : ¬ (pn : Int) < (a : Int) + 1 + k := by omega
      have e3 : ((a : Int) + k).toNat = a + k := by omega
      have g3 : (0 : Int) ≤ (a : Int) + k := by omega
      have g4 : (a : Int) + k < pn := by omega
      have g5 : a + k < pn := by omega
      clear hu hx hp1 hp2 hi
      go_wp2_with fail
      go_quiet (fail)
      go_wp2_with fail
      go_roundw
      case rel => exact ⟨k + 1, _, by omega, by go_num, rfl⟩
      case measure => simp [intOf]; omega
    · go_wp2
      go_ret
      exact ⟨rfl, q, rfl⟩

end Go.Proofs.Ytphbhmppjafhkaa
