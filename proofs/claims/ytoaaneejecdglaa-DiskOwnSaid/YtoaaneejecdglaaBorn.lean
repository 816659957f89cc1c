/-
  PROVED: the contract of born: a file that holds the given bytes, all synced.
-/
import Derived.Test.YtoaaneejecdglaaC
namespace Go.Proofs.Ytoaaneejecdglaa
open Go.RowKit

theorem Disk.lt {w : World} {p s : Nat} {S : List Nat} {bs : List Int} (h : Disk w p S bs s) : ∀ k ∈ S, k < w.heap.size := by
  obtain ⟨A, cap, rfl, hb, hr, _⟩ := h
  intro k hk
  rcases List.mem_cons.1 hk with rfl | hk
  · exact hb.lt
  · exact hr.lt k hk
theorem Disk.le {w : World} {p s : Nat} {S : List Nat} {bs : List Int} (h : Disk w p S bs s) : s ≤ bs.length ∧ bs.length ≤ 262144 := by
  obtain ⟨A, cap, rfl, hb, hr, h1, h2⟩ := h
  exact ⟨h1, h2⟩
theorem Disk.keep {w w' : World} {p s : Nat} {S T : List Nat} {bs : List Int} (h : Disk w p S bs s) (hc : Chg T w w') (hS : ∀ k ∈ S, k ∉ T) : Disk w' p S bs s := by
  obtain ⟨A, cap, rfl, hb, hr, h1, h2⟩ := h
  exact ⟨A, cap, rfl, hb.keep hc (hS p (by simp)), hr.keep hc (fun i hi => hS i (by simp [hi])), h1, h2⟩

theorem Reads.len {w : World} {n : Nat} {A : Option Addr} {xs : List Int} (h : Reads w 1 A n (bv xs)) : xs.length = n := by
  have := h.1; rw [bv_length] at this; omega

set_option maxHeartbeats 1000000 in
theorem born_calls {w : World} {n c : Nat} {B : Option Addr} {ys : List Int} (hy : Reads w 1 B n (bv ys)) (hn : n ≤ 262144) :
    Calls Try.prog 12 #[.slice B n c] w fun e w' => ∃ p S, e = .returned (.tuple #[.pointer (some ⟨p, 0, none⟩), .bool true]) ∧ Disk w' p S ys n ∧ Chg [] w w' ∧ ∀ k ∈ S, w.heap.size ≤ k := by
  have hyl := hy.len
  subst hyl
  go_enter Try.func12, Try.ntmps12
  go_wp2_with (first
    | (go_at_call 24; refine (new_calls _).mono ?_; rintro e w1 ⟨rfl, hd1, hc1⟩)
    | (go_at_call 16; refine (size_calls (by assumption)).mono ?_; rintro e w' ⟨rfl, rfl⟩)
    | (go_at_call 18; refine (synced_calls (by assumption)).mono ?_; rintro e w' ⟨rfl, rfl⟩)
    | (go_at_call 19; refine (copied_calls (hy.keep hc1 (by simp)) (by omega)).mono ?_; rintro e w2 ⟨rfl, hr2, hc2⟩; have hd2 := hd1.keep hc2 (by simp))
    | (go_at_call 15; refine (append_ok hd2 hr2.reads (by simp; omega)).mono ?_; rintro e w3 ⟨rfl, S3, hd3', hc3', hS3⟩; have hd3 : Disk w3 w.heap.size S3 ys 0 := hd3'; have hc3 : Chg [] w w3 := (hc1.next hc2).trans hc3' (fun i hi => .inr (by simp at hi; omega)); clear hd3' hc3')
    | (go_at_call 14; refine (num_calls _ _).mono ?_; rintro e w' ⟨rfl, rfl⟩)
    | (go_at_call 34; refine (sync_calls hd3).mono ?_; rintro e w4 ⟨rfl, hd4, hc4'⟩; have hc4 : Chg [] w w4 := hc3.trans hc4' (fun i hi => .inr (by rcases hS3 i hi with h | h; (simp at h; omega); (have := (hc1.next hc2).size; omega))); clear hc4')
    | (go_at_call 17; refine (bytes_calls (by assumption)).mono ?_; rintro e w5 ⟨rfl, hr5, hc5⟩)
    | (go_at_call 22; refine (same_calls hr5.reads (hy.keep (hc4.next hc5) (by simp)) (by omega)).mono ?_; rintro e w6 ⟨rfl, q, rfl⟩))
  go_ret2
  refine ⟨w.heap.size, S3, rfl, (hd4.keep hc5 (by simp)).drewN _, (hc4.next hc5).drewN _, fun k hk => ?_⟩
  rcases hS3 k hk with h | h
  · simp at h; omega
  · have := (hc1.next hc2).size; omega

end Go.Proofs.Ytoaaneejecdglaa
