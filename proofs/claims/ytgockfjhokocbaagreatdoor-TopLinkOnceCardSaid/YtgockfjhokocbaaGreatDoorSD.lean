/-
  PROVED: the contracts of Wrap and of Open: the sum taken off, if it is right.
-/
import Derived.Test.YtgockfjhokocbaaGreatDoorSC
namespace Go.Proofs.YtgockfjhokocbaaGreatDoor
open Go.RowKit

theorem wrap_calls (w : World) (at_ c : Int) : Calls Tryz.prog 40 #[.int .i64 at_, .int .i64 c] w fun e w' => e = .returned (.iface 107 (.pointer (some ⟨w.heap.size, 0, none⟩))) ∧ w' = w.alloc (.cells #[.int .i64 at_, .iface 41 (.int .i64 c)] 109) := by
  go_enter Tryz.func40, Tryz.ntmps40
  go_wp2
  go_ret
  exact ⟨rfl, rfl⟩

/-- A refusal: the error's own block is new. -/
def Refused (w : World) (t : TypeId) (v : Value) (at_ c : Int) (e : Ending) (w' : World) : Prop :=
  ∃ f, e = .returned (.tuple #[v, .iface 107 (.pointer (some ⟨f, 0, none⟩))]) ∧ Blk w' f t #[.int .i64 at_, .iface 41 (.int .i64 c)] ∧ Chg [] w w' ∧ w.heap.size ≤ f

theorem open_parts {B : Nat} {w : World} {ad : Addr} {k c : Nat} {xs ys : List Nat} (h : Laid B w) (hx : Reads w 1 (some ad) (k + 4) (bv (xs ++ ys)))
    (hl : xs.length = k) (hb : Bytes xs) (hn : k ≤ 900) :
    Reads w 1 (some ad) k (bv xs) ∧ (Calls Tryz.prog 56 #[.slice (some ad) k c] w fun e w' => e = .returned (.int .u32 (crc xs)) ∧ w = w') ∧ ∀ i u, ys[i]? = some u → w.cell? (ad.add (k + i)) = some (.int .u8 (u : Nat)) := by
  have hk : Reads w 1 (some ad) k (bv xs) := by
    have := hx.take (k := k) (by omega)
    rw [Nat.mul_one] at this
    unfold bv at this ⊢
    rwa [List.map_append, List.take_left' (by simpa using hl)] at this
  refine ⟨hk, ?_, ?_⟩
  · subst hl
    exact sum_calls h hk hb (by omega)
  · intro i u hu
    obtain ⟨ad', e, hc⟩ := hx.2 (by omega)
    obtain rfl : ad = ad' := Option.some.inj e
    refine hc _ _ ?_
    unfold bv
    rw [List.map_append, List.getElem?_append_right (by simp; omega), List.length_map, hl, Nat.add_sub_cancel_left, List.getElem?_map, hu]
    rfl

set_option maxHeartbeats 1000000 in
set_option maxRecDepth 100000 in
theorem open_ok {B : Nat} {w : World} {ad : Addr} {k c s : Nat} {xs : List Nat} (h : Laid B w) (hx : Reads w 1 (some ad) (k + 4) (bv (xs ++ [s % 256, s / 256 % 256, s / 65536 % 256, s / 16777216])))
    (hl : xs.length = k) (hs : s = crc xs) (hb : Bytes xs) (hn : k ≤ 900) (hc : k + 4 ≤ c) :
    Calls Tryz.prog 71 #[.slice (some ad) (k + 4) c] w fun e w' => ∃ z, e = .returned (.tuple #[.slice (some ⟨z, 0, none⟩) k k, .nilIface]) ∧ Row w' 5 1 (some ⟨z, 0, none⟩) k k (bv xs) ∧ Chg [] w w' ∧ w.heap.size ≤ z := by
  have hs32 : s < 4294967296 := by rw [hs]; exact crc_lt hb
  obtain ⟨hk, hS, hcell⟩ := open_parts (c := c) h hx hl hb hn
  rw [← hs] at hS
  have HS := Lib.hid hS
  have c0 := hcell 0 _ rfl
  have c1 := hcell 1 _ rfl
  have c2 := hcell 2 _ rfl
  have c3 := hcell 3 _ rfl
  simp only [Nat.add_zero] at c0
  rw [Addr.add_succ'] at c1 c2 c3
  have HK := Lib.hid hk
  clear hcell hx hS hk hs hl h
  go_enter Tryz.func71, Tryz.ntmps71
  go_wp2_with (go_at_call 56; refine HS.out.mono ?_; rintro e w1 ⟨rfl, rfl⟩)
  have e1 : IntKind.i64.wrap ((k : Int) + 1) = k + 1 := IntWalk.i64_in _ (by omega)
  have e2 : IntKind.i64.wrap ((k : Int) + 2) = k + 2 := IntWalk.i64_in _ (by omega)
  have e3 : IntKind.i64.wrap ((k : Int) + 3) = k + 3 := IntWalk.i64_in _ (by omega)
  have n1 : ((k : Int) + 1).toNat = k + 1 := by omega
  have n2 : ((k : Int) + 2).toNat = k + 2 := by omega
  have n3 : ((k : Int) + 3).toNat = k + 3 := by omega
  have p1 : 0 ≤ (k : Int) + 1 := by omega
  have p2 : 0 ≤ (k : Int) + 2 := by omega
  have p3 : 0 ≤ (k : Int) + 3 := by omega
  refine wp_loop_rounds 5 ?_
  rw [rounds_succ]
  go_wp2_with fail
  go_quiet (fail)
  go_wp2_with fail
  rw [rounds_succ]
  go_wp2_with fail
  go_quiet (fail)
  go_wp2_with fail
  rw [rounds_succ]
  go_wp2_with fail
  go_quiet (fail)
  go_wp2_with fail
  rw [rounds_succ]
  go_wp2_with fail
  go_quiet (fail)
  go_wp2_with fail
  rw [rounds_succ]
  go_wp2_with fail
  refine Calls.mono (with_calls (w := _) (xs := xs) (ys := []) (n1 := k) (n2 := 0) ?_ ?_ (by omega) (by omega)) ?_
  · exact HK.out.keep ((Chg.refl [] _).drewN _) (by simp)
  · exact Reads.nil _ _ _
  rintro e w1 ⟨z, rfl, hr1, hc1, hz1⟩
  go_wp2_with fail
  go_ret2
  rw [List.append_nil] at hr1
  exact ⟨z, rfl, hr1, ((Chg.refl [] _).drewN _).next hc1, hz1⟩

set_option maxHeartbeats 1000000 in
set_option maxRecDepth 100000 in
theorem open_bad0 {B : Nat} {w : World} {ad : Addr} {k c s : Nat} {xs : List Nat} {b0 b1 b2 b3 : Nat} (h : Laid B w) (hx : Reads w 1 (some ad) (k + 4) (bv (xs ++ [b0, b1, b2, b3])))
    (hl : xs.length = k) (hs : s = crc xs) (hb : Bytes xs) (hn : k ≤ 900) (hc : k + 4 ≤ c) (hj : b0 ≠ s % 256) :
    Calls Tryz.prog 71 #[.slice (some ad) (k + 4) c] w fun e w' => Refused w 109 (.slice none 0 0) k 11 e w' := by
  have hs32 : s < 4294967296 := by rw [hs]; exact crc_lt hb
  obtain ⟨hk, hS, hcell⟩ := open_parts (c := c) h hx hl hb hn
  rw [← hs] at hS
  have HS := Lib.hid hS
  have c0 := hcell 0 _ rfl
  have c1 := hcell 1 _ rfl
  have c2 := hcell 2 _ rfl
  have c3 := hcell 3 _ rfl
  simp only [Nat.add_zero] at c0
  rw [Addr.add_succ'] at c1 c2 c3
  have HK := Lib.hid hk
  have HJ : ((b0 : Int) == (s : Int) % 256) = false := beq_eq_false_iff_ne.2 (by omega)
  have HJ2 : ¬ ((b0 : Int) = (s : Int) % 256) := by omega
  clear hj
  clear hcell hx hS hk hs hl h
  go_enter Tryz.func71, Tryz.ntmps71
  go_wp2_with (go_at_call 56; refine HS.out.mono ?_; rintro e w1 ⟨rfl, rfl⟩)
  have e1 : IntKind.i64.wrap ((k : Int) + 1) = k + 1 := IntWalk.i64_in _ (by omega)
  have e2 : IntKind.i64.wrap ((k : Int) + 2) = k + 2 := IntWalk.i64_in _ (by omega)
  have e3 : IntKind.i64.wrap ((k : Int) + 3) = k + 3 := IntWalk.i64_in _ (by omega)
  have n1 : ((k : Int) + 1).toNat = k + 1 := by omega
  have n2 : ((k : Int) + 2).toNat = k + 2 := by omega
  have n3 : ((k : Int) + 3).toNat = k + 3 := by omega
  have p1 : 0 ≤ (k : Int) + 1 := by omega
  have p2 : 0 ≤ (k : Int) + 2 := by omega
  have p3 : 0 ≤ (k : Int) + 3 := by omega
  refine wp_loop_rounds 5 ?_
  rw [rounds_succ]
  go_wp2_with fail
  go_quiet (fail)
  go_wp2_with fail
  refine Calls.mono (wrap_calls _ _ _) ?_
  rintro e w1 ⟨rfl, rfl⟩
  go_wp2_with fail
  go_ret2
  refine ⟨_, rfl, Blk.new _ _ _, ((Chg.refl [] w).drewN _).alloc _, ?_⟩
  simp

set_option maxHeartbeats 1000000 in
set_option maxRecDepth 100000 in
theorem open_bad1 {B : Nat} {w : World} {ad : Addr} {k c s : Nat} {xs : List Nat} {b1 b2 b3 : Nat} (h : Laid B w) (hx : Reads w 1 (some ad) (k + 4) (bv (xs ++ [s % 256, b1, b2, b3])))
    (hl : xs.length = k) (hs : s = crc xs) (hb : Bytes xs) (hn : k ≤ 900) (hc : k + 4 ≤ c) (hj : b1 ≠ s / 256 % 256) :
    Calls Tryz.prog 71 #[.slice (some ad) (k + 4) c] w fun e w' => Refused w 109 (.slice none 0 0) k 11 e w' := by
  have hs32 : s < 4294967296 := by rw [hs]; exact crc_lt hb
  obtain ⟨hk, hS, hcell⟩ := open_parts (c := c) h hx hl hb hn
  rw [← hs] at hS
  have HS := Lib.hid hS
  have c0 := hcell 0 _ rfl
  have c1 := hcell 1 _ rfl
  have c2 := hcell 2 _ rfl
  have c3 := hcell 3 _ rfl
  simp only [Nat.add_zero] at c0
  rw [Addr.add_succ'] at c1 c2 c3
  have HK := Lib.hid hk
  have HJ : ((b1 : Int) == (s : Int) / 256 % 256) = false := beq_eq_false_iff_ne.2 (by omega)
  have HJ2 : ¬ ((b1 : Int) = (s : Int) / 256 % 256) := by omega
  clear hj
  clear hcell hx hS hk hs hl h
  go_enter Tryz.func71, Tryz.ntmps71
  go_wp2_with (go_at_call 56; refine HS.out.mono ?_; rintro e w1 ⟨rfl, rfl⟩)
  have e1 : IntKind.i64.wrap ((k : Int) + 1) = k + 1 := IntWalk.i64_in _ (by omega)
  have e2 : IntKind.i64.wrap ((k : Int) + 2) = k + 2 := IntWalk.i64_in _ (by omega)
  have e3 : IntKind.i64.wrap ((k : Int) + 3) = k + 3 := IntWalk.i64_in _ (by omega)
  have n1 : ((k : Int) + 1).toNat = k + 1 := by omega
  have n2 : ((k : Int) + 2).toNat = k + 2 := by omega
  have n3 : ((k : Int) + 3).toNat = k + 3 := by omega
  have p1 : 0 ≤ (k : Int) + 1 := by omega
  have p2 : 0 ≤ (k : Int) + 2 := by omega
  have p3 : 0 ≤ (k : Int) + 3 := by omega
  refine wp_loop_rounds 5 ?_
  rw [rounds_succ]
  go_wp2_with fail
  go_quiet (fail)
  go_wp2_with fail
  rw [rounds_succ]
  go_wp2_with fail
  go_quiet (fail)
  go_wp2_with fail
  refine Calls.mono (wrap_calls _ _ _) ?_
  rintro e w1 ⟨rfl, rfl⟩
  go_wp2_with fail
  go_ret2
  refine ⟨_, rfl, Blk.new _ _ _, ((Chg.refl [] w).drewN _).alloc _, ?_⟩
  simp

set_option maxHeartbeats 1000000 in
set_option maxRecDepth 100000 in
theorem open_bad2 {B : Nat} {w : World} {ad : Addr} {k c s : Nat} {xs : List Nat} {b2 b3 : Nat} (h : Laid B w) (hx : Reads w 1 (some ad) (k + 4) (bv (xs ++ [s % 256, s / 256 % 256, b2, b3])))
    (hl : xs.length = k) (hs : s = crc xs) (hb : Bytes xs) (hn : k ≤ 900) (hc : k + 4 ≤ c) (hj : b2 ≠ s / 65536 % 256) :
    Calls Tryz.prog 71 #[.slice (some ad) (k + 4) c] w fun e w' => Refused w 109 (.slice none 0 0) k 11 e w' := by
  have hs32 : s < 4294967296 := by rw [hs]; exact crc_lt hb
  obtain ⟨hk, hS, hcell⟩ := open_parts (c := c) h hx hl hb hn
  rw [← hs] at hS
  have HS := Lib.hid hS
  have c0 := hcell 0 _ rfl
  have c1 := hcell 1 _ rfl
  have c2 := hcell 2 _ rfl
  have c3 := hcell 3 _ rfl
  simp only [Nat.add_zero] at c0
  rw [Addr.add_succ'] at c1 c2 c3
  have HK := Lib.hid hk
  have HJ : ((b2 : Int) == (s : Int) / 65536 % 256) = false := beq_eq_false_iff_ne.2 (by omega)
  have HJ2 : ¬ ((b2 : Int) = (s : Int) / 65536 % 256) := by omega
  clear hj
  clear hcell hx hS hk hs hl h
  go_enter Tryz.func71, Tryz.ntmps71
  go_wp2_with (go_at_call 56; refine HS.out.mono ?_; rintro e w1 ⟨rfl, rfl⟩)
  have e1 : IntKind.i64.wrap ((k : Int) + 1) = k + 1 := IntWalk.i64_in _ (by omega)
  have e2 : IntKind.i64.wrap ((k : Int) + 2) = k + 2 := IntWalk.i64_in _ (by omega)
  have e3 : IntKind.i64.wrap ((k : Int) + 3) = k + 3 := IntWalk.i64_in _ (by omega)
  have n1 : ((k : Int) + 1).toNat = k + 1 := by omega
  have n2 : ((k : Int) + 2).toNat = k + 2 := by omega
  have n3 : ((k : Int) + 3).toNat = k + 3 := by omega
  have p1 : 0 ≤ (k : Int) + 1 := by omega
  have p2 : 0 ≤ (k : Int) + 2 := by omega
  have p3 : 0 ≤ (k : Int) + 3 := by omega
  refine wp_loop_rounds 5 ?_
  rw [rounds_succ]
  go_wp2_with fail
  go_quiet (fail)
  go_wp2_with fail
  rw [rounds_succ]
  go_wp2_with fail
  go_quiet (fail)
  go_wp2_with fail
  rw [rounds_succ]
  go_wp2_with fail
  go_quiet (fail)
  go_wp2_with fail
  refine Calls.mono (wrap_calls _ _ _) ?_
  rintro e w1 ⟨rfl, rfl⟩
  go_wp2_with fail
  go_ret2
  refine ⟨_, rfl, Blk.new _ _ _, ((Chg.refl [] w).drewN _).alloc _, ?_⟩
  simp

set_option maxHeartbeats 1000000 in
set_option maxRecDepth 100000 in
theorem open_bad3 {B : Nat} {w : World} {ad : Addr} {k c s : Nat} {xs : List Nat} {b3 : Nat} (h : Laid B w) (hx : Reads w 1 (some ad) (k + 4) (bv (xs ++ [s % 256, s / 256 % 256, s / 65536 % 256, b3])))
    (hl : xs.length = k) (hs : s = crc xs) (hb : Bytes xs) (hn : k ≤ 900) (hc : k + 4 ≤ c) (hj : b3 ≠ s / 16777216) :
    Calls Tryz.prog 71 #[.slice (some ad) (k + 4) c] w fun e w' => Refused w 109 (.slice none 0 0) k 11 e w' := by
  have hs32 : s < 4294967296 := by rw [hs]; exact crc_lt hb
  obtain ⟨hk, hS, hcell⟩ := open_parts (c := c) h hx hl hb hn
  rw [← hs] at hS
  have HS := Lib.hid hS
  have c0 := hcell 0 _ rfl
  have c1 := hcell 1 _ rfl
  have c2 := hcell 2 _ rfl
  have c3 := hcell 3 _ rfl
  simp only [Nat.add_zero] at c0
  rw [Addr.add_succ'] at c1 c2 c3
  have HK := Lib.hid hk
  have HJ : ((b3 : Int) == (s : Int) / 16777216) = false := beq_eq_false_iff_ne.2 (by omega)
  have HJ2 : ¬ ((b3 : Int) = (s : Int) / 16777216) := by omega
  clear hj
  clear hcell hx hS hk hs hl h
  go_enter Tryz.func71, Tryz.ntmps71
  go_wp2_with (go_at_call 56; refine HS.out.mono ?_; rintro e w1 ⟨rfl, rfl⟩)
  have e1 : IntKind.i64.wrap ((k : Int) + 1) = k + 1 := IntWalk.i64_in _ (by omega)
  have e2 : IntKind.i64.wrap ((k : Int) + 2) = k + 2 := IntWalk.i64_in _ (by omega)
  have e3 : IntKind.i64.wrap ((k : Int) + 3) = k + 3 := IntWalk.i64_in _ (by omega)
  have n1 : ((k : Int) + 1).toNat = k + 1 := by omega
  have n2 : ((k : Int) + 2).toNat = k + 2 := by omega
  have n3 : ((k : Int) + 3).toNat = k + 3 := by omega
  have p1 : 0 ≤ (k : Int) + 1 := by omega
  have p2 : 0 ≤ (k : Int) + 2 := by omega
  have p3 : 0 ≤ (k : Int) + 3 := by omega
  refine wp_loop_rounds 5 ?_
  rw [rounds_succ]
  go_wp2_with fail
  go_quiet (fail)
  go_wp2_with fail
  rw [rounds_succ]
  go_wp2_with fail
  go_quiet (fail)
  go_wp2_with fail
  rw [rounds_succ]
  go_wp2_with fail
  go_quiet (fail)
  go_wp2_with fail
  rw [rounds_succ]
  go_wp2_with fail
  go_quiet (fail)
  go_wp2_with fail
  refine Calls.mono (wrap_calls _ _ _) ?_
  rintro e w1 ⟨rfl, rfl⟩
  go_wp2_with fail
  go_ret2
  refine ⟨_, rfl, Blk.new _ _ _, ((Chg.refl [] w).drewN _).alloc _, ?_⟩
  simp

theorem append4 {bs : List Nat} {k : Nat} (h : bs.length = k + 4) : ∃ xs b0 b1 b2 b3, bs = xs ++ [b0, b1, b2, b3] ∧ xs.length = k ∧ bs.take k = xs ∧ bs.drop k = [b0, b1, b2, b3] := by
  have h1 : (bs.drop k).length = 4 := by rw [List.length_drop]; omega
  match hd : bs.drop k, h1 with
  | [b0, b1, b2, b3], _ => exact ⟨bs.take k, b0, b1, b2, b3, by rw [← hd, List.take_append_drop], by rw [List.length_take]; omega, rfl, rfl⟩
theorem sumB_eq {s : Nat} (h : s < 4294967296) : sumB s = [s % 256, s / 256 % 256, s / 65536 % 256, s / 16777216] := by
  unfold sumB
  rw [show s / 16777216 % 256 = s / 16777216 by omega]

theorem open_framed {B : Nat} {w : World} {ad : Addr} {k c : Nat} {xs : List Nat} (h : Laid B w) (hx : Reads w 1 (some ad) (k + 4) (bv (framed xs)))
    (hl : xs.length = k) (hb : Bytes xs) (hn : k ≤ 900) (hc : k + 4 ≤ c) :
    Calls Tryz.prog 71 #[.slice (some ad) (k + 4) c] w fun e w' => ∃ z, e = .returned (.tuple #[.slice (some ⟨z, 0, none⟩) k k, .nilIface]) ∧ Row w' 5 1 (some ⟨z, 0, none⟩) k k (bv xs) ∧ Chg [] w w' ∧ w.heap.size ≤ z := by
  unfold framed at hx
  rw [sumB_eq (crc_lt hb)] at hx
  exact open_ok h hx hl rfl hb hn hc
/-- Whatever the bytes: if the last four are not the sum of the others, they are refused. -/
theorem open_bad {B : Nat} {w : World} {ad : Addr} {k c : Nat} {bs : List Nat} (h : Laid B w) (hx : Reads w 1 (some ad) (k + 4) (bv bs))
    (hl : bs.length = k + 4) (hb : Bytes bs) (hn : k ≤ 900) (hc : k + 4 ≤ c) (hne : bs.drop k ≠ sumB (crc (bs.take k))) :
    Calls Tryz.prog 71 #[.slice (some ad) (k + 4) c] w (Refused w 109 (.slice none 0 0) k 11) := by
  obtain ⟨xs, b0, b1, b2, b3, rfl, hk, ht, hd⟩ := append4 hl
  rw [ht, hd] at hne
  have hbx : Bytes xs := fun d hd => hb d (by simp [hd])
  rw [sumB_eq (crc_lt hbx)] at hne
  by_cases h0 : b0 = crc xs % 256
  · subst h0
    by_cases h1 : b1 = crc xs / 256 % 256
    · subst h1
      by_cases h2 : b2 = crc xs / 65536 % 256
      · subst h2
        exact open_bad3 h hx hk rfl hbx hn hc (fun h3 => hne (by rw [h3]))
      · exact open_bad2 h hx hk rfl hbx hn hc h2
    · exact open_bad1 h hx hk rfl hbx hn hc h1
  · exact open_bad0 h hx hk rfl hbx hn hc h0
end Go.Proofs.YtgockfjhokocbaaGreatDoor
