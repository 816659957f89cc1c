/-
  PROVED: the contracts of the bytes' joining, of Put8, Put16 and of the seal.
-/
import Derived.Test.YtgockfjhokocbaaGreatDoorSB
namespace Go.Proofs.YtgockfjhokocbaaGreatDoor
open Go.RowKit

theorem Tryz.info5 : (Tryz.prog.info? 5).map (fun i => (i.zero, i.size, i.bytes)) = some (some (.int .u8 0), 1, 1) := by kernel_rfl
theorem Tryz.size5 : (Tryz.prog.info? 5).map (·.size) = some 1 := by kernel_rfl

section
variable {P : Program} (w : World)
/-- 'copy(d, s)', s no longer than d, into a part of a block of its own. -/
theorem wpList_copy_part {ops : Array Oper} {rest : List Oper} {o : Oper} {a : Act} {Q : Exit → Act → World → Prop} (hgd : o.guard = none) (d s : Operand) (dT sT : TypeId)
    (ho : o.op = .call { callee := .builtin .copy, args := #[d, s], argTypes := #[dT, sT] }) (e : TypeId) (hu : P.underlying dT = some (.slice e)) (hsz : (P.info? e).map (·.size) = some 1)
    (A B : Option Addr) (n cap m c : Nat) (hd : a.eval d = .slice A n cap) (hs : a.eval s = .slice B m c) (hmn : m ≤ n)
    (g off : Nat) (t : TypeId) (cur ys : List Value) (hA : 0 < m → A = some ⟨g, off, none⟩) (hb : Blk w g t cur.toArray) (hfit : off + n ≤ cur.length) (hr : Reads w 1 B m ys) (h1 : ∀ u ∈ ys, u.oneCell' = true)
    (h : ∀ w', Blk w' g t (splice cur off ys).toArray → Chg [g] w w' → wpList P ops Q rest (a.put o.dst (goInt m)) w') :
    wpList P ops Q (o :: rest) a w := by
  have hl : ys.length = m := by have := hr.1; omega
  by_cases h0 : m = 0
  · subst h0
    obtain rfl : ys = [] := List.eq_nil_of_length_eq_zero hl
    exact wpList_copy_nothing hgd d s dT sT ho e hu hsz _ _ _ _ _ _ hd hs (by simp) (h w (by simpa [splice] using hb) (Chg.refl _ _))
  · obtain ⟨ad, rfl, hcell⟩ := hr.2 (by omega)
    obtain rfl := hA (by omega)
    have key := wpList_copy_own (w := w) hgd d s dT sT ho e hu hsz g off n cap ad m c hd hs cur.toArray t hb ys (by rw [hl]; exact (Nat.min_eq_left hmn).symm) hcell (by simp; omega) h1 (Q := Q) (ops := ops) (rest := rest)
    refine key ?_
    rw [hl]
    refine h _ ?_ ((Chg.refl _ w).setRow (.inl (by simp)) _)
    have := setRow_heap w g cur.toArray (splice cur off ys).toArray t _ hb
    unfold splice at this ⊢
    rw [hl] at this ⊢
    exact this
end

theorem splice_take (cur xs ys : List Value) : (splice (splice cur 0 xs) xs.length ys).take (xs.length + ys.length) = xs ++ ys := by
  unfold splice
  simp only [List.take_zero, List.nil_append]
  rw [List.take_left, ← List.append_assoc, List.take_append_of_le_length (by simp), List.take_of_length_le (by simp)]
theorem splice_length (cur xs : List Value) (k : Nat) (h : k + xs.length ≤ cur.length) : (splice cur k xs).length = cur.length := by
  unfold splice
  simp
  omega
/-- A new list of bytes. -/
def NewB (w : World) (m : Nat) (bs : List Nat) (e : Ending) (w' : World) : Prop :=
  ∃ z, e = .returned (.slice (some ⟨z, 0, none⟩) m m) ∧ Row w' 5 1 (some ⟨z, 0, none⟩) m m (bv bs) ∧ Chg [] w w' ∧ w.heap.size ≤ z

set_option maxHeartbeats 1000000 in
set_option maxRecDepth 100000 in
theorem with_calls {w : World} {A B : Option Addr} {n1 n2 c1 c2 : Nat} {xs ys : List Nat} (hx : Reads w 1 A n1 (bv xs)) (hy : Reads w 1 B n2 (bv ys)) (h1 : n1 ≤ 1000) (h2 : n2 ≤ 1000) :
    Calls Tryz.prog 57 #[.slice A n1 c1, .slice B n2 c2] w (NewB w (n1 + n2) (xs ++ ys)) := by
  obtain ⟨i0, hi, hz0, hz1, hz2⟩ := info_parts Tryz.info5
  have l1 : xs.length = n1 := by have := hx.1; rw [bv_length] at this; omega
  have l2 : ys.length = n2 := by have := hy.1; rw [bv_length] at this; omega
  have HX := Lib.hid hx
  have HY := Lib.hid hy
  have HL := Lib.hid (show (xs ++ ys).length = n1 + n2 by simp; omega)
  clear hx hy
  clear l1 l2
  go_enter Tryz.func57, Tryz.ntmps57
  go_wp2_with (at_make; refine wpList_make_row _ rfl (.tmp 10) (.tmp 10) 59 rfl 5 i0 (.int .u8 0) 1 1 Tryz.underlying59 hi hz0 hz1 hz2 .i64 .i64 _ _ (n1 + n2) (n1 + n2) rfl rfl (by omega) (by omega) (Nat.le_refl _) (by omega) (by unfold maxLen; omega) ?_)
  intro w1 hrow hch hsz
  obtain ⟨cur, hbl, hcs⟩ : ∃ cur : List Value, Blk w1 w.heap.size 5 cur.toArray ∧ n1 + n2 ≤ cur.length := by
    rcases hrow.2 with ⟨h0, _⟩ | ⟨g, cur, hA, hb, h1, h2, _⟩
    · cases h0
    · obtain rfl : w.heap.size = g := by injection hA with hA; injection hA
      exact ⟨cur.toList, hb, by simpa using h2⟩
  have HB := Lib.hid hbl
  have HC := Lib.hid hch
  clear hbl hrow hch hsz
  have hx1 := HC.out.reads' HX.out (by simp)
  go_wp2_with (with_reducible refine wpList_copy_part _ rfl (.tmp 13) (.tmp 14) 59 59 rfl 5 Tryz.underlying59 Tryz.size5 _ _ (n1 + n2) (n1 + n2) n1 c1 rfl rfl (by omega) w.heap.size 0 5 cur (bv xs) (fun _ => rfl) HB.out (by omega) hx1 (bv_one xs) ?_)
  intro w2 hb2 hc2
  have hc12 : Chg [] w w2 := HC.out.trans hc2 (fun i hi => .inr (by simp at hi; omega))
  have hy2 := hc12.reads' HY.out (by simp)
  have hl1 : (splice cur 0 (bv xs)).length = cur.length := splice_length cur (bv xs) 0 (by have := hx1.1; omega)
  have HL1 := Lib.hid hl1
  have HC12 := Lib.hid hc12
  have HX1 := Lib.hid hx1
  clear hl1 hc12 hx1
  go_wp2_with (with_reducible refine wpList_copy_part _ rfl (.tmp 16) (.tmp 17) 59 59 rfl 5 Tryz.underlying59 Tryz.size5 _ _ n2 n2 n2 c2 rfl rfl (Nat.le_refl _) w.heap.size n1 5 _ (bv ys) ?c1 hb2 ?c2 hy2 (bv_one ys) ?_)
  case c2 => rw [HL1.out]; exact hcs
  all_goals
    intro w3 hb3 hc3
    have HB3 := Lib.hid hb3
    clear hb3 hb2 hy2
    go_wp2_with fail
    go_ret
    have l1 : (bv xs).length = n1 := by have := HX1.out.1; omega
    have l2 : (bv ys).length = n2 := by have := HY.out.1; omega
    refine ⟨w.heap.size, by first | rfl | simp [(by assumption : n2 = 0)], ?_, HC12.out.trans hc3 (fun i hi => .inr (by simp at hi; omega)), Nat.le_refl _⟩
    refine ⟨by rw [bv_length, HL.out, Nat.mul_one], .inr ⟨w.heap.size, _, rfl, HB3.out, Nat.le_refl _, ?_, by unfold maxLen; omega, ?_⟩⟩
    · have := splice_length (splice cur 0 (bv xs)) (bv ys) n1 (by rw [HL1.out]; omega)
      simp only [List.size_toArray, this, HL1.out]
      omega
    · have := splice_take cur (bv xs) (bv ys)
      rw [l1, l2] at this
      simp only [Nat.mul_one, this]
      simp [bv]

theorem NewB.mono {w w1 w' : World} {m : Nat} {bs : List Nat} {e : Ending} (hc : Chg [] w w1) (h : NewB w1 m bs e w') : NewB w m bs e w' := by
  obtain ⟨z, he, hr, hc', hz⟩ := h
  exact ⟨z, he, hr, hc.next hc', Nat.le_trans hc.size hz⟩

theorem put8_calls {w : World} {A : Option Addr} {n c v : Nat} {xs : List Nat} (hx : Reads w 1 A n (bv xs)) (hn : n ≤ 1000) (hv : v < 256) :
    Calls Tryz.prog 58 #[.slice A n c, .int .u64 v] w (NewB w (n + 1) (xs ++ [v])) := by
  have HX := Lib.hid (((Chg.refl [] w).alloc (.cells #[.int .u8 v] 5)).reads' hx (by simp))
  clear hx
  have HC : Hid (Chg [] w (w.alloc (.cells #[.int .u8 v] 5))) := (Chg.refl [] w).alloc _
  have hy := built_reads w 5 [.int .u8 v]
  have HY : Hid (Reads (w.alloc (.cells #[.int .u8 v] 5)) 1 (some ⟨w.heap.size, 0, none⟩) 1 (bv [v])) := hy
  clear hy
  go_enter Tryz.func58, Tryz.ntmps58
  go_wp2_with (go_at_call 57; refine (with_calls HX.out HY.out hn (by omega)).mono ?_; rintro e w1 ⟨z, rfl, hr1, hc1, hz1⟩)
  go_ret
  exact NewB.mono HC.out ⟨z, rfl, hr1, hc1, hz1⟩

theorem put16_calls {w : World} {A : Option Addr} {n c v : Nat} {xs : List Nat} (hx : Reads w 1 A n (bv xs)) (hn : n ≤ 1000) (hv : v < 65536) :
    Calls Tryz.prog 59 #[.slice A n c, .int .u64 v] w (NewB w (n + 2) (xs ++ [v / 256, v % 256])) := by
  obtain ⟨O, hO⟩ : ∃ O : Obj, O = .cells #[.int .u8 ((v : Int) / 256), .int .u8 ((v : Int) % 256)] 5 := ⟨_, rfl⟩
  have HX := Lib.hid (((Chg.refl [] w).alloc O).reads' hx (by simp))
  clear hx
  have HC : Hid (Chg [] w (w.alloc O)) := (Chg.refl [] w).alloc _
  have hy := built_reads w 5 [.int .u8 ((v : Int) / 256), .int .u8 ((v : Int) % 256)]
  have HY : Hid (Reads (w.alloc (.cells #[.int .u8 ((v : Int) / 256), .int .u8 ((v : Int) % 256)] 5)) 1 (some ⟨w.heap.size, 0, none⟩) 2 (bv [v / 256, v % 256])) := by
    unfold Hid bv
    simpa using hy
  clear hy
  go_enter Tryz.func59, Tryz.ntmps59
  go_wp2_with fail
  rw [← hO]
  refine (with_calls HX.out (hO ▸ HY.out) hn (by omega)).mono ?_
  rintro e w1 ⟨z, rfl, hr1, hc1, hz1⟩
  go_wp2_with fail
  go_ret
  exact NewB.mono HC.out ⟨z, rfl, hr1, hc1, hz1⟩

theorem seal_calls {B : Nat} {w : World} {A : Option Addr} {n c : Nat} {xs : List Nat} (h : Laid B w) (hx : Reads w 1 A n (bv xs)) (hb : Bytes xs) (hn : n ≤ 1000) :
    Calls Tryz.prog 44 #[.slice A n c] w (NewB w (n + 4) (framed xs)) := by
  have l1 : xs.length = n := by have := hx.1; rw [bv_length] at this; omega
  have hs := crc_lt hb
  have hS : Calls Tryz.prog 56 #[.slice A n c] w fun e w' => e = .returned (.int .u32 (crc xs)) ∧ w = w' := by
    subst l1
    exact sum_calls h hx hb hn
  have HS := Lib.hid hS
  clear hS l1 h
  have HN : Hid (NewB w (n + 4) (framed xs) = NewB w (n + 4) (xs ++ sumB (crc xs))) := rfl
  generalize crc xs = s at *
  obtain ⟨O, hO⟩ : ∃ O : Obj, O = .cells #[.int .u8 ((s : Int) % 256), .int .u8 ((s : Int) / 256 % 256), .int .u8 ((s : Int) / 65536 % 256), .int .u8 ((s : Int) / 16777216)] 5 := ⟨_, rfl⟩
  have HX := Lib.hid (((Chg.refl [] w).alloc O).reads' hx (by simp))
  clear hx
  have HC : Hid (Chg [] w (w.alloc O)) := (Chg.refl [] w).alloc _
  have hy := built_reads w 5 [.int .u8 ((s : Int) % 256), .int .u8 ((s : Int) / 256 % 256), .int .u8 ((s : Int) / 65536 % 256), .int .u8 ((s : Int) / 16777216)]
  have HY : Hid (Reads (w.alloc O) 1 (some ⟨w.heap.size, 0, none⟩) 4 (bv (sumB s))) := by
    unfold Hid bv sumB
    rw [hO, show s / 16777216 % 256 = s / 16777216 by omega]
    simpa using hy
  clear hy
  go_enter Tryz.func44, Tryz.ntmps44
  go_wp2_with (go_at_call 56; refine HS.out.mono ?_; rintro e w1 ⟨rfl, rfl⟩)
  rw [← hO]
  refine (with_calls HX.out HY.out hn (by omega)).mono ?_
  rintro e w1 ⟨z, rfl, hr1, hc1, hz1⟩
  go_wp2_with fail
  go_ret
  rw [HN.out]
  exact NewB.mono HC.out ⟨z, rfl, hr1, hc1, hz1⟩
end Go.Proofs.YtgockfjhokocbaaGreatDoor
