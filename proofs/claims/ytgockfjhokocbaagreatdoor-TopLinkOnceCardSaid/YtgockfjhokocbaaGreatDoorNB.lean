/-
  PROVED: the network as a list of datagrams; the contracts of New, Count, age, Clone, put.
-/
import Derived.Test.YtgockfjhokocbaaGreatDoorNA
import Derived.Test.YtgockfjhokocbaaGreatDoorSC
namespace Go.Proofs.YtgockfjhokocbaaGreatDoor
open Go.RowKit

/-- A datagram: from client 1 to the server (up) or back; its bytes lie at the head of block g. -/
structure Dg where
  up : Bool
  g : Nat
  n : Nat
  cap : Nat
  sp : Bool
  bs : List Nat
def fromV (up : Bool) : Int := if up then 1 else 0
def toV (up : Bool) : Int := if up then 0 else 1
def dgC (d : Dg) : Array Value := #[.int .i64 (fromV d.up), .int .i64 (toV d.up), .slice (some ⟨d.g, 0, none⟩) d.n d.cap, .bool d.sp]
def dgV (d : Dg) : Value := .agg (dgC d)
def enc (l : List (Nat × Dg)) : List (Nat × Value) := l.map fun x => (x.1, dgV x.2)
theorem enc_length (l : List (Nat × Dg)) : (enc l).length = l.length := by simp [enc]
def DgAt (w : World) (d : Dg) : Prop := Row w 5 1 (some ⟨d.g, 0, none⟩) d.n d.cap (bv d.bs) ∧ 0 < d.n ∧ d.n ≤ 64
theorem DgAt.keep {w w' : World} {d : Dg} {S : List Nat} (h : DgAt w d) (hc : Chg S w w') (hS : d.g ∉ S) : DgAt w' d := ⟨h.1.keep hc (by simpa [ob] using hS), h.2⟩
theorem DgAt.blk {w : World} {d : Dg} (h : DgAt w d) : ∃ cur, Blk w d.g 5 cur := by
  obtain ⟨g, cur, hA, hb, _⟩ := h.1.blk h.2.1
  obtain rfl : d.g = g := by injection hA with hA; injection hA
  exact ⟨cur, hb⟩
theorem DgAt.lt {w : World} {d : Dg} (h : DgAt w d) : d.g < w.heap.size := by obtain ⟨cur, hb⟩ := h.blk; exact hb.lt

/-- The network: its block p, its map b, what is in flight (by age), the next age. -/
structure NetAt (w : World) (p b : Nat) (l : List (Nat × Dg)) (nx : Nat) : Prop where
  blk : Blk w p 77 #[.int .i64 1, .int .i64 nx, .map (some b)]
  map : MapAt Tryz.prog 3 w b (enc l)
  dg : ∀ x ∈ l, DgAt w x.2
  age : ∀ x ∈ l, x.1 < nx
  len : l.length ≤ 2048
  nx : nx ≤ 4611686018427387904

namespace NetAt
variable {w w' : World} {p b nx : Nat} {l : List (Nat × Dg)} {S : List Nat}
theorem keep (h : NetAt w p b l nx) (hc : Chg S w w') (hp : p ∉ S) (hb : b ∉ S) (hd : ∀ x ∈ l, x.2.g ∉ S) : NetAt w' p b l nx :=
  ⟨h.blk.keep hc hp, h.map.keep hc hb, fun x hx => (h.dg x hx).keep hc (hd x hx), h.age, h.len, h.nx⟩
theorem ne (h : NetAt w p b l nx) : b ≠ p := h.map.ne_blk h.blk
theorem dg_ne (h : NetAt w p b l nx) : ∀ x ∈ l, x.2.g ≠ p ∧ x.2.g ≠ b := fun x hx => by
  obtain ⟨cur, hb⟩ := (h.dg x hx).blk
  exact ⟨hb.ne_ h.blk (by decide), fun e => h.map.ne_blk hb e.symm⟩
/-- Steps that leave its own blocks alone. -/
theorem next (h : NetAt w p b l nx) (hc : Chg [] w w') : NetAt w' p b l nx := h.keep hc (by simp) (by simp) (by simp)
end NetAt

theorem net_new (w : World) : Calls Tryz.prog 14 #[.int .i64 1] w fun e w' => ∃ p b, e = .returned (.tuple #[.pointer (some ⟨p, 0, none⟩), .int .i64 0]) ∧ NetAt w' p b [] 0 ∧ Chg [] w w' ∧ w.heap.size ≤ p ∧ w.heap.size ≤ b := by
  have hmm := @run_makeMap Tryz.prog
  go_enter Tryz.func14, Tryz.ntmps14
  go_wp2
  go_ret2
  refine ⟨w.heap.size + 1, w.heap.size, by simp, ⟨by simpa using Blk.new (w.alloc (.map #[] 0)) 77 #[.int .i64 1, .int .i64 0, .map (some w.heap.size)], ?_, by simp, by simp, by simp, by omega⟩, ((Chg.refl _ _).alloc _).alloc _, by omega, by omega⟩
  exact (MapAt.made w Tryz.prog 3).keep (S := []) ((Chg.refl _ _).alloc _) (by simp)

theorem net_count {w : World} {p b nx : Nat} {l : List (Nat × Dg)} (h : NetAt w p b l nx) : Calls Tryz.prog 19 #[.pointer (some ⟨p, 0, none⟩)] w fun e w' => e = .returned (.int .i64 l.length) ∧ w = w' := by
  have c2 := h.blk.cell 2
  have hl : ∀ ty, (Builtin.len_ #[75] ty #[.map (some b)]).run Tryz.prog w = .ok (.int .i64 l.length) w := fun ty => by
    have := h.map.len Tryz.underlying75 ty
    rwa [enc_length] at this
  clear h
  go_enter Tryz.func19, Tryz.ntmps19
  go_wp2
  go_ret
  exact ⟨rfl, rfl⟩

set_option maxRecDepth 100000 in
/-- The age of the i-th oldest. -/
theorem net_age {w : World} {p b nx i : Nat} {l : List (Nat × Dg)} (h : NetAt w p b l nx) (hi : i < l.length) :
    Calls Tryz.prog 37 #[.pointer (some ⟨p, 0, none⟩), .int .i64 i] w fun e w' => e = .returned (.tuple #[.int .i64 l[i].1, .int .i64 0]) ∧ Chg [] w w' := by
  have c2 := h.blk.cell 2
  have hl : ∀ ty, (Builtin.len_ #[75] ty #[.map (some b)]).run Tryz.prog w = .ok (.int .i64 l.length) w := fun ty => by
    have := h.map.len Tryz.underlying75 ty
    rwa [enc_length] at this
  have hlen := h.len
  have HA := Lib.hid (ages_calls c2 h.map (by rw [enc_length]; omega))
  rw [enc_length] at HA
  have hv : Hid ((ageV (enc l))[i]? = some (.int .i64 l[i].1)) := by simp [Hid, ageV, enc, hi]
  clear h
  generalize l[i].1 = a at *
  go_enter Tryz.func37, Tryz.ntmps37
  go_wp2_with fail
  refine HA.out.mono ?_
  rintro e w1 ⟨A, cap, rfl, hr1, hc1⟩
  obtain ⟨ad, u, rfl, hu, hc⟩ := hr1.reads.at_ hi
  rw [hv.out] at hu
  obtain rfl : Value.int .i64 (a : Nat) = u := by injection hu
  have HC1 := Lib.hid hc1
  clear hr1 hc1 hu
  go_wp2_with fail
  go_ret2
  exact ⟨rfl, HC1.out⟩

set_option maxRecDepth 100000 in
theorem clone_calls {w : World} {ad : Addr} {n c : Nat} {bs : List Nat} (hr : Reads w 1 (some ad) n (bv bs)) (h0 : 0 < n) (hn : n ≤ 64) :
    Calls Tryz.prog 39 #[.slice (some ad) n c] w fun e w' => ∃ z cap, e = .returned (.slice (some ⟨z, 0, none⟩) n cap) ∧ Row w' 5 1 (some ⟨z, 0, none⟩) n cap (bv bs) ∧ Chg [] w w' ∧ w.heap.size ≤ z := by
  obtain ⟨i0, hi, hz0, hz1, hz2⟩ := info_parts Tryz.info5
  have hrow : Row (w.alloc (.cells #[] 5)) 5 1 (some ⟨w.heap.size, 0, none⟩) 0 0 [] := ⟨rfl, .inr ⟨w.heap.size, #[], rfl, Blk.new _ _ _, Nat.le_refl _, by simp, by unfold maxLen; omega, rfl⟩⟩
  have hc1 : Chg [] w (w.alloc (.cells #[] 5)) := (Chg.refl _ _).alloc _
  have hr1 := hc1.reads' hr (by simp)
  have hone := bv_one bs
  have HC := Lib.hid hc1
  have HRow := Lib.hid hrow
  have HR1 := Lib.hid hr1
  have hz : Hid (w.heap.size ≤ (w.alloc (.cells #[] 5)).heap.size) := by simp [Hid]
  have q59 := Lib.run_eql_slice_nil (P := Tryz.prog) w 59 _ (some ad) n c 0 0 Tryz.underlying59
  clear hr hc1 hrow hr1
  go_enter Tryz.func39, Tryz.ntmps39
  go_wp2_with (at_builtin; refine wpList_append_row _ rfl (.tmp 5) (.tmp 6) 59 rfl 5 i0 (.int .u8 0) 1 1 Tryz.underlying59 hi hz0 hz1 hz2 rfl _ 0 0 [] rfl HRow.out _ n c (bv bs) rfl HR1.out hone (by unfold maxLen; omega) (grow_ok (by omega)) ?_)
  intro A' cap' w2 hr2 hc2 hcase
  have hA := hcase.new (by omega)
  subst hA
  have HR2 := Lib.hid hr2
  have hc2' : Chg [w.heap.size] (w.alloc (.cells #[] 5)) w2 := by simpa [ob] using hc2
  have HC2 : Hid (Chg [] w w2) := HC.out.trans hc2' (fun i hi => .inr (by simp at hi; omega))
  clear hr2 hc2 hc2' hcase hone
  go_wp2_with fail
  go_ret
  exact ⟨_, _, rfl, HR2.out, HC2.out, hz.out⟩
end Go.Proofs.YtgockfjhokocbaaGreatDoor
