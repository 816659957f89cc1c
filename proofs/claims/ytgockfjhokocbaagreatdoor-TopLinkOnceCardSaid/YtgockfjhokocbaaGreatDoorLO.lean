/-
  PROVED: from the row's condition on the four variables to what the walks ask of memory.
-/
import Derived.Test.YtgockfjhokocbaaGreatDoorLN
import Derived.Test.YtgockfjhokocbaaGreatDoorOpen
import Derived.Test.YtgockfjhokocbaaGreatDoorRows
import Derived.ProofKit
import Derived.OpenShut
import Derived.Deep.Slices
import Derived.LaidLaws
import Derived.LaidHandle
import Derived.LaidSub
namespace Go.Proofs.YtgockfjhokocbaaGreatDoor
open Go.RowKit Go.ChangeShapes Go.Deep

section
variable {P : Program} {w : World} {fuel : Nat} {t e : TypeId} {k : IntKind} {cs : List Value} {p : List MemPlace} {H : Type} {enc : TypeId × Value → H} {base : Nat} {sp : Nat → Bool} {held : Bool}

/-- A list of integers as data. -/
def ints (k : IntKind) (ns : List Int) : List (DataW H) := ns.map fun z => .lit (.int k z)

/-- An array of integers, opened: its cells. -/
theorem cells_of_ints {ns : List Int} {n : Nat} (ht : P.underlying t = some (.array n e)) (he : P.underlying e = some (.int k)) (hc : P.cellsOf e = 1) (h : DataW.trod enc P w base sp held fuel t cs = some (.agg (ints k ns), p)) :
    ∀ (i : Nat) (z : Int), ns[i]? = some z → cs[i]? = some (Value.int k z) := by
  obtain ⟨xs, m, rfl, hx, _, hl, hi⟩ := DataW.trod_array ht h
  simp only [Prod.mk.injEq, DataW.agg.injEq] at hx
  intro i z hz
  have hlen : ns.length = n := by
    have := congrArg List.length hx.1
    simp [ints] at this
    omega
  have hin : i < n := by rw [← hlen]; exact (List.getElem?_eq_some_iff.1 hz).1
  have h1 := hi i hin
  rw [hc, Nat.mul_one, List.getElem?_eq_getElem (by omega)] at h1
  obtain ⟨u, hcs, hxu, _⟩ := DataW.trod_int he h1
  have h2 : (ints (H := H) k ns)[i]? = some (.lit (.int k z)) := by unfold ints; rw [List.getElem?_map, hz]; rfl
  rw [hx.1, List.getElem?_map, List.getElem?_eq_getElem (by omega), hxu] at h2
  simp only [Option.map_some, Option.some.injEq, DataW.lit.injEq, Lit.int.injEq, true_and] at h2
  subst h2
  have h3 : ((cs.drop i).take 1)[0]? = some (.int k u) := by rw [hcs]; rfl
  rw [List.getElem?_take_of_lt (by omega), List.getElem?_drop, Nat.add_zero] at h3
  exact h3

/-- A slice of integers without spare, opened. -/
theorem reads_of_ints {ns : List Int} {c : Value} (ht : P.underlying t = some (.slice e)) (he : P.underlying e = some (.int k)) (hc : P.cellsOf e = 1) (h : DataW.trod enc P w base sp held fuel t [c] = some (.slice (ints k ns) [], p)) :
    ∃ a cap, c = .slice (some a) ns.length cap ∧ Reads w 1 (some a) ns.length (ns.map (Value.int k)) := by
  rcases open_slice1 ht hc h with ⟨_, hx⟩ | ⟨a, len, cap, m, n, V, D, Pl, hcs, _, _, _, hm, hx, hi⟩
  · cases hx
  · simp only [Prod.mk.injEq, DataW.slice.injEq] at hx
    obtain ⟨⟨hx, hrest⟩, _⟩ := hx
    have hlen : ns.length = len := by
      have := congrArg List.length hx
      simpa [ints] using this
    subst hlen
    have hml : ns.length ≤ m := by
      have := congrArg List.length hrest
      simp at this
      by_cases hlt : ns.length ≤ m
      · exact hlt
      · exfalso
        rw [hm] at hlt
        split at hlt <;> omega
    refine ⟨a, cap, by simpa using hcs, by simp, fun _ => ⟨a, rfl, fun j u hu => ?_⟩⟩
    rw [List.getElem?_map] at hu
    obtain ⟨z, hz, rfl⟩ := Option.map_eq_some_iff.1 hu
    have hj : j < ns.length := (List.getElem?_eq_some_iff.1 hz).1
    obtain ⟨h1, h2⟩ := hi j (by omega)
    obtain ⟨y, hy, hDy, _⟩ := DataW.trod_int he h2
    have h3 : (ints (H := H) k ns)[j]? = some (.lit (.int k z)) := by unfold ints; rw [List.getElem?_map, hz]; rfl
    rw [hx, List.getElem?_map, List.getElem?_range hj] at h3
    simp only [Prod.mk.injEq] at hDy
    rw [Option.map_some, hDy.1] at h3
    simp only [Option.some.injEq, DataW.lit.injEq, Lit.int.injEq, true_and] at h3
    subst h3
    rw [h1]
    simpa using hy
end

theorem Tryz.et : Tryz.prog.globalNamed "errors.errorType" = some 3 := by kernel_rfl
theorem Tryz.gt : Tryz.prog.globalNamed "jotter/octet.table" = some 2 := by kernel_rfl
theorem Tryz.gz : Tryz.prog.globalNamed "jotter/wire.size" = some 1 := by kernel_rfl
theorem Tryz.gs : Tryz.prog.globalNamed "jotter/wire.shapes" = some 0 := by kernel_rfl
theorem Tryz.tt : (Tryz.prog.globals[2]?).map (·.type) = some 136 := by kernel_rfl
theorem Tryz.tz : (Tryz.prog.globals[1]?).map (·.type) = some 91 := by kernel_rfl
theorem Tryz.ts : (Tryz.prog.globals[0]?).map (·.type) = some 94 := by kernel_rfl
theorem Tryz.c3 : Tryz.prog.cellsOf 3 = 1 := by kernel_rfl
theorem Tryz.c33 : Tryz.prog.cellsOf 33 = 1 := by kernel_rfl
theorem Tryz.c112 : Tryz.prog.cellsOf 112 = 1 := by kernel_rfl
theorem Tryz.rt : (Tryz.prog.cutTypes.find? (·.1 == "internal/reflectlite.rtype")).map (·.2) = some 163 := by kernel_rfl
theorem Tryz.oneRow : ((List.range 208).filter fun t => Tryz.prog.rowNamed t [101, 114, 114, 111, 114]) = [61] := by kernel_rfl
theorem Tryz.sizeT : Tryz.prog.types.size = 208 := by kernel_rfl

def nats (xs : List Nat) : List Int := xs.map fun (x : Nat) => (x : Int)
theorem nats_get {xs : List Nat} {i : Nat} (h : i < xs.length) : (nats xs)[i]? = some ((xs.getD i 0 : Nat) : Int) := by
  unfold nats
  rw [List.getElem?_map, List.getElem?_eq_getElem h]
  simp [List.getD, h]
theorem iv_nats (xs : List Nat) : (nats xs).map (Value.int .i64) = iv xs := by simp [nats, iv]
def sizeL : List Nat := [1, 1, 1, 2, 1, 2, 2, 2, 2, 1, 2, 1, 1, 1]

def laid3 : List (String × DataW Unit) := [("jotter/octet.table", Rows.laid_jotter_octet_table), ("jotter/wire.size", Rows.laid_jotter_wire_size), ("jotter/wire.shapes", Rows.laid_jotter_wire_shapes)]
theorem laid_data : (Rows.topLinkOnceRow.laid.filter fun x => x.2.handleName?.isNone) = laid3 := by kernel_rfl
theorem laid_hand : (Rows.topLinkOnceRow.laid.filter fun x => x.2.handleName?.isSome) = [("errors.errorType", Rows.laid_errors_errorType)] := by kernel_rfl
theorem table_is : (Rows.laid_jotter_octet_table : DataW Unit) = .agg (ints .u32 (nats tabL)) := by kernel_rfl
theorem size_is : (Rows.laid_jotter_wire_size : DataW Unit) = .agg (ints .i64 (nats sizeL)) := by kernel_rfl
theorem shapes_is : ∃ d1 d3 d4 d5, (Rows.laid_jotter_wire_shapes : DataW Unit) = .agg [.nil, d1, .slice (ints .i64 (nats editShape)) [], d3, d4, d5, .slice (ints .i64 (nats beatShape)) []] :=
  ⟨.slice (ints .i64 [1, 2, 3, 4]) [], .slice (ints .i64 [1, 2, 6]) [], .slice (ints .i64 [1, 2]) [], .slice (ints .i64 [1, 2, 5, 6, 7, 9, 10, 11, 12, 13]) [], by kernel_rfl⟩

/-- WHAT THE CONDITION GIVES A WALK. -/
theorem laid_of {W : World} (h : laidMetH Tryz.prog Rows.topLinkOnceRow.laid W) : Laid W.heap.size W := by
  obtain ⟨hd, hh⟩ := laidMetH_iff.1 h
  rw [laid_data] at hd
  rw [laid_hand] at hh
  obtain ⟨ps, hl, -, -⟩ := hd
  obtain ⟨g, t, csT, fT, pT, q1, a1, a2, a3, a4, hl1, -⟩ := hl
  obtain rfl := Option.some.inj (Tryz.gt.symm.trans a1)
  obtain rfl := Option.some.inj (Tryz.tt.symm.trans a2)
  obtain ⟨g, t, csZ, fZ, pZ, q2, b1, b2, b3, b4, hl2, -⟩ := hl1
  obtain rfl := Option.some.inj (Tryz.gz.symm.trans b1)
  obtain rfl := Option.some.inj (Tryz.tz.symm.trans b2)
  obtain ⟨g, t, csS, fS, pS, q3, c1, c2, c3, c4, -, -⟩ := hl2
  obtain rfl := Option.some.inj (Tryz.gs.symm.trans c1)
  obtain rfl := Option.some.inj (Tryz.ts.symm.trans c2)
  rw [table_is] at a4
  rw [size_is] at b4
  obtain ⟨d1, d3, d4, d5, hsh⟩ := shapes_is
  rw [hsh] at c4
  have herr : W.cell? ⟨3, 0, none⟩ = some (.iface 163 (.agg #[.pointer (some ⟨4, 61, none⟩)])) := by
    obtain ⟨name, u, ty, e1, e2, e3, e4, e5⟩ := hh _ (List.mem_singleton.2 rfl)
    have en : name = [101, 114, 114, 111, 114] := (Option.some.inj e1).symm
    subst en
    obtain rfl := Option.some.inj (Tryz.rt.symm.trans e2)
    have hm : ty ∈ (List.range 208).filter fun t => Tryz.prog.rowNamed t [101, 114, 114, 111, 114] := List.mem_filter.2 ⟨List.mem_range.2 (by rw [← Tryz.sizeT]; exact e3), e4⟩
    rw [Tryz.oneRow] at hm
    obtain rfl := List.mem_singleton.1 hm
    have hh : typeHandle Tryz.prog 61 = .pointer (some ⟨4, 61, none⟩) := by kernel_rfl
    rw [hh] at e5
    simpa using World.var?_cell Tryz.et e5 0
  have h3 : 3 < W.heap.size := World.block_lt_of_cell? _ _ herr
  have hslice : ∀ (i : Nat) (ns : List Nat), ([.nil, d1, .slice (ints .i64 (nats editShape)) [], d3, d4, d5, .slice (ints .i64 (nats beatShape)) []] : List (DataW Unit))[i]? = some (.slice (ints .i64 (nats ns)) []) → i < 7 → 0 < ns.length →
      ∃ a c, W.cell? ⟨0, i, none⟩ = some (.slice (some a) ns.length c) ∧ a.block < W.heap.size ∧ Reads W 1 (some a) ns.length (iv ns) := by
    intro i ns hi hi7 hn
    obtain ⟨xs, m, -, hx, -, hlx, hat⟩ := DataW.trod_array Tryz.underlying94 c4
    simp only [Prod.mk.injEq, DataW.agg.injEq] at hx
    have h1 := hat i hi7
    rw [Tryz.c33, Nat.mul_one, List.getElem?_eq_getElem (by omega)] at h1
    rw [hx.1, List.getElem?_map, List.getElem?_eq_getElem (by omega)] at hi
    have hx1 : xs[i].1 = .slice (ints .i64 (nats ns)) [] := Option.some.inj hi
    have h2 : (csS.toList.drop i).take 1 ≠ [] := by
      intro e
      rw [e] at h1
      cases m with
      | zero => simp [DataW.trod] at h1
      | succ m => simp [DataW.trod, Tryz.underlying33] at h1
    obtain ⟨v, hv⟩ : ∃ v, (csS.toList.drop i).take 1 = [v] := by
      cases hc : csS.toList.drop i with
      | nil => rw [hc] at h2; exact absurd rfl h2
      | cons v r => exact ⟨v, rfl⟩
    rw [hv, show xs[i] = (xs[i].1, xs[i].2) from rfl, hx1] at h1
    obtain ⟨a, cap, rfl, hr⟩ := reads_of_ints Tryz.underlying33 Tryz.underlying3 Tryz.c3 h1
    have hlen : (nats ns).length = ns.length := by simp [nats]
    rw [hlen, iv_nats] at hr
    rw [hlen] at hv
    refine ⟨a, cap, ?_, ?_, hr⟩
    · rw [World.var?_cell Tryz.gs c3 i]
      have h4 : ((csS.toList.drop i).take 1)[0]? = some (.slice (some a) ns.length cap) := by rw [hv]; rfl
      rw [List.getElem?_take_of_lt (by omega), List.getElem?_drop, Nat.add_zero] at h4
      simpa using h4
    · obtain ⟨ad, e, hc⟩ := hr.2 hn
      cases e
      have h5 := hc 0 (.int .i64 (ns[0] : Nat)) (by simp [iv, hn])
      have h6 := World.block_lt_of_cell? _ _ h5
      rw [add_block] at h6
      exact h6
  refine ⟨by show 4 ≤ W.heap.size; omega, Nat.le_refl _, fun i hi => ?_, fun i hi => ?_, ?_, ?_, herr⟩
  · rw [World.var?_cell Tryz.gt a3 i]
    have := cells_of_ints Tryz.underlying136 Tryz.underlying112 Tryz.c112 a4 i _ (nats_get (show i < tabL.length from hi))
    simpa [tab] using this
  · rw [World.var?_cell Tryz.gz b3 i]
    have := cells_of_ints Tryz.underlying91 Tryz.underlying3 Tryz.c3 b4 i _ (nats_get (show i < sizeL.length from hi))
    simpa [sizeN, sizeL] using this
  · exact hslice 2 editShape rfl (by omega) (by decide)
  · exact hslice 6 beatShape rfl (by omega) (by decide)
end Go.Proofs.YtgockfjhokocbaaGreatDoor
