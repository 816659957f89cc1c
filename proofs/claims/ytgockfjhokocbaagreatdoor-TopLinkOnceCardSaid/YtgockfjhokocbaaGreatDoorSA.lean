/-
  PROVED: what the program's table-driven sum comes to, in plain Lean: one changed byte changes it.
-/
namespace Go.Proofs.YtgockfjhokocbaaGreatDoor

/-- The table, as the program's text has it. -/
def tabL : List Nat := [0, 498536548, 997073096, 651767980, 1994146192, 1802195444, 1303535960, 1342533948, 3988292384, 4027552580, 3604390888, 3412177804, 2607071920, 2262029012, 2685067896, 3183342108]
def tab (i : Nat) : Nat := tabL.getD i 0
/-- One half byte of the register. -/
def half (r : Nat) : Nat := (r / 16) ^^^ tab (r % 16)
def crcB (r c : Nat) : Nat := half (half (r ^^^ c))
/-- The register over some bytes. -/
def crcR (r : Nat) (bs : List Nat) : Nat := bs.foldl crcB r
def crc (bs : List Nat) : Nat := 4294967295 ^^^ crcR 4294967295 bs
/-- Its four bytes, the lowest first. -/
def sumB (s : Nat) : List Nat := [s % 256, s / 256 % 256, s / 65536 % 256, s / 16777216 % 256]
def Bytes (bs : List Nat) : Prop := ∀ c ∈ bs, c < 256

theorem xor_rc {a b c : Nat} (h : a ^^^ c = b ^^^ c) : a = b := by
  have := congrArg (· ^^^ c) h
  simpa [Nat.xor_assoc] using this
theorem xor_lc {a b c : Nat} (h : c ^^^ a = c ^^^ b) : a = b := xor_rc (c := c) (by rw [Nat.xor_comm a, Nat.xor_comm b]; exact h)
theorem tab_lt (i : Nat) : tab i < 4294967296 := by
  by_cases h : i < 16
  · exact (by decide : ∀ i : Fin 16, tab i.1 < 4294967296) ⟨i, h⟩
  · have : tab i = 0 := by unfold tab; rw [List.getD_eq_getElem?_getD, List.getElem?_eq_none (by simp [tabL]; omega)]; rfl
    omega
theorem half_lt {r : Nat} (h : r < 4294967296) : half r < 4294967296 := Nat.xor_lt_two_pow (n := 32) (by omega) (tab_lt _)
theorem tab_top : ∀ i j : Fin 16, tab i.1 / 268435456 = tab j.1 / 268435456 → i = j := by decide
theorem xor_div (a b : Nat) : (a ^^^ b) / 268435456 = a / 268435456 ^^^ b / 268435456 := by
  have := Nat.shiftRight_xor_distrib (a := a) (b := b) (i := 28)
  simpa [Nat.shiftRight_eq_div_pow] using this
theorem half_inj {r s : Nat} (hr : r < 4294967296) (hs : s < 4294967296) (h : half r = half s) : r = s := by
  unfold half at h
  have h1 : (r / 16 ^^^ tab (r % 16)) / 268435456 = (s / 16 ^^^ tab (s % 16)) / 268435456 := by rw [h]
  rw [xor_div, xor_div, show r / 16 / 268435456 = 0 by omega, show s / 16 / 268435456 = 0 by omega, Nat.zero_xor, Nat.zero_xor] at h1
  have h2 : (⟨r % 16, by omega⟩ : Fin 16) = ⟨s % 16, by omega⟩ := tab_top _ _ h1
  have h3 : r % 16 = s % 16 := by injection h2
  rw [h3] at h
  have h4 : r / 16 = s / 16 := xor_rc h
  omega
theorem crcB_lt {r c : Nat} (hr : r < 4294967296) (hc : c < 256) : crcB r c < 4294967296 := half_lt (half_lt (Nat.xor_lt_two_pow (n := 32) hr (by omega)))
theorem crcB_inj {r s c : Nat} (hr : r < 4294967296) (hs : s < 4294967296) (hc : c < 256) (h : crcB r c = crcB s c) : r = s := by
  have h1 := half_inj (half_lt (Nat.xor_lt_two_pow (n := 32) hr (by omega))) (half_lt (Nat.xor_lt_two_pow (n := 32) hs (by omega))) h
  have h2 := half_inj (Nat.xor_lt_two_pow (n := 32) hr (by omega)) (Nat.xor_lt_two_pow (n := 32) hs (by omega)) h1
  exact xor_rc h2
theorem crcB_inj' {r c d : Nat} (hr : r < 4294967296) (hc : c < 256) (hd : d < 256) (h : crcB r c = crcB r d) : c = d := by
  have h1 := half_inj (half_lt (Nat.xor_lt_two_pow (n := 32) hr (by omega))) (half_lt (Nat.xor_lt_two_pow (n := 32) hr (by omega))) h
  have h2 := half_inj (Nat.xor_lt_two_pow (n := 32) hr (by omega)) (Nat.xor_lt_two_pow (n := 32) hr (by omega)) h1
  exact xor_lc h2
theorem crcR_lt {bs : List Nat} (hb : Bytes bs) : ∀ {r : Nat}, r < 4294967296 → crcR r bs < 4294967296 := by
  induction bs with
  | nil => exact fun h => h
  | cons c bs ih => exact fun h => ih (fun d hd => hb d (by simp [hd])) (crcB_lt h (hb c (by simp)))
theorem crcR_inj {bs : List Nat} (hb : Bytes bs) : ∀ {r s : Nat}, r < 4294967296 → s < 4294967296 → crcR r bs = crcR s bs → r = s := by
  induction bs with
  | nil => exact fun _ _ h => h
  | cons c bs ih =>
    intro r s hr hs h
    have hc := hb c (by simp)
    exact crcB_inj hr hs hc (ih (fun d hd => hb d (by simp [hd])) (crcB_lt hr hc) (crcB_lt hs hc) h)
theorem crc_lt {bs : List Nat} (hb : Bytes bs) : crc bs < 4294967296 := Nat.xor_lt_two_pow (n := 32) (by omega) (crcR_lt hb (by omega))
theorem crc_snoc (r : Nat) (bs : List Nat) (c : Nat) : crcR r (bs ++ [c]) = crcB (crcR r bs) c := by simp [crcR]
theorem crcR_append (r : Nat) (bs cs : List Nat) : crcR r (bs ++ cs) = crcR (crcR r bs) cs := by simp [crcR]
/-- One changed byte changes the sum. -/
theorem crc_set {bs : List Nat} (hb : Bytes bs) {k : Nat} (hk : k < bs.length) {d : Nat} (hd : d < 256) (hne : d ≠ bs[k]) : crc (bs.set k d) ≠ crc bs := by
  intro h
  have h1 := xor_lc h
  have e1 : bs.set k d = bs.take k ++ d :: bs.drop (k + 1) := List.set_eq_take_append_cons_drop.trans (if_pos hk)
  have e2 : bs = bs.take k ++ bs[k] :: bs.drop (k + 1) := by rw [List.getElem_cons_drop]; exact (List.take_append_drop k bs).symm
  have ht : Bytes (bs.take k) := fun c hc => hb c (List.mem_of_mem_take hc)
  have hdr : Bytes (bs.drop (k + 1)) := fun c hc => hb c (List.mem_of_mem_drop hc)
  have hck : bs[k] < 256 := hb _ (List.getElem_mem _)
  have hr := crcR_lt ht (r := 4294967295) (by omega)
  rw [e1] at h1
  have h1' : crcR 4294967295 (bs.take k ++ d :: bs.drop (k + 1)) = crcR 4294967295 (bs.take k ++ bs[k] :: bs.drop (k + 1)) := by rw [h1, ← e2]
  rw [crcR_append, crcR_append] at h1'
  have h2 := crcR_inj hdr (crcB_lt hr hd) (crcB_lt hr hck) h1'
  exact hne (crcB_inj' hr hd hck h2)
theorem sumB_bytes (s : Nat) : Bytes (sumB s) := by
  intro c hc
  simp only [sumB, List.mem_cons, List.not_mem_nil, or_false] at hc
  omega
theorem sumB_inj {s t : Nat} (hs : s < 4294967296) (ht : t < 4294967296) (h : sumB s = sumB t) : s = t := by
  simp only [sumB, List.cons.injEq, and_true] at h
  omega
/-- A frame: a body with its sum behind it. -/
def framed (bs : List Nat) : List Nat := bs ++ sumB (crc bs)
theorem framed_length (bs : List Nat) : (framed bs).length = bs.length + 4 := by simp [framed, sumB]
theorem framed_bytes {bs : List Nat} (hb : Bytes bs) : Bytes (framed bs) := fun c hc => by
  rcases List.mem_append.1 hc with h | h
  · exact hb c h
  · exact sumB_bytes _ c h
/-- A frame with one byte changed is no frame. -/
theorem framed_set {bs : List Nat} (hb : Bytes bs) {k : Nat} (hk : k < bs.length + 4) {d : Nat} (hd : d < 256) (hne : d ≠ (framed bs)[k]'(by rw [framed_length]; exact hk)) :
    ((framed bs).set k d).drop bs.length ≠ sumB (crc (((framed bs).set k d).take bs.length)) := by
  intro h
  by_cases hlt : k < bs.length
  · have e : (framed bs).set k d = bs.set k d ++ sumB (crc bs) := by unfold framed; rw [List.set_append_left _ _ hlt]
    rw [e] at h
    have hl : (bs.set k d).length = bs.length := List.length_set
    rw [List.drop_append_of_le_length (by omega), List.drop_of_length_le (by omega), List.take_append_of_le_length (by omega), List.take_of_length_le (by omega), List.nil_append] at h
    have hb' : Bytes (bs.set k d) := fun c hc => by
      rcases List.mem_or_eq_of_mem_set hc with h | h
      · exact hb c h
      · omega
    have hne' : d ≠ bs[k] := by
      intro hh
      apply hne
      simp only [framed]
      rw [List.getElem_append_left hlt]
      exact hh
    exact crc_set hb hlt hd hne' (sumB_inj (crc_lt hb') (crc_lt hb) h.symm)
  · have e : (framed bs).set k d = bs ++ (sumB (crc bs)).set (k - bs.length) d := by unfold framed; rw [List.set_append_right _ _ (by omega)]
    rw [e, List.drop_left, List.take_left] at h
    have hl : (sumB (crc bs)).length = 4 := rfl
    have h2 := congrArg (fun l => l[k - bs.length]?) h
    simp only [List.getElem?_set_self (show k - bs.length < (sumB (crc bs)).length by omega)] at h2
    apply hne
    simp only [framed]
    rw [List.getElem_append_right (by omega)]
    rw [List.getElem?_eq_getElem (by omega)] at h2
    exact Option.some.inj h2
end Go.Proofs.YtgockfjhokocbaaGreatDoor
