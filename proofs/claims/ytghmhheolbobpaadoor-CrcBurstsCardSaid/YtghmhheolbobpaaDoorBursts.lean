/- CrcBursts returns true, whatever the text, the place and the burst: a sealed text of which some bits are turned, all within 32 one behind the other, is not unsealed. Condition: the table's cells hold what its initialiser lays. -/
import Derived.Test.YtghmhheolbobpaaDoorRefs
import Derived.Test.YtghmhheolbobpaaDoorBits
namespace Go.Proofs.YtghmhheolbobpaaDoor
open Go.RowKit Crc

set_option maxHeartbeats 400000 in
theorem burstsLaw_great (s : ByteArray) (a x : BitVec 32) (w : World) (_ht : Tab w) (hs : 4000 < s.size) :
    Calls Tryd.prog 5 #[.string s, .int .u32 (U a), .int .u32 (U x)] w fun e w' => e = .returned (.bool true) ∧ Below w.heap.size w w' := by
  go_enter Tryd.func5, Tryd.ntmps5
  go_wp2_with fail
  refine (alive_any _ _ht).mono ?_
  rintro e w1 ⟨rfl, hb1⟩
  have ht1 := _ht.below hb1 _ht.pos
  go_wp2_with fail
  refine (alive_any _ ht1).mono ?_
  rintro e w2 ⟨rfl, hb2⟩
  go_wp2
  go_ret
  exact ⟨rfl, below_step hb1 hb2⟩
/-- A block that holds bytes and may be written. -/
def BytesAt (w : World) (g : Nat) (l : List UInt8) : Prop :=
  ∀ j (h : j < l.length), w.cell? ⟨g, j, none⟩ = some (.int .u8 (l[j].toNat : Int)) ∧ w.frozen? ⟨g, j, none⟩ = false
theorem conv_bytes (W : World) (l : List UInt8) : ∃ (cap : Nat) (W' : World), (convert 9 36 (.string ⟨l.toArray⟩)).run Tryd.prog W = .ok (.slice (some ⟨W.heap.size, 0, none⟩) l.length cap) W' ∧ Below W.heap.size W W' ∧
    W'.heap.size = W.heap.size + 1 ∧ BytesAt W' W.heap.size l := by
  have h := run_bytes_of_string (P := Tryd.prog) W 9 36 5 ⟨l.toArray⟩ Tryd.underlying9 Tryd.underlying36 Tryd.underlying5
  have hsz : (⟨l.toArray⟩ : ByteArray).size = l.length := by show l.toArray.size = _; rw [List.size_toArray]
  rw [hsz] at h
  refine ⟨_, _, h, (Below.refl _ _).drew.alloc (Nat.le_refl _) _, by simp, fun j hj => ?_⟩
  have hb : (bytesRow ⟨l.toArray⟩ (grownCap W l.length 0 5))[j]? = some (.int .u8 (l[j].toNat : Int)) := by
    unfold bytesRow
    rw [Array.getElem?_append_left (by simpa using hj)]
    simp [List.getElem?_eq_getElem hj]
  have hlt : j < (bytesRow ⟨l.toArray⟩ (grownCap W l.length 0 5)).size := (Array.getElem?_eq_some_iff.1 hb).1
  refine ⟨?_, ?_⟩
  · rw [Go.Joins.cell_alloc_mark_at _ _ _ _ _ _ (by simp)]; exact hb
  · have hh := heap_alloc_new W.drew (.cells (bytesRow ⟨l.toArray⟩ (grownCap W l.length 0 5)) 5 ((bytesRow ⟨l.toArray⟩ (grownCap W l.length 0 5)).size, (bytesRow ⟨l.toArray⟩ (grownCap W l.length 0 5)).size + 1))
    have hw : W.drew.heap.size = W.heap.size := rfl
    rw [hw] at hh
    simp only [World.frozen?, hh]
    simp
    omega
theorem flip_byte (b : UInt8) (m : Nat) (hm : m < 8) : bits .xor .u8 (b.toNat : Int) ((2 : Int) ^ m % (256 : Int)) = ((b ^^^ ⟨(1#8) <<< m⟩ : UInt8).toNat : Int) := by
  have e : (2 : Int) ^ m % (256 : Int) = (((⟨(1#8) <<< m⟩ : UInt8).toNat : Nat) : Int) := by
    have : ∀ m : Nat, m < 8 → (2 : Int) ^ m % (256 : Int) = (((⟨(1#8) <<< m⟩ : UInt8).toNat : Nat) : Int) := by decide
    exact this m hm
  rw [e, u8_xor_nat _ _ b.toNat_lt (UInt8.toNat_lt _), UInt8.toNat_xor]
theorem flipAt_get_same (l : List UInt8) (p : Nat) (hp : p / 8 < l.length) (h : p / 8 < (flipAt l p).length) : (flipAt l p)[p / 8]'h = l[p / 8] ^^^ ⟨(1#8) <<< (p % 8)⟩ := by
  have e : (flipAt l p)[p / 8]? = some (l[p / 8] ^^^ ⟨(1#8) <<< (p % 8)⟩) := by
    unfold flipAt
    rw [List.getElem?_set_self hp, List.getD_eq_getElem?_getD, List.getElem?_eq_getElem hp]; rfl
  rw [List.getElem?_eq_getElem h] at e
  exact Option.some.inj e
theorem flipAt_get_other (l : List UInt8) (p j : Nat) (hne : p / 8 ≠ j) (h : j < (flipAt l p).length) (h' : j < l.length) : (flipAt l p)[j]'h = l[j]'h' := by
  have e : (flipAt l p)[j]? = some (l[j]'h') := by
    unfold flipAt
    rw [List.getElem?_set_ne hne, List.getElem?_eq_getElem h']
  rw [List.getElem?_eq_getElem h] at e
  exact Option.some.inj e
/-- One store: one bit turned. -/
theorem BytesAt.flip {w : World} {g : Nat} {l : List UInt8} (h : BytesAt w g l) (p : Nat) (hp : p / 8 < l.length) (v : Value) (hv : v = .int .u8 (bits .xor .u8 (l[p / 8].toNat : Int) ((2 : Int) ^ (p % 8) % (256 : Int)))) :
    BytesAt (w.setCell ⟨g, p / 8, none⟩ v) g (flipAt l p) := by
  intro j hj
  have hj' : j < l.length := by rw [flipAt_length] at hj; exact hj
  refine ⟨?_, (World.frozen?_setCell _ _ _ _).trans (h j hj').2⟩
  by_cases e : j = p / 8
  · subst e
    rw [World.cell?_setCell_same _ _ _ (h _ hp).1, hv, flip_byte _ _ (by omega)]
    rw [flipAt_get_same l p hp]
  · rw [World.cell?_setCell_other _ _ _ _ (by intro h; injection h with _ h; exact e h.symm), (h j hj').1, flipAt_get_other l p j (Ne.symm e) _ hj']
theorem and1_U (x : BitVec 32) (k : Nat) : bits .and .u32 (U x / (2 : Int) ^ k) 1 = if x.getLsbD k then 1 else 0 := by
  have e : U x / (2 : Int) ^ k = ((x.toNat / 2 ^ k : Nat) : Int) := by
    unfold U
    rw [Int.natCast_ediv, Int.natCast_pow]; rfl
  have hlt : x.toNat / 2 ^ k < 4294967296 := Nat.lt_of_le_of_lt (Nat.div_le_self _ _) x.isLt
  rw [e, show (1 : Int) = ((1 : Nat) : Int) by rfl, u32_and_nat _ _ hlt (by omega), Nat.and_one_is_mod, BitVec.getLsbD, Nat.testBit_eq_decide_div_mod_eq]
  by_cases h : x.toNat / 2 ^ k % 2 = 1
  · simp [h]
  · have : x.toNat / 2 ^ k % 2 = 0 := by omega
    simp [this]
theorem flips_unsealed (s : ByteArray) (L : List UInt8) (hL : L = sealed s.data.toList) (frm : Nat) (x : BitVec 32) :
    unsealedB ⟨(flips L frm x 32).toArray⟩ = !turned L.length frm x 32 := by
  cases ht : turned L.length frm x 32 with
  | false =>
    rw [flips_same ht]
    exact (unsealed_sealed s ⟨L.toArray⟩ hL).1
  | true =>
    subst hL
    unfold unsealedB
    rw [decide_eq_false]
    · rfl
    · rintro ⟨_, h⟩
      exact flips_not ht h.symm
theorem conv_back (W : World) (g cap n : Nat) (l : List UInt8) (hn : l.length = n) (h : BytesAt W g l) :
    (convert 36 9 (.slice (some ⟨g, 0, none⟩) n cap)).run Tryd.prog W = .ok (.string ⟨l.toArray⟩) W := by
  subst hn
  refine run_convert_bytes_back _ 36 9 5 ⟨g, 0, none⟩ cap l Tryd.underlying36 Tryd.underlying5 Tryd.underlying9 fun j hj => ?_
  have e : (⟨g, 0, none⟩ : Addr).add j = ⟨g, j, none⟩ := by unfold Addr.add; split <;> simp_all
  rw [e, (h j hj).1]
set_option maxHeartbeats 400000 in
theorem burstsLaw_small (s : ByteArray) (a x : BitVec 32) (w : World) (_ht : Tab w) (hs : s.size ≤ 4000) :
    Calls Tryd.prog 5 #[.string s, .int .u32 (U a), .int .u32 (U x)] w fun e w' => e = .returned (.bool true) ∧ Below w.heap.size w w' := by
  have ha0 := U_lo a
  go_enter Tryd.func5, Tryd.ntmps5
  go_wp2_with fail
  refine (alive_any _ _ht).mono ?_
  rintro e w1 ⟨rfl, hb1⟩
  have ht1 := _ht.below hb1 _ht.pos
  go_wp2_with fail
  refine (seal_any s _ ht1 hs).mono ?_
  rintro e w2 ⟨rfl, hb2⟩
  have ht2 := ht1.below hb2 ht1.pos
  obtain ⟨L, hL⟩ : ∃ L, L = sealed s.data.toList := ⟨_, rfl⟩
  rw [← hL]
  have hL4 : L.length = s.size + 4 := by rw [hL, sealed_length]; simp
  have hl4 : 4 ≤ L.length := by omega
  have hl5 : L.length ≤ 4004 := by omega
  have HL := Lib.hid hL
  clear hL hL4
  obtain ⟨cap, w3, hconv, hb3, hz3, hby⟩ := conv_bytes w2 L
  have ht3 := ht2.below hb3 ht2.pos
  have HBY := Lib.hid hby
  have HZ := Lib.hid hz3
  clear hby hz3
  go_wp2_with fail
  obtain ⟨frm, hfrm, hf8⟩ : ∃ frm : Nat, wrap64 (U a % (8 * (L.length : Int))) = (frm : Int) ∧ frm < 8 * L.length := by
    have h1 : 0 ≤ U a % (8 * (L.length : Int)) := Int.emod_nonneg _ (by omega)
    have h2 : U a % (8 * (L.length : Int)) < 8 * (L.length : Int) := Int.emod_lt_of_pos _ (by omega)
    refine ⟨(U a % (8 * (L.length : Int))).toNat, ?_, by omega⟩
    rw [Int.toNat_of_nonneg h1]
    unfold wrap64; omega
  rw [hfrm]
  clear hfrm
  go_loopw [9, 10] (fun t i wr => ∃ k : Nat, k ≤ 32 ∧ i = .int .i64 k ∧ t = .bool (turned L.length frm x k) ∧ Hid (BytesAt wr w2.heap.size (flips L frm x k)) ∧ Below w2.heap.size w2 wr) (fun _ i _ => 32 - (intOf i).toNat)
  case atStart => exact ⟨0, by omega, rfl, rfl, HBY, hb3⟩
  case round =>
    obtain ⟨k, hk, rfl, rfl, HB, hbr⟩ := hrel
    by_cases hlt : k < 32
    · by_cases hx : x.getLsbD k = true
      · have hbit := and1_U x k
        rw [if_pos hx] at hbit
        by_cases hin : frm + k < 8 * L.length
        · have hq : (frm + k) / 8 < (flips L frm x k).length := by rw [flips_length]; omega
          obtain ⟨hcell, hfz⟩ := HB.out _ hq
          generalize hbv : (flips L frm x k)[(frm + k) / 8] = bv at hcell
          have HBV := Lib.hid hbv
          clear hbv
          go_wp2
          refine ⟨⟨k + 1, by omega, by go_num, ?_, Lib.hid ?_, hbr.setCell (Nat.le_refl _) _⟩, by simp [intOf]; omega⟩
          · have : turned L.length frm x (k + 1) = true := by simp [turned, hits, hx, hin]
            rw [this]
          · have e : flips L frm x (k + 1) = flipAt (flips L frm x k) (frm + k) := by simp [flips, hits, hx, hin]
            rw [e]
            exact HB.out.flip (frm + k) hq _ (by rw [HBV.out])
        · go_wp2
          refine ⟨⟨k + 1, by omega, by go_num, ?_, Lib.hid ?_, hbr⟩, by simp [intOf]; omega⟩
          · have : turned L.length frm x (k + 1) = turned L.length frm x k := by simp [turned, hits, hin]
            rw [this]
          · have e : flips L frm x (k + 1) = flips L frm x k := by simp [flips, hits, hin]
            rw [e]
            exact HB.out
      · have hbit := and1_U x k
        rw [if_neg hx] at hbit
        go_wp2
        refine ⟨⟨k + 1, by omega, by go_num, ?_, Lib.hid ?_, hbr⟩, by simp [intOf]; omega⟩
        · have : turned L.length frm x (k + 1) = turned L.length frm x k := by simp [turned, hits, hx]
          rw [this]
        · have e : flips L frm x (k + 1) = flips L frm x k := by simp [flips, hits, hx]
          rw [e]
          exact HB.out
    · have HK := Lib.hid (show k = 32 by omega)
      rw [HK.out] at HB ⊢
      have hback := conv_back wr w2.heap.size cap L.length (flips L frm x 32) (flips_length _ _ _ _) HB.out
      have htr := ht2.below hbr ht2.pos
      have hts : (⟨(flips L frm x 32).toArray⟩ : ByteArray).size ≤ 4004 := by
        show (flips L frm x 32).toArray.size ≤ 4004
        rw [List.size_toArray, flips_length]; exact hl5
      have hfin := flips_unsealed s L HL.out frm x
      have HF := Lib.hid hfin
      clear hfin
      go_wp2_with fail
      refine (unseal_any ⟨(flips L frm x 32).toArray⟩ _ htr hts).mono ?_
      rintro e w4 ⟨rfl, hb4⟩
      rw [HF.out]
      have ht4 := htr.below hb4 htr.pos
      go_wp2_with fail
      refine (alive_any _ ht4).mono ?_
      rintro e w5 ⟨rfl, hb5⟩
      go_wp2
      go_ret
      exact ⟨rfl, below_step (below_step (below_step (below_step hb1 hb2) hbr) hb4) hb5⟩
/-- CrcBursts: true. -/
theorem burstsLaw (s : ByteArray) (a x : BitVec 32) (w : World) (_ht : Tab w) :
    Calls Tryd.prog 5 #[.string s, .int .u32 (U a), .int .u32 (U x)] w fun e w' => e = .returned (.bool true) ∧ Below w.heap.size w w' := by
  by_cases hs : s.size ≤ 4000
  · exact burstsLaw_small s a x w _ht hs
  · exact burstsLaw_great s a x w _ht (by omega)
end Go.Proofs.YtghmhheolbobpaaDoor
