/-
  Filters: the plain laws, bit by bit.
-/
import Derived.Test.YtmdglcdilabbaaaBloomRef
namespace Go.Proofs.Ytmdglcdilabbaaa
open Go.RowKit
set_option linter.unusedVariables false
set_option linter.unusedSimpArgs false

theorem or_bit (x m q : Nat) (hm : m < 8) (hq : q < 8) (hx : x < 256) : ((x ||| 2 ^ m) / 2 ^ q % 2 == 1) = ((x / 2 ^ q % 2 == 1) || (q == m)) := by
  have e : ∀ y : Nat, (y / 2 ^ q % 2 == 1) = y.testBit q := fun y => by
    rw [Nat.testBit_eq_decide_div_mod_eq, Bool.eq_iff_iff]; simp
  rw [e, e, Nat.testBit_or, Nat.testBit_two_pow]
  by_cases h : q = m
  · subst h; simp
  · rw [show (q == m) = false from by simp [h], show decide (m = q) = false from by simp; omega]
theorem orBit_toNat (b : UInt8) (m : Nat) (hm : m < 8) : (orBit b m).toNat = b.toNat ||| 2 ^ m := by
  unfold orBit
  rw [UInt8.toNat_ofNat']
  have := Nat.or_lt_two_pow b.toNat_lt (show 2 ^ m < 2 ^ 8 from Nat.pow_lt_pow_right (by omega) hm)
  omega

theorem bitAt_setB (l : List UInt8) (p q : Nat) (hp : p / 8 < l.length) : bitAt (setB l p) q = (bitAt l q || q == p) := by
  unfold bitAt setB
  by_cases h : p / 8 = q / 8
  · have e1 : (l.set (p / 8) (orBit (l.getD (p / 8) 0) (p % 8))).getD (q / 8) 0 = orBit (l.getD (q / 8) 0) (p % 8) := by
      rw [List.getD_eq_getElem?_getD, ← h, List.getElem?_set_self hp]; rfl
    rw [e1, orBit_toNat _ _ (Nat.mod_lt _ (by omega)), or_bit _ _ _ (Nat.mod_lt _ (by omega)) (Nat.mod_lt _ (by omega)) (UInt8.toNat_lt _)]
    congr 1
    rw [Bool.eq_iff_iff]; simp; omega
  · have e1 : (l.set (p / 8) (orBit (l.getD (p / 8) 0) (p % 8))).getD (q / 8) 0 = l.getD (q / 8) 0 := by
      rw [List.getD_eq_getElem?_getD, List.getElem?_set_ne h, ← List.getD_eq_getElem?_getD]
    rw [e1, show (q == p) = false from by simp; omega, Bool.or_false]

theorem any_range_succ (n : Nat) (f : Nat → Bool) : (List.range (n + 1)).any f = ((List.range n).any f || f n) := by
  simp [List.range_succ]
theorem bitAt_setK (g : Nat → Nat) (l : List UInt8) (i q : Nat) (hg : ∀ j, g j / 8 < l.length) : bitAt (setK g l i) q = (bitAt l q || (List.range i).any fun j => q == g j) := by
  induction i with
  | zero => simp [setK]
  | succ i ih => rw [setK_succ, bitAt_setB _ _ _ (by rw [setK_length]; exact hg i), ih, any_range_succ, Bool.or_assoc]

/-- is a bit one of a key's? -/
def hits (n : Nat) (q : Nat) (k : ByteArray) : Bool := (List.range 6).any fun j => q == plAt k (n : Int) j
theorem bitAt_none (n q : Nat) : bitAt (List.replicate n 0) q = false := by
  unfold bitAt
  have : (List.replicate n (0 : UInt8)).getD (q / 8) 0 = 0 := by
    rw [List.getD_eq_getElem?_getD, List.getElem?_replicate]; split <;> rfl
  rw [this]; simp
theorem bitAt_makeB (keys : List ByteArray) (n : Nat) (hn : 0 < n) (q : Nat) : bitAt (makeB keys n) q = keys.any (hits (n * 8) q) := by
  have key : ∀ (ks : List ByteArray) (l : List UInt8), l.length = n → bitAt (ks.foldl (fun l k => setK (plAt k ((n * 8 : Nat) : Int)) l 6) l) q = (bitAt l q || ks.any (hits (n * 8) q)) := by
    intro ks
    induction ks with
    | nil => intro l _; simp
    | cons k ks ih =>
      intro l hl
      rw [List.foldl_cons, ih _ (by rw [setK_length, hl]), bitAt_setK _ _ _ _ (fun j => by have := plAt_lt k (n * 8) (by omega) j; omega), List.any_cons, Bool.or_assoc]
      rfl
  unfold makeB
  rw [key keys _ (by simp), bitAt_none, Bool.false_or]

theorem setT_getD (g : Nat → Nat) (l : List Bool) (i q : Nat) (hq : q < l.length) : (setT g l i).getD q false = (l.getD q false || (List.range i).any fun j => q == g j) := by
  induction i with
  | zero => simp [setT]
  | succ i ih =>
    rw [setT_succ, any_range_succ, ← Bool.or_assoc, ← ih]
    have hl := setT_length g l i
    by_cases h : g i = q
    · rw [List.getD_eq_getElem?_getD, h, List.getElem?_set_self (by omega)]; simp
    · rw [List.getD_eq_getElem?_getD, List.getElem?_set_ne h, ← List.getD_eq_getElem?_getD, show (q == g i) = false from by simp; omega, Bool.or_false]
theorem makeT_getD (keys : List ByteArray) (n q : Nat) (hq : q < n) : (makeT keys n).getD q false = keys.any (hits n q) := by
  have key : ∀ (ks : List ByteArray) (l : List Bool), l.length = n → (ks.foldl (fun l k => setT (plAt k (n : Int)) l 6) l).getD q false = (l.getD q false || ks.any (hits n q)) := by
    intro ks
    induction ks with
    | nil => intro l _; simp
    | cons k ks ih =>
      intro l hl
      rw [List.foldl_cons, ih _ (by rw [setT_length, hl]), setT_getD _ _ _ _ (by omega), List.any_cons, Bool.or_assoc]
      rfl
  unfold makeT
  rw [key keys _ (by simp)]
  have : (List.replicate n false).getD q false = false := by
    rw [List.getD_eq_getElem?_getD, List.getElem?_replicate]; split <;> rfl
  rw [this, Bool.false_or]
/-- the program's filter has the document's truths -/
theorem truths_make (keys : List ByteArray) (n : Nat) (hn : 0 < n) : truthsL (makeB keys n) = makeT keys (n * 8) := by
  apply List.ext_getElem
  · rw [truthsL_length, makeB_length, makeT_length]
  · intro q h1 h2
    rw [makeT_length] at h2
    have e := makeT_getD keys (n * 8) q h2
    rw [List.getD_eq_getElem?_getD, List.getElem?_eq_getElem (by rw [makeT_length]; exact h2)] at e
    simp only [Option.getD_some] at e
    rw [e, ← bitAt_makeB keys n hn]
    simp [truthsL]
theorem mayL_make (keys : List ByteArray) (n : Nat) (hn : 0 < n) (key : ByteArray) : mayL (makeB keys n) key = (List.range 6).all fun i => keys.any (hits (n * 8) (plAt key ((n * 8 : Nat) : Int) i)) := by
  unfold mayL
  rw [makeB_length, show (n == 0) = false from by simp; omega, Bool.false_or]
  congr 1; funext i
  exact bitAt_makeB keys n hn _
theorem may_in (keys : List ByteArray) (n : Nat) (hn : 0 < n) (k : ByteArray) (hk : k ∈ keys) : mayL (makeB keys n) k = true := by
  rw [mayL_make keys n hn, List.all_eq_true]
  intro i hi
  rw [List.any_eq_true]
  refine ⟨k, hk, ?_⟩
  unfold hits
  rw [List.any_eq_true]
  exact ⟨i, hi, by simp⟩
theorem may_more (a b : List ByteArray) (n : Nat) (hn : 0 < n) (hab : ∀ k ∈ a, k ∈ b) (key : ByteArray) (h : mayL (makeB a n) key = true) : mayL (makeB b n) key = true := by
  rw [mayL_make _ n hn, List.all_eq_true] at h ⊢
  intro i hi
  have h2 := h i hi
  rw [List.any_eq_true] at h2 ⊢
  obtain ⟨k, hk, hh⟩ := h2
  exact ⟨k, hab k hk, hh⟩
theorem may_zero (key : ByteArray) : mayL [0] key = false := by
  unfold mayL
  have : ∀ q, bitAt [0] q = false := fun q => bitAt_none 1 q
  rw [show ([0] : List UInt8).length = 1 from rfl, show ((1 : Nat) == 0) = false from rfl, Bool.false_or, List.all_eq_false]
  exact ⟨0, by simp, by rw [this]; simp⟩

set_option maxRecDepth 100000 in
set_option maxHeartbeats 2000000 in
theorem ref_may (f key : ByteArray) (w : World) (hf : f.size ≤ 1000000) (hk : key.size ≤ 1000) :
    Calls Try.prog 16 #[.string f, .string key] w fun e w' => e = .returned (.bool (mayL f.data.toList key)) ∧ Below w.heap.size w w' := by
  have hl : f.data.toList.length = f.size := by simp
  obtain ⟨t, ht⟩ : ∃ t, t = mayL f.data.toList key := ⟨_, rfl⟩
  rw [← ht]
  have TR := Lib.hid fun wx => ref_truths f wx hf
  by_cases h0 : f.size = 0
  · have HT : Hid (t = true) := Lib.hid (by rw [ht]; unfold mayL; rw [hl, h0]; rfl)
    rw [h0] at TR
    clear ht hl h0
    go_enter Try.func16, Try.ntmps16
    go_wp2_with (go_at_call 8; refine (TR.out _).mono ?_; rintro e w1 ⟨a, c, rfl, hR, hB⟩)
    go_ret
    exact ⟨by rw [HT.out]; rfl, hB⟩
  · have hpos : 0 < f.size := by omega
    obtain ⟨g, hg⟩ : ∃ g, g = plAt key ((f.size * 8 : Nat) : Int) := ⟨_, rfl⟩
    have HG : Hid (∀ i, g i < f.size * 8) := Lib.hid fun i => by rw [hg]; exact plAt_lt _ _ (by omega) _
    have HM : Hid (t = (List.range 6).all fun i => bitAt f.data.toList (g i)) := Lib.hid (by
      rw [ht, hg]; unfold mayL
      rw [hl, show (f.size == 0) = false from by simp [h0]]; rfl)
    have HL : Hid ((truthsL f.data.toList).length = f.size * 8) := Lib.hid (by rw [truthsL_length, hl])
    have HV : Hid (∀ i (h : i < (truthsL f.data.toList).length), (truthsL f.data.toList)[i] = bitAt f.data.toList i) := Lib.hid fun i h => by simp [truthsL]
    obtain ⟨T, hT⟩ : ∃ T, T = truthsL f.data.toList := ⟨_, rfl⟩
    obtain ⟨N, hN⟩ : ∃ N, N = f.size * 8 := ⟨_, rfl⟩
    have hN0 : 8 ≤ N ∧ N ≤ 8000000 := by omega
    obtain ⟨hN0, hN1⟩ := hN0
    rw [← hN] at HG HL TR hg
    rw [← hT] at HL HV TR
    have PL : Hid (∀ wx, (Below w.heap.size w wx) → Calls Try.prog 14 #[.string key, .int .i64 (N : Int)] wx fun e w' => ∃ q, e = .returned (.slice (some ⟨q, 0, none⟩) 6 6) ∧ (w'.heap[q]? = some (.cells (plRow g 6) 3 (0, 0)) ∧ Below w.heap.size w w' ∧ Below wx.heap.size wx w')) := Lib.hid fun wx h1 => by
      rw [hg]; exact (ref_places key _ wx hk (by omega)).mono fun _ _ ⟨q, h3, h4, h5, h6⟩ => ⟨q, h3, h4, below_at h1 h6, h6⟩
    have hne : ((N : Int) == 0) = false := (ne_bb (by omega)).1
    clear ht hl hg h0 hN hT
    go_enter Try.func16, Try.ntmps16
    go_wp2_with (first | (go_at_call 8; refine (TR.out _).mono ?_; rintro e w1 ⟨a, c, rfl, hR, hB⟩) | (go_at_call 14; (with_reducible refine (PL.out _ hB).mono ?_); rintro e w2 ⟨q, rfl, hQ⟩; have HQ := Lib.hid hQ.1; have HB := Lib.hid hQ.2.1; have HR := Lib.hid (hR.moved hQ.2.2); clear hQ))
    clear hR hB PL TR
    go_loopw [18] (fun v18 wr => ∃ k : Nat, k ≤ 6 ∧ v18 = .int .i64 k ∧ Hid (∀ i, i < k → bitAt f.data.toList (g i) = true) ∧ Drew w2 wr) (fun v _ => 6 - (intOf v).toNat)
    case atStart => exact ⟨0, by omega, rfl, Lib.hid fun i h => absurd h (Nat.not_lt_zero _), Drew.refl _⟩
    case round =>
      obtain ⟨k, hk6, rfl, HK, ⟨⟨d, rfl⟩⟩⟩ := hrel
      by_cases hlt : k < 6
      · have hcq : (w2.drewN d).cell? ⟨q, k, none⟩ = some (.int .i64 (g k : Int)) := by
          rw [cell_of_row (w2.drewN d) _ _ _ _ _ HQ.out, plRow_at g 6 k hlt, if_pos hlt]
        have hgk : g k < N := HG.out k
        obtain ⟨b, o, rfl, hcell⟩ := bools_at (HR.out.moved ((Drew.refl w2).step d).below) (g k) (by rw [HL.out]; exact hgk)
        rw [HV.out] at hcell
        cases hb : bitAt f.data.toList (g k)
        · rw [hb] at hcell
          have HE : Hid (t = false) := Lib.hid (by
            rw [HM.out, List.all_eq_false]
            exact ⟨k, by simpa using hlt, by rw [hb]; simp⟩)
          clear hb
          go_wp2
          go_ret
          exact ⟨by rw [HE.out]; rfl, by exact below_drewN HB.out _⟩
        · rw [hb] at hcell
          have HK2 : Hid (∀ i, i < k + 1 → bitAt f.data.toList (g i) = true) := Lib.hid fun i h => by
            by_cases e : i = k
            · rw [e, hb]
            · exact HK.out i (by omega)
          clear hb
          go_wp2
          go_roundw
          case rel => exact ⟨k + 1, by omega, by go_num, HK2, by repeat (first | exact Drew.refl _ | apply Drew.step)⟩
          case measure => simp [intOf]; omega
      · have HE : Hid (t = true) := Lib.hid (by
          rw [HM.out, List.all_eq_true]
          intro i hi
          exact HK.out i (by have := List.mem_range.mp hi; omega))
        go_wp2
        go_ret
        exact ⟨by rw [HE.out]; rfl, by exact below_drewN HB.out _⟩

end Go.Proofs.Ytmdglcdilabbaaa
