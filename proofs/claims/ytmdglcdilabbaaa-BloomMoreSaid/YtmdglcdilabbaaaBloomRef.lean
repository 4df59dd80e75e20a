/-
  The document's Bits and Places by contract.
-/
import Derived.Test.YtmdglcdilabbaaaBloomMake
namespace Go.Proofs.Ytmdglcdilabbaaa
open Go.RowKit
set_option linter.unusedVariables false
set_option linter.unusedSimpArgs false

set_option maxHeartbeats 1000000 in
theorem ref_bits (n : Int) (w : World) (h0 : -9223372036854775808 ≤ n) (h1 : n ≤ 100000000) :
    Calls Try.prog 12 #[.int .i64 n] w fun e w' => e = .returned (.int .i64 (bitsS n.toNat : Int)) ∧ Drew w w' := by
  obtain ⟨t, ht⟩ : ∃ t : Int, t = (bitsS n.toNat : Int) := ⟨_, rfl⟩
  rw [← ht]
  have HT := Lib.hid ht
  have t0 : 64 ≤ t ∧ t ≤ 1000000010 := by rw [ht]; unfold bitsS; omega
  obtain ⟨t0, t1⟩ := t0
  clear ht
  by_cases h6 : 6 < n
  · have HS : Hid ((10 * n + 7) / 8 * 8 = t) := Lib.hid (by rw [HT.out]; unfold bitsS; omega)
    go_enter Try.func12, Try.ntmps12
    go_wp2
    go_loopw [3] (fun v3 wr => ∃ m : Int, v3 = .int .i64 m ∧ 64 ≤ m ∧ m ≤ t ∧ Hid ((m + 7) / 8 * 8 = t) ∧ Drew w wr) (fun v _ => (t - intOf v).toNat)
    case atStart => exact ⟨10 * n, rfl, by omega, by have := HS.out; omega, HS, Drew.refl _⟩
    case round =>
      obtain ⟨m, rfl, m0, m1, HM, ⟨⟨d, rfl⟩⟩⟩ := hrel
      by_cases h8 : m % 8 = 0
      · obtain ⟨e1, e2⟩ := eq_bb h8
        have HE : Hid (m = t) := Lib.hid (by have := HM.out; omega)
        clear h8
        go_wp2
        go_ret
        exact ⟨by rw [← HE.out]; rfl, by repeat (first | exact Drew.refl _ | apply Drew.step)⟩
      · obtain ⟨e1, e2⟩ := ne_bb h8
        have hlt : m < t := by have := HM.out; omega
        have HM2 : Hid ((m + 1 + 7) / 8 * 8 = t) := Lib.hid (by have := HM.out; omega)
        clear h8
        go_wp2
        go_roundw
        case rel => exact ⟨m + 1, rfl, by omega, by omega, HM2, by repeat (first | exact Drew.refl _ | apply Drew.step)⟩
        case measure => simp [intOf]; omega
  · have HS : Hid (64 = t) := Lib.hid (by rw [HT.out]; unfold bitsS; omega)
    go_enter Try.func12, Try.ntmps12
    go_wp2
    go_loopw [3] (fun v3 wr => v3 = .int .i64 64 ∧ Drew w wr) (fun v _ => 0)
    case atStart => exact ⟨rfl, Drew.refl _⟩
    case round =>
      obtain ⟨rfl, ⟨⟨d, rfl⟩⟩⟩ := hrel
      go_wp2
      go_ret
      exact ⟨by rw [← HS.out]; rfl, by repeat (first | exact Drew.refl _ | apply Drew.step)⟩

theorem small_mul (k : Nat) (hk : k < 6) (B : Int) (b0 : 0 ≤ B) (b1 : B < 4294967296) : 0 ≤ (k : Int) * B ∧ (k : Int) * B ≤ 25769803776 := by
  have : k = 0 ∨ k = 1 ∨ k = 2 ∨ k = 3 ∨ k = 4 ∨ k = 5 := by omega
  rcases this with rfl | rfl | rfl | rfl | rfl | rfl <;> omega

set_option maxRecDepth 100000 in
set_option maxHeartbeats 2000000 in
theorem ref_places (key : ByteArray) (bits : Int) (w : World) (hs : key.size ≤ 1000) (hb2 : bits ≤ 9223372036854775807) :
    Calls Try.prog 14 #[.string key, .int .i64 bits] w fun e w' => ∃ g, e = .returned (.slice (some ⟨g, 0, none⟩) 6 6) ∧ w'.heap[g]? = some (.cells (plRow (plAt key bits) 6) 3 (0, 0)) ∧ w.heap.size ≤ g ∧ Below w.heap.size w w' := by
  by_cases hb : bits < 1
  · have HE := Lib.hid (plRow_none key bits hb)
    rw [HE.out]
    go_enter Try.func14, Try.ntmps14
    go_wp2
    go_ret
    exact ⟨w.heap.size, rfl, heap_alloc_new _ _, Nat.le_refl _, (Below.refl _ _).alloc (Nat.le_refl _) _⟩
  · obtain ⟨f, hf⟩ : ∃ f, f = plAt key bits := ⟨_, rfl⟩
    rw [← hf]
    obtain ⟨A, hA⟩ : ∃ A : Int, A = ((crcFrom 0#32 (bytesOf key)).toNat : Int) := ⟨_, rfl⟩
    obtain ⟨B, hB⟩ : ∃ B : Int, B = ((crcFrom 0#32 (bytesOf (key7 key))).toNat : Int) := ⟨_, rfl⟩
    have HF : Hid (∀ i : Nat, (f i : Int) = (A + i * B + i * i) % 4294967296 % bits) := Lib.hid fun i => by rw [hf, hA, hB]; exact plAt_int key bits i (by omega)
    have cA : Hid (∀ wx, Calls Try.prog 18 #[.string key] wx fun e w' => e = .returned (.int .u32 A) ∧ Drew wx w') := Lib.hid fun wx => by
      rw [hA]; exact ref_of key wx (by omega)
    have cB : Hid (∀ wx, Calls Try.prog 18 #[.string (key ++ ⟨#[7]⟩)] wx fun e w' => e = .returned (.int .u32 B) ∧ Drew wx w') := Lib.hid fun wx => by
      rw [hB]; exact ref_of (key7 key) wx (by unfold key7; rw [ByteArray.size_append]; have : (⟨#[7]⟩ : ByteArray).size = 1 := rfl; omega)
    have a0 : 0 ≤ A := by omega
    have a1 : A < 4294967296 := by rw [hA]; have := (crcFrom 0#32 (bytesOf key)).isLt; omega
    have b0 : 0 ≤ B := by omega
    have b1 : B < 4294967296 := by rw [hB]; have := (crcFrom 0#32 (bytesOf (key7 key))).isLt; omega
    clear hf hA hB
    go_enter Try.func14, Try.ntmps14
    go_wp2_with (first | (go_at_call 18; (with_reducible refine (cA.out _).mono ?_); rintro e w1 ⟨rfl, ⟨n1, rfl⟩⟩) | (go_at_call 18; (with_reducible refine (cB.out _).mono ?_); rintro e w2 ⟨rfl, ⟨n2, rfl⟩⟩))
    clear cA cB
    go_loopw [8] (fun v8 wr => ∃ k : Nat, k ≤ 6 ∧ v8 = .int .u64 k ∧ Below w.heap.size w wr ∧ Hid (wr.heap[w.heap.size]? = some (.cells (plRow f k) 3 (0, 0)))) (fun v _ => 6 - (intOf v).toNat)
    case atStart =>
      refine ⟨0, by omega, rfl, ?_, Lib.hid ?_⟩
      · (repeat (first | exact Below.refl _ _ | assumption | apply below_drewN | (refine Below.alloc ?_ (by simp; try omega) _)))
      · rw [plRow_zero]; exact heap_alloc_new _ _
    case round =>
      obtain ⟨k, hk, rfl, hBw, H1⟩ := hrel
      have hcell : wr.cell? ⟨w.heap.size, k, none⟩ = (plRow f k)[k]? := cell_of_row _ _ _ _ _ _ H1.out
      have hfz : wr.frozen? ⟨w.heap.size, k, none⟩ = false := frozen_of_row _ _ _ _ _ H1.out
      by_cases hlt : k < 6
      · rw [plRow_at f k k hlt, if_neg (by omega)] at hcell
        obtain ⟨c1, c2⟩ := small_mul k hlt B b0 b1
        obtain ⟨c3, c4⟩ := small_mul k hlt (k : Int) (by omega) (by omega)
        obtain ⟨u1, hu1⟩ : ∃ u, (k : Int) * B = u := ⟨_, rfl⟩
        obtain ⟨u3, hu3⟩ : ∃ u, (k : Int) * (k : Int) = u := ⟨_, rfl⟩
        obtain ⟨p, hp⟩ : ∃ p, (A + u1 + u3) % 4294967296 % bits = p := ⟨_, rfl⟩
        have b4a : 0 ≤ (A + u1 + u3) % 4294967296 := by omega
        have b4b : (A + u1 + u3) % 4294967296 < 4294967296 := by omega
        have p0 : 0 ≤ p := by rw [← hp]; exact Int.emod_nonneg _ (by omega)
        have p1 : p < 4294967296 := by
          rw [← hp]
          generalize (A + u1 + u3) % 4294967296 = u4 at b4a b4b
          have e1 := Int.emod_add_mul_ediv u4 bits; have e2 := Int.mul_nonneg (show 0 ≤ bits by omega) (Int.ediv_nonneg b4a (show 0 ≤ bits by omega)); omega
        have HP : Hid (p = (f k : Int)) := Lib.hid (by rw [HF.out k, ← hp, ← hu1, ← hu3])
        have hnz : (bits == 0) = false := (ne_bb (by omega)).1
        rw [hu1] at c1 c2
        rw [hu3] at c3 c4
        go_wp2
        go_roundw
        case rel => exact ⟨k + 1, by omega, by go_num, hBw.setCell (Nat.le_refl _) _, Lib.hid (by rw [← plRow_set f k hlt, ← HP.out]; exact heap_setCell_same _ _ _ _ _ _ H1.out)⟩
        case measure => simp [intOf]; omega
      · have hE : Hid (k = 6) := Lib.hid (by omega)
        clear hcell hfz
        go_wp2
        go_ret
        exact ⟨w.heap.size, rfl, by rw [← hE.out]; exact H1.out, Nat.le_refl _, hBw⟩

/-- the truths that the document makes of keys -/
def setT (g : Nat → Nat) (l : List Bool) (i : Nat) : List Bool := (List.range i).foldl (fun l j => l.set (g j) true) l
def makeT (keys : List ByteArray) (n : Nat) : List Bool := keys.foldl (fun l k => setT (plAt k (n : Int)) l 6) (List.replicate n false)
theorem setT_succ (g : Nat → Nat) (l : List Bool) (i : Nat) : setT g l (i + 1) = (setT g l i).set (g i) true := by simp [setT, List.range_succ]
theorem setT_length (g : Nat → Nat) (l : List Bool) (i : Nat) : (setT g l i).length = l.length := by
  induction i with
  | zero => rfl
  | succ i ih => rw [setT_succ, List.length_set, ih]
theorem makeT_snoc (keys : List ByteArray) (k : ByteArray) (n : Nat) : makeT (keys ++ [k]) n = setT (plAt k (n : Int)) (makeT keys n) 6 := by simp [makeT]
theorem makeT_length (keys : List ByteArray) (n : Nat) : (makeT keys n).length = n := by
  have : ∀ (ks : List ByteArray) (l : List Bool), (ks.foldl (fun l k => setT (plAt k (n : Int)) l 6) l).length = l.length := by
    intro ks
    induction ks with
    | nil => intro l; rfl
    | cons k ks ih => intro l; rw [List.foldl_cons, ih, setT_length]
  unfold makeT; rw [this]; simp
def bools (l : List Bool) : List Value := l.map Value.bool
def boolRow (b : Bool) : List Value := [.bool b]
theorem bools_at {w : World} {a : Option Addr} {l : List Bool} (h : RowsAt w a 1 boolRow l) (i : Nat) (hi : i < l.length) :
    ∃ b o, a = some ⟨b, o, none⟩ ∧ w.cell? ⟨b, o + i, none⟩ = some (.bool l[i]) := h.one (f := Value.bool) (fun _ => rfl) i hi
theorem info_bool : (Try.prog.info? 4).map (fun i => (i.zero, i.size, i.bytes)) = some (some (.bool false), 1, 1) := by kernel_rfl

set_option maxRecDepth 100000 in
set_option maxHeartbeats 4000000 in
theorem ref_make (keys : List ByteArray) (A : Option Addr) (c : Nat) (w : World) (hr : RowsAt w A 1 strRow keys) (hl : keys.length ≤ 1000) (hk : ∀ k ∈ keys, k.size ≤ 1000) :
    Calls Try.prog 10 #[.slice A keys.length c] w fun e w' => ∃ a c, e = .returned (.slice a (bitsS keys.length) c) ∧ RowsAt w' a 1 boolRow (makeT keys (bitsS keys.length)) ∧ Below w.heap.size w w' := by
  have HR := Lib.hid hr
  have HK := Lib.hid hk
  have n0 : 64 ≤ bitsS keys.length := by unfold bitsS; omega
  have n1 : bitsS keys.length ≤ 100000 := by unfold bitsS; omega
  have BI := Lib.hid fun wx => ref_bits keys.length wx (by omega) (by omega)
  rw [Int.toNat_natCast] at BI
  obtain ⟨nb, hnb⟩ : ∃ nb, nb = bitsS keys.length := ⟨_, rfl⟩
  rw [← hnb] at BI n0 n1 ⊢
  clear hr hk hnb
  obtain ⟨i0, hi, hz0, hz1, hz2⟩ := info_parts info_bool
  go_enter Try.func10, Try.ntmps10
  go_wp2_with (first | (go_at_call 12; (with_reducible refine (BI.out _).mono ?_); rintro e w1 ⟨rfl, ⟨nd, rfl⟩⟩) | (with_reducible refine wpList_make_full _ rfl (.tmp 10) (.tmp 10) 25 rfl w.heap.size 4 i0 (.bool false) 1 Try.underlying25 hi hz0 hz1 .i64 .i64 (nb : Int) (nb : Int) nb rfl rfl rfl rfl (by rw [hz2]; omega) (by unfold maxLen; omega) (Nat.le_refl _) ?_; intro w1 hown hg; have HO := Lib.hid hown; have HG := Lib.hid hg; clear hown hg))
  have hB1 : Below w.heap.size w w1 := (below_drewN (Below.refl w.heap.size w) nd).trans ((Below.refl w.heap.size _).grown HG.out (Nat.le_refl _) (fun k h => by cases h))
  have HO1 : Hid (w1.ownsRow w.heap.size 4 1 (.slice (some ⟨w.heap.size, 0, none⟩) nb nb) nb (bools (makeT (keys.take 0) nb))) := Lib.hid (by
    have h := HO.out
    rw [show (Value.bool false).cells = #[.bool false] from rfl, toList_madeCells_one, Nat.mul_one] at h
    simpa [bools, makeT] using h)
  clear HO HG hi hz0 hz1 hz2 BI
  go_loopw [14] (fun v14 wr => ∃ j : Nat, j ≤ keys.length ∧ v14 = .int .i64 j ∧ Below w.heap.size w wr ∧ Hid (wr.ownsRow w.heap.size 4 1 (.slice (some ⟨w.heap.size, 0, none⟩) nb nb) nb (bools (makeT (keys.take j) nb)))) (fun v _ => keys.length - (intOf v).toNat)
  case atStart => exact ⟨0, Nat.zero_le _, rfl, hB1, HO1⟩
  case round =>
    clear hB1 HO1
    obtain ⟨j, hj, rfl, hB, HO⟩ := hrel
    by_cases hlt : j < keys.length
    · obtain ⟨b, o, rfl, hcell⟩ := strs_at (HR.out.moved hB) j hlt
      obtain ⟨k, hk⟩ : ∃ k, k = keys[j] := ⟨_, rfl⟩
      rw [← hk] at hcell
      have hks : k.size ≤ 1000 := by rw [hk]; exact HK.out _ (List.getElem_mem hlt)
      obtain ⟨g, hg⟩ : ∃ g, g = plAt k (nb : Int) := ⟨_, rfl⟩
      have HG : Hid (∀ i, g i < nb) := Lib.hid fun i => by rw [hg]; exact plAt_lt _ _ (by omega) _
      have PL : Hid (∀ wx, (Below w.heap.size w wx ∧ wx.ownsRow w.heap.size 4 1 (.slice (some ⟨w.heap.size, 0, none⟩) nb nb) nb (bools (makeT (keys.take j) nb))) → Calls Try.prog 14 #[.string k, .int .i64 (nb : Int)] wx fun e w' => ∃ q, e = .returned (.slice (some ⟨q, 0, none⟩) 6 6) ∧ (Below w.heap.size w w' ∧ w'.heap[q]? = some (.cells (plRow g 6) 3 (0, 0)) ∧ w.heap.size < q ∧ w'.ownsRow w.heap.size 4 1 (.slice (some ⟨w.heap.size, 0, none⟩) nb nb) nb (bools (makeT (keys.take j) nb)))) := Lib.hid fun wx ⟨h1, h2⟩ => by
        rw [hg]
        refine (ref_places k _ wx hks (by omega)).mono fun _ _ ⟨q, h3, h4, h5, h6⟩ => ⟨q, h3, below_at h1 h6, h4, ?_, own_moved h2 h6⟩
        have := (h2.lt w.heap.size rfl).2
        omega
      have HN : Hid (setT g (makeT (keys.take j) nb) 6 = makeT (keys.take (j + 1)) nb) := Lib.hid (by
        rw [List.take_succ_eq_append_getElem hlt, makeT_snoc, ← hk, hg])
      have HLn : Hid ((makeT (keys.take j) nb).length = nb) := Lib.hid (makeT_length _ _)
      obtain ⟨L, hL⟩ : ∃ L, L = makeT (keys.take j) nb := ⟨_, rfl⟩
      rw [← hL] at HO PL HN HLn
      clear hk hg hL hks
      go_wp2_with (go_at_call 14; (with_reducible refine (PL.out _ ⟨hB, HO.out⟩).mono ?_); rintro e w2 ⟨q, rfl, hS⟩; have HS := Lib.hid hS; clear hS)
      have hq : w.heap.size < q := HS.out.2.2.1
      clear PL HO hcell hB
      obtain ⟨wo, hwo⟩ : ∃ wo : World, wo = wr := ⟨_, rfl⟩
      clear hwo
      go_loopw [23] (fun v23 wi => ∃ i : Nat, i ≤ 6 ∧ v23 = .int .i64 i ∧ Below w.heap.size w wi ∧ Hid (wi.heap[q]? = some (.cells (plRow g 6) 3 (0, 0))) ∧ Hid (wi.ownsRow w.heap.size 4 1 (.slice (some ⟨w.heap.size, 0, none⟩) nb nb) nb (bools (setT g L i)))) (fun v _ => 6 - (intOf v).toNat)
      case atStart => exact ⟨0, by omega, rfl, HS.out.1, Lib.hid HS.out.2.1, Lib.hid HS.out.2.2.2⟩
      case round =>
        clear HS
        obtain ⟨i, hi, rfl, hBi, HQ, HOi⟩ := hrel
        by_cases hli : i < 6
        · have hpl : g i < nb := HG.out i
          have hcq : wr.cell? ⟨q, i, none⟩ = some (.int .i64 (g i : Int)) := by
            rw [cell_of_row _ _ _ _ _ _ HQ.out, plRow_at g 6 i hli, if_pos hli]
          obtain ⟨x, hcell⟩ : ∃ x, wr.cell? ⟨w.heap.size, g i, none⟩ = some (.bool x) := by
            have hl2 : g i < (setT g L i).length := by rw [setT_length, HLn.out]; exact hpl
            refine ⟨(setT g L i)[g i], ?_⟩
            rw [HOi.out.cellAt _ (by omega)]
            simp [bools, List.getElem?_eq_getElem hl2]
          have hfz := HOi.out.frozenAt (g i)
          have HSET : Hid (((bools (setT g L i)).set (g i) (.bool true)) = bools (setT g L (i + 1))) := Lib.hid (by
            rw [setT_succ]; simp [bools, List.map_set])
          go_wp2
          go_roundw
          case rel => exact ⟨i + 1, by omega, by go_num, hBi.setCell (Nat.le_refl _) _, Lib.hid (by rw [heap_setCell_other _ _ _ _ (by simp; omega)]; exact HQ.out), Lib.hid (by rw [← HSET.out]; exact (HOi.out.stored (g i) _).1)⟩
          case measure => simp [intOf]; omega
        · have HI6 : Hid (i = 6) := Lib.hid (by omega)
          go_wp2
          go_roundw
          case rel => exact ⟨j + 1, by omega, by go_num, hBi, Lib.hid (by rw [← HN.out, ← HI6.out]; exact HOi.out)⟩
          case measure => simp [intOf]; omega
    · have HJ : Hid (keys.take j = keys) := Lib.hid (List.take_of_length_le (by omega))
      have HLn : Hid ((makeT keys nb).length = nb) := Lib.hid (makeT_length _ _)
      go_wp2
      go_ret
      have hO := HO.out
      rw [HJ.out] at hO
      obtain ⟨a, cc, e1, e2, _⟩ := own_rows (enc := boolRow) (f := Value.bool) (l := makeT keys nb) (own_len hO HLn.out.symm rfl) (fun _ => rfl)
      exact ⟨a, cc, by rw [← HLn.out, ← e1, HLn.out]; rfl, e2, hB⟩

theorem int_eq_toBool (x : Nat) : (((x : Int) % 2) == 1) = (x % 2 == 1) := by
  rw [Bool.eq_iff_iff]; simp; omega

/-- a filter's bits, one by one -/
def truthsL (l : List UInt8) : List Bool := (List.range (l.length * 8)).map (bitAt l)
theorem truthsL_length (l : List UInt8) : (truthsL l).length = l.length * 8 := by simp [truthsL]
/-- the first m of them -/
def truthsN (l : List UInt8) (m : Nat) : List Bool := (List.range m).map (bitAt l)
theorem truthsN_succ (l : List UInt8) (m : Nat) : truthsN l (m + 1) = truthsN l m ++ [bitAt l m] := by simp [truthsN, List.range_succ]
theorem truthsN_length (l : List UInt8) (m : Nat) : (truthsN l m).length = m := by simp [truthsN]

set_option maxRecDepth 100000 in
set_option maxHeartbeats 4000000 in
theorem ref_truths (f : ByteArray) (w : World) (hf : f.size ≤ 1000000) :
    Calls Try.prog 8 #[.string f] w fun e w' => ∃ a c, e = .returned (.slice a (f.size * 8) c) ∧ RowsAt w' a 1 boolRow (truthsL f.data.toList) ∧ Below w.heap.size w w' := by
  have hl : Hid (f.data.toList.length = f.size) := Lib.hid (by simp)
  go_enter Try.func8, Try.ntmps8
  go_wp2
  go_loopw [3, 4] (fun v3 v4 wr => ∃ j : Nat, j ≤ f.size ∧ v4 = .int .i64 j ∧ Below w.heap.size w wr ∧ Hid (wr.ownsRow w.heap.size 4 1 v3 (j * 8) (bools (truthsN f.data.toList (j * 8))))) (fun _ v _ => f.size - (intOf v).toNat)
  case atStart => exact ⟨0, Nat.zero_le _, rfl, Below.refl _ _, Lib.hid (World.ownsRow_nil _ _ _ _)⟩
  case round =>
    obtain ⟨j, hj, rfl, hB, HO⟩ := hrel
    by_cases hlt : j < f.size
    · obtain ⟨b, hb⟩ : ∃ b, b = f[j] := ⟨_, rfl⟩
      have hsb : ((f[j].toNat : Nat) : Int) = ((b.toNat : Nat) : Int) := by rw [hb]
      have HBit : Hid (∀ k, k < 8 → bitAt f.data.toList (j * 8 + k) = (b.toNat / 2 ^ k % 2 == 1)) := Lib.hid fun k h => by
        unfold bitAt
        rw [show (j * 8 + k) / 8 = j from by omega, show (j * 8 + k) % 8 = k from by omega, hb, byte_at f j hlt]
      have hb8 := b.toNat_lt
      clear hb
      go_wp2
      obtain ⟨wo, hwo⟩ : ∃ wo : World, wo = wr := ⟨_, rfl⟩
      clear hwo
      go_loopw [3, 5, 6] (fun v3 v5 v6 wi => ∃ k : Nat, k ≤ 8 ∧ v6 = .int .i64 k ∧ v5 = .int .i64 ((b.toNat / 2 ^ k : Nat) : Int) ∧ Below w.heap.size w wi ∧ Hid (wi.ownsRow w.heap.size 4 1 v3 (j * 8 + k) (bools (truthsN f.data.toList (j * 8 + k))))) (fun _ _ v _ => 8 - (intOf v).toNat)
      case atStart => exact ⟨0, by omega, rfl, by simp, hB, HO⟩
      case round =>
        obtain ⟨k, hk, rfl, rfl, hBi, HOi⟩ := hrel
        by_cases hlk : k < 8
        · obtain ⟨x, hx⟩ : ∃ x, x = b.toNat / 2 ^ k := ⟨_, rfl⟩
          have hx2 : x < 256 := by rw [hx]; exact Nat.lt_of_le_of_lt (Nat.div_le_self _ _) hb8
          have hxn : Hid (b.toNat / 2 ^ (k + 1) = x / 2) := Lib.hid (by rw [hx, Nat.pow_succ, Nat.div_div_eq_div_mul])
          have HV : Hid (bitAt f.data.toList (j * 8 + k) = (x % 2 == 1)) := Lib.hid (by rw [HBit.out k hlk, hx])
          have htest := int_eq_toBool x
          rw [← hx]
          have HEX : Hid (bools (truthsN f.data.toList (j * 8 + k)) ++ [Value.bool (x % 2 == 1)] = bools (truthsN f.data.toList (j * 8 + (k + 1)))) := Lib.hid (by
            rw [← HV.out, ← Nat.add_assoc, truthsN_succ]; simp [bools])
          clear hx
          go_wp2_with (at_builtin; refine wp_append_one rfl (.tmp 21) (.tmp 25) 25 rfl w.heap.size 4 Try.underlying25 (.bool false) 1 info_bool rfl (by decide) wr u3 (j * 8 + k) _ rfl HOi.out (.bool (x % 2 == 1)) rfl rfl (by omega) hBi.size ?_; intro v' w1 hown1 hB1; have HO1 := Lib.hid hown1; clear hown1)
          go_roundw
          case rel => exact ⟨k + 1, by omega, by go_num, by rw [hxn.out]; go_num, hBi.trans hB1, Lib.hid (by rw [← HEX.out]; exact HO1.out)⟩
          case measure => simp [intOf]; omega
        · have HK8 : Hid (k = 8) := Lib.hid (by omega)
          go_wp2
          go_roundw
          case rel => exact ⟨j + 1, by omega, by go_num, hBi, Lib.hid (by have h := HOi.out; rw [HK8.out, show j * 8 + 8 = (j + 1) * 8 from by omega] at h; exact h)⟩
          case measure => simp [intOf]; omega
    · have HJ : Hid (j = f.size) := Lib.hid (by omega)
      go_wp2
      go_ret
      have hO := HO.out
      rw [HJ.out] at hO
      obtain ⟨a, cc, e1, e2, _⟩ := own_rows (enc := boolRow) (f := Value.bool) (l := truthsN f.data.toList (f.size * 8)) (own_len hO (truthsN_length _ _).symm rfl) (fun _ => rfl)
      rw [truthsN_length] at e1
      exact ⟨a, cc, by rw [← e1]; rfl, by unfold truthsL; rw [hl.out]; exact e2, hB⟩

end Go.Proofs.Ytmdglcdilabbaaa
