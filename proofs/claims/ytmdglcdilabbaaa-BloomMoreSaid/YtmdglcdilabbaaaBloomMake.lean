/-
  bloom.Make by contract.
-/
import Derived.Test.YtmdglcdilabbaaaBloomMay
import Derived.Test.YtmdglcdilabbaaaVarMath
import Derived.Test.YtmdglcdilabbaaaRecs
namespace Go.Proofs.Ytmdglcdilabbaaa
open Go.RowKit
set_option linter.unusedVariables false
set_option linter.unusedSimpArgs false

theorem info_byte : (Try.prog.info? 5).map (fun i => (i.zero, i.size, i.bytes)) = some (some (.int .u8 0), 1, 1) := by kernel_rfl
def orBit (b : UInt8) (m : Nat) : UInt8 := UInt8.ofNat (b.toNat ||| 2 ^ m)
def setB (l : List UInt8) (p : Nat) : List UInt8 := l.set (p / 8) (orBit (l.getD (p / 8) 0) (p % 8))
/-- the places of one key set, i of them -/
def setK (g : Nat → Nat) (l : List UInt8) (i : Nat) : List UInt8 := (List.range i).foldl (fun l j => setB l (g j)) l
def makeB (keys : List ByteArray) (n : Nat) : List UInt8 := keys.foldl (fun l k => setK (plAt k ((n * 8 : Nat) : Int)) l 6) (List.replicate n 0)
theorem setB_length (l : List UInt8) (p : Nat) : (setB l p).length = l.length := by simp [setB]
theorem setK_succ (g : Nat → Nat) (l : List UInt8) (i : Nat) : setK g l (i + 1) = setB (setK g l i) (g i) := by simp [setK, List.range_succ]
theorem setK_length (g : Nat → Nat) (l : List UInt8) (i : Nat) : (setK g l i).length = l.length := by
  induction i with
  | zero => rfl
  | succ i ih => rw [setK_succ, setB_length, ih]
theorem makeB_snoc (keys : List ByteArray) (k : ByteArray) (n : Nat) : makeB (keys ++ [k]) n = setK (plAt k ((n * 8 : Nat) : Int)) (makeB keys n) 6 := by simp [makeB]
theorem makeB_length (keys : List ByteArray) (n : Nat) : (makeB keys n).length = n := by
  have : ∀ (ks : List ByteArray) (l : List UInt8), (ks.foldl (fun l k => setK (plAt k ((n * 8 : Nat) : Int)) l 6) l).length = l.length := by
    intro ks
    induction ks with
    | nil => intro l; rfl
    | cons k ks ih => intro l; rw [List.foldl_cons, ih, setK_length]
  unfold makeB; rw [this]; simp
theorem or_word (b : UInt8) (m : Nat) (hm : m < 8) : Go.bits .or .u8 (b.toNat : Int) (2 ^ m) = ((orBit b m).toNat : Int) := by
  have hb := b.toNat_lt
  have h2 : 2 ^ m < 2 ^ 8 := Nat.pow_lt_pow_right (by omega) hm
  have h := (bits_nat .u8 8 (by decide) wraps_u8 b.toNat (2 ^ m) hb h2).2
  have e : ((2 ^ m : Nat) : Int) = 2 ^ m := by simp
  rw [e] at h
  rw [h]; unfold orBit
  rw [UInt8.toNat_ofNat']
  have := Nat.or_lt_two_pow hb h2
  omega

theorem or_word256 (b : UInt8) (m : Nat) (hm : m < 8) : Go.bits .or .u8 (b.toNat : Int) (2 ^ m % 256) = ((orBit b m).toNat : Int) := by
  rw [← or_word b m hm]
  congr 1
  have h2 : 2 ^ m < 2 ^ 8 := Nat.pow_lt_pow_right (by omega) hm
  have e : ((2 ^ m : Nat) : Int) = 2 ^ m := by simp
  rw [← e]
  generalize 2 ^ m = y at h2
  have h3 : y < 256 := h2
  omega
theorem u8s_setB (l : List UInt8) (i : Nat) (b : UInt8) {x : Int} (hx : x = ((b.toNat : Nat) : Int)) : (u8s l).set i (.int .u8 x) = u8s (l.set i b) := by
  rw [hx]; simp [u8s, List.map_set]

theorem strs_at {w : World} {a : Option Addr} {l : List ByteArray} (h : RowsAt w a 1 strRow l) (i : Nat) (hi : i < l.length) :
    ∃ b o, a = some ⟨b, o, none⟩ ∧ w.cell? ⟨b, o + i, none⟩ = some (.string l[i]) := h.one (f := fun s => .string s) (fun _ => rfl) i hi

set_option maxRecDepth 100000 in
set_option maxHeartbeats 4000000 in
theorem bloom_make (keys : List ByteArray) (A : Option Addr) (c : Nat) (w : World) (hr : RowsAt w A 1 strRow keys) (hl : keys.length ≤ 1000) (hk : ∀ k ∈ keys, k.size ≤ 1000) :
    Calls Try.prog 9 #[.slice A keys.length c] w fun e w' => e = .returned (.string (str (makeB keys (bitsS keys.length / 8)))) ∧ Below w.heap.size w w' := by
  have HR := Lib.hid hr
  have HK := Lib.hid hk
  obtain ⟨nb, hnb⟩ : ∃ nb, nb = bitsS keys.length / 8 := ⟨_, rfl⟩
  have hb8 : bitsS keys.length = nb * 8 := by rw [hnb]; unfold bitsS; omega
  have n0 : 8 ≤ nb := by rw [hnb]; unfold bitsS; omega
  have n1 : nb ≤ 100000 := by rw [hnb]; unfold bitsS; omega
  have BI : Hid (∀ wx, Calls Try.prog 11 #[.int .i64 (keys.length : Int)] wx fun e w' => e = .returned (.int .i64 ((nb : Int) * 8)) ∧ Drew wx w') := Lib.hid fun wx => by
    have h := bloom_bits keys.length wx (by omega) (by omega)
    rw [Int.toNat_natCast, hb8] at h
    rw [show ((nb : Int) * 8) = ((nb * 8 : Nat) : Int) from by omega]; exact h
  rw [← hnb]
  clear hr hk hnb hb8
  obtain ⟨i0, hi, hz0, hz1, hz2⟩ := info_parts info_byte
  have hmk : ((nb : Int) * 8) / 8 = (nb : Int) := by omega
  go_enter Try.func9, Try.ntmps9
  go_wp2_with (first | (go_at_call 11; (with_reducible refine (BI.out _).mono ?_); rintro e w1 ⟨rfl, ⟨nd, rfl⟩⟩) | (with_reducible refine wpList_make_full _ rfl (.tmp 11) (.tmp 11) 38 rfl w.heap.size 5 i0 (.int .u8 0) 1 Try.underlying38 hi hz0 hz1 .i64 .i64 (nb : Int) (nb : Int) nb rfl rfl rfl rfl (by rw [hz2]; omega) (by unfold maxLen; omega) (Nat.le_refl _) ?_; intro w1 hown hg; have HO := Lib.hid hown; have HG := Lib.hid hg; clear hown hg))
  have hB1 : Below w.heap.size w w1 := (below_drewN (Below.refl w.heap.size w) nd).trans ((Below.refl w.heap.size _).grown HG.out (Nat.le_refl _) (fun k h => by cases h))
  have HO1 : Hid (w1.ownsRow w.heap.size 5 1 (.slice (some ⟨w.heap.size, 0, none⟩) nb nb) nb (u8s (makeB (keys.take 0) nb))) := Lib.hid (by
    have h := HO.out
    rw [show (Value.int IntKind.u8 0).cells = #[.int .u8 0] from rfl, toList_madeCells_one, Nat.mul_one] at h
    simpa [u8s, makeB] using h)
  clear HO HG hi hz0 hz1 hz2 hmk BI
  go_loopw [15] (fun v15 wr => ∃ j : Nat, j ≤ keys.length ∧ v15 = .int .i64 j ∧ Below w.heap.size w wr ∧ Hid (wr.ownsRow w.heap.size 5 1 (.slice (some ⟨w.heap.size, 0, none⟩) nb nb) nb (u8s (makeB (keys.take j) nb)))) (fun v _ => keys.length - (intOf v).toNat)
  case atStart => exact ⟨0, Nat.zero_le _, rfl, hB1, HO1⟩
  case round =>
    clear hB1 HO1
    obtain ⟨j, hj, rfl, hB, HO⟩ := hrel
    by_cases hlt : j < keys.length
    · obtain ⟨b, o, rfl, hcell⟩ := strs_at (HR.out.moved hB) j hlt
      obtain ⟨k, hk⟩ : ∃ k, k = keys[j] := ⟨_, rfl⟩
      rw [← hk] at hcell
      have hks : k.size ≤ 1000 := by rw [hk]; exact HK.out _ (List.getElem_mem hlt)
      obtain ⟨g, hg⟩ : ∃ g, g = plAt k ((nb * 8 : Nat) : Int) := ⟨_, rfl⟩
      have HG : Hid (∀ i, g i < nb * 8) := Lib.hid fun i => by rw [hg]; exact plAt_lt _ _ (by omega) _
      have PL : Hid (∀ wx, (Below w.heap.size w wx ∧ wx.ownsRow w.heap.size 5 1 (.slice (some ⟨w.heap.size, 0, none⟩) nb nb) nb (u8s (makeB (keys.take j) nb))) → Calls Try.prog 13 #[.string k, .int .i64 ((nb : Int) * 8)] wx fun e w' => e = .returned (.agg (plRow g 6)) ∧ (Below w.heap.size w w' ∧ w'.ownsRow w.heap.size 5 1 (.slice (some ⟨w.heap.size, 0, none⟩) nb nb) nb (u8s (makeB (keys.take j) nb)))) := Lib.hid fun wx ⟨h1, h2⟩ => by
        rw [hg, show ((nb : Int) * 8) = ((nb * 8 : Nat) : Int) from by omega]
        exact (bloom_places k _ wx hks (by omega)).mono fun _ _ ⟨h3, h4⟩ => ⟨h3, below_at h1 h4, own_moved h2 h4⟩
      have HN : Hid (setK g (makeB (keys.take j) nb) 6 = makeB (keys.take (j + 1)) nb) := Lib.hid (by
        rw [List.take_succ_eq_append_getElem hlt, makeB_snoc, ← hk, hg])
      have HLn : Hid ((makeB (keys.take j) nb).length = nb) := Lib.hid (makeB_length _ _)
      obtain ⟨L, hL⟩ : ∃ L, L = makeB (keys.take j) nb := ⟨_, rfl⟩
      rw [← hL] at HO PL HN HLn
      clear hk hg hL hks
      go_wp2_with (go_at_call 13; (with_reducible refine (PL.out _ ⟨hB, HO.out⟩).mono ?_); rintro e w2 ⟨rfl, hS⟩; have HS := Lib.hid hS; clear hS)
      clear PL HO hcell hB
      obtain ⟨wo, hwo⟩ : ∃ wo : World, wo = wr := ⟨_, rfl⟩
      clear hwo
      go_loopw [24] (fun v24 wi => ∃ i : Nat, i ≤ 6 ∧ v24 = .int .i64 i ∧ Below w.heap.size w wi ∧ Hid (wi.ownsRow w.heap.size 5 1 (.slice (some ⟨w.heap.size, 0, none⟩) nb nb) nb (u8s (setK g L i)))) (fun v _ => 6 - (intOf v).toNat)
      case atStart => exact ⟨0, by omega, rfl, HS.out.1, Lib.hid HS.out.2⟩
      case round =>
        clear HS
        obtain ⟨i, hi, rfl, hBi, HOi⟩ := hrel
        by_cases hli : i < 6
        · have hpl : g i / 8 < nb := by have := HG.out i; omega
          have hidx := fun w => run_index_pl g i hli w
          obtain ⟨x, hx⟩ : ∃ x, x = (setK g L i).getD (g i / 8) 0 := ⟨_, rfl⟩
          have hcell : wr.cell? ⟨w.heap.size, g i / 8, none⟩ = some (.int .u8 (x.toNat : Int)) := by
            have hl2 : g i / 8 < (setK g L i).length := by rw [setK_length, HLn.out]; exact hpl
            rw [HOi.out.cellAt _ (by omega), hx]
            simp [u8s, List.getD_eq_getElem?_getD, List.getElem?_eq_getElem hl2]
          have hfz := HOi.out.frozenAt (g i / 8)
          have hm8 : g i % 8 < 8 := Nat.mod_lt _ (by omega)
          have HOR := Lib.hid (or_word256 x (g i % 8) hm8)
          have HSET : Hid (((u8s (setK g L i)).set (g i / 8) (.int .u8 ((orBit x (g i % 8)).toNat : Int))) = u8s (setK g L (i + 1))) := Lib.hid (by
            rw [setK_succ, u8s_setB _ _ _ rfl, hx]; rfl)
          clear hx
          go_wp2
          go_region
          go_wp2
          go_roundw
          case rel =>
            refine ⟨i + 1, by omega, by go_num, ?_, Lib.hid ?_⟩
            · exact (hBi.setCell (Nat.le_refl _) _).drew
            · rw [← HSET.out, ← HOR.out]
              exact (HOi.out.stored (g i / 8) _).1.drew
          case measure => simp [intOf]; omega
        · have HI6 : Hid (i = 6) := Lib.hid (by omega)
          go_wp2
          go_roundw
          case rel => exact ⟨j + 1, by omega, by go_num, hBi, Lib.hid (by rw [← HN.out, ← HI6.out]; exact HOi.out)⟩
          case measure => simp [intOf]; omega
    · have HJ : Hid (keys.take j = keys) := Lib.hid (List.take_of_length_le (by omega))
      have HLn : Hid ((makeB keys nb).length = nb) := Lib.hid (makeB_length _ _)
      have hcb := own_bytes (P := Try.prog) (dst := 9) (l := makeB keys nb) (own_len HO.out HLn.out.symm (by rw [HJ.out])) (by intro h; have := congrArg List.length h; rw [HLn.out] at this; simp at this; omega) Try.underlying38 Try.underlying5 Try.underlying9
      go_wp2
      go_ret
      exact ⟨rfl, hB⟩

end Go.Proofs.Ytmdglcdilabbaaa
