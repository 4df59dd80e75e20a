/-
  The shadow's From over pairs in memory: by contract.
-/
import Derived.Test.YtacgpflheokkaaaSkpRef
namespace Go.Proofs.Ytacgpflheokkaaa
open Go.RowKit Go.Shelf
set_option linter.unusedVariables false
set_option linter.unusedSimpArgs false

def fromP (l : List PairS) (key : ByteArray) : List PairS := l.filter fun x => !bLt x.1 key
theorem fromP_take (l : List PairS) (key : ByteArray) (k : Nat) (h : k < l.length) : fromP (l.take (k + 1)) key = fromP (l.take k) key ++ (if bLt l[k].1 key = true then [] else [l[k]]) := by
  unfold fromP
  rw [List.take_succ_eq_append_getElem h, List.filter_append]
  cases hb : bLt l[k].1 key <;> simp [hb]
theorem fromP_len (l : List PairS) (key : ByteArray) (k : Nat) : (fromP (l.take k) key).length ≤ k := Nat.le_trans (List.length_filter_le _ _) (by simp; omega)
theorem from_pairs (T : List TowM) (q : List Nat) (key : ByteArray) : fromP (pairsOf T q) key = fromL T q key := by
  unfold fromP pairsOf fromL
  rw [List.filter_map]; rfl

theorem own_rowsC {ρ : Type} {w : World} {base : Nat} {e : TypeId} {m : Nat} {v : Value} {enc : ρ → List Value} {l : List ρ} (h : w.ownsRow base e m v l.length (l.flatMap enc)) (he : ∀ r, (enc r).length = m) :
    ∃ a c, v = .slice a l.length c ∧ RowsAt w a m enc l ∧ l.length ≤ c ∧ (∀ b o, a = some ⟨b, o, none⟩ → base ≤ b) := by
  obtain ⟨a, c, e1, h1, h2, _⟩ := own_rowsN h he
  refine ⟨a, c, e1, h1, h2, fun b o hb => ?_⟩
  obtain ⟨hl, h | ⟨g, cap, cur, hv, hg, _⟩⟩ := h
  · rw [h.1] at e1
    injection e1 with ha
    rw [← ha] at hb; cases hb
  · rw [hv] at e1
    injection e1 with ha
    rw [← ha] at hb; cases hb; exact hg
set_option maxRecDepth 100000 in
set_option maxHeartbeats 4000000 in
theorem ref07_from (l : List PairS) (A : Option Addr) (c : Nat) (key : ByteArray) (w : World) (hr : RowsAt w A 2 pairRow l) (hl : l.length ≤ 100000000) :
    Calls Try.prog 23 #[.slice A l.length c, .string key] w fun e w' => ∃ a c', e = .returned (.slice a (fromP l key).length c') ∧ RowsAt w' a 2 pairRow (fromP l key) ∧ ((fromP l key).length ≤ c' ∧ ∀ b o, a = some ⟨b, o, none⟩ → w.heap.size ≤ b) ∧ Below w.heap.size w w' := by
  have HR := Lib.hid hr
  clear hr
  go_enter Try.func23, Try.ntmps23
  go_wp2
  go_loopw [5, 10] (fun v5 v10 wr => ∃ k : Nat, k ≤ l.length ∧ v10 = .int .i64 (k : Int) ∧ Hid (wr.ownsRow w.heap.size 49 2 v5 (fromP (l.take k) key).length ((fromP (l.take k) key).flatMap pairRow)) ∧ Below w.heap.size w wr) (fun _ v _ => l.length - (intOf v).toNat)
  case atStart => exact ⟨0, by omega, rfl, Lib.hid own_none, Below.refl _ _⟩
  case round =>
    obtain ⟨k, hk, rfl, HO, hB⟩ := hrel
    have hsz := hB.size
    by_cases hlt : k < l.length
    · obtain ⟨b, o, rfl, c0, c1⟩ := pair_cells (HR.out.moved hB) k hlt
      have HT := Lib.hid (fromP_take l key k hlt)
      have hn := fromP_len l key k
      cases hcmp : Op.bytesLess l[k].1.toList key.toList with
      | true =>
        have HT2 : Hid (fromP (l.take (k + 1)) key = fromP (l.take k) key) := Lib.hid (by rw [HT.out, if_pos (show bLt l[k].1 key = true from hcmp), List.append_nil])
        clear HT
        obtain ⟨x2, hx2⟩ : ∃ x, x = l[k].1 := ⟨_, rfl⟩
        obtain ⟨x3, hx3⟩ : ∃ x, x = l[k].2 := ⟨_, rfl⟩
        rw [← hx2] at c0 hcmp; rw [← hx3] at c1
        clear hx2 hx3 hn
        go_wp2
        go_roundw
        case rel => exact ⟨k + 1, by omega, by go_num, Lib.hid (by rw [HT2.out]; exact HO.out.alloc _), hB.alloc hsz _⟩
        case measure => simp [intOf]; omega
      | false =>
        have HT2 : Hid (fromP (l.take (k + 1)) key = fromP (l.take k) key ++ [l[k]]) := Lib.hid (by rw [HT.out, if_neg (by rw [show bLt l[k].1 key = false from hcmp]; decide)])
        have HRW : Hid (pairRow l[k] = [.string l[k].1, .string l[k].2]) := Lib.hid rfl
        clear HT
        obtain ⟨x2, hx2⟩ : ∃ x, x = l[k].1 := ⟨_, rfl⟩
        obtain ⟨x3, hx3⟩ : ∃ x, x = l[k].2 := ⟨_, rfl⟩
        rw [← hx2] at c0 hcmp HRW; rw [← hx3] at c1 HRW
        clear hx2 hx3
        go_wp2_with (at_builtin; refine wp_append_row rfl _ _ 43 rfl w.heap.size 49 Try.underlying43 (.agg #[.string ByteArray.empty, .string ByteArray.empty]) 2 32 info_pair rfl (by decide) (by decide) _ _ (fromP (l.take k) key).length _ rfl ((HO.out.alloc _).alloc _) #[.string x2, .string x3] (wr.heap.size + 1) (heap_new (by simp)) rfl (by simp [Value.oneCell']) rfl (by omega) (by simp; omega) ?_; intro v' w4 hown1 hB4; have HO1 := Lib.hid hown1; clear hown1)
        go_roundw
        case rel => exact ⟨k + 1, by omega, by go_num, Lib.hid (by rw [HT2.out, List.length_append, List.length_singleton, List.flatMap_append, List.flatMap_singleton, HRW.out]; exact HO1.out), ((hB.alloc hsz _).alloc (by simp; omega) _).trans hB4⟩
        case measure => simp [intOf]; omega
    · have HT := Lib.hid (show l.take k = l by rw [List.take_of_length_le (by omega)])
      have ho := HO.out
      rw [HT.out] at ho
      obtain ⟨a1, c1, rfl, hr1, hc1, hn1⟩ := own_rowsC (enc := pairRow) ho (fun _ => rfl)
      have HR1 := Lib.hid (And.intro hr1 (And.intro hc1 hn1))
      clear ho hr1 HO hc1 hn1
      go_wp2
      go_ret
      exact ⟨a1, c1, rfl, HR1.out.1, HR1.out.2, hB⟩
end Go.Proofs.Ytacgpflheokkaaa
