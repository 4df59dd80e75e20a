/-
  The shadow's Get and Bytes over pairs in memory: by contract.
-/
import Derived.Test.YtacgpflheokkaaaSkpRow
import Derived.Test.YtacgpflheokkaaaSkpPairs
namespace Go.Proofs.Ytacgpflheokkaaa
open Go.RowKit Go.Shelf
set_option linter.unusedVariables false
set_option linter.unusedSimpArgs false

theorem pair_cells {w : World} {a : Option Addr} {l : List PairS} (h : RowsAt w a 2 pairRow l) (i : Nat) (hi : i < l.length) : ∃ b o, a = some ⟨b, o, none⟩ ∧
    w.cell? ⟨b, o + i * 2, none⟩ = some (.string l[i].1) ∧ w.cell? ⟨b, o + i * 2 + 1, none⟩ = some (.string l[i].2) := by
  obtain ⟨b, o, e, hc⟩ := h.at_ i hi
  exact ⟨b, o, e, hc 0 _ rfl, hc 1 _ rfl⟩
def getP (l : List PairS) (key : ByteArray) : Option PairS := l.find? fun x => decide (x.1 = key)
def getPV (l : List PairS) (key : ByteArray) : ByteArray := ((getP l key).map (·.2)).getD ByteArray.empty
def bytesP (l : List PairS) : Int := l.foldl (fun s x => s + (x.1.size : Int) + (x.2.size : Int)) 0
theorem bytesP_take (l : List PairS) (k : Nat) (h : k < l.length) : bytesP (l.take (k + 1)) = bytesP (l.take k) + (l[k].1.size : Int) + (l[k].2.size : Int) := by
  unfold bytesP; rw [List.take_succ_eq_append_getElem h, List.foldl_append]; rfl
theorem bytesP_bound (l : List PairS) (h : ∀ x ∈ l, x.1.size ≤ 1000000000 ∧ x.2.size ≤ 1000000000) (k : Nat) (hk : k ≤ l.length) : 0 ≤ bytesP (l.take k) ∧ bytesP (l.take k) ≤ 2000000000 * (k : Int) := by
  induction k with
  | zero => simp [bytesP]
  | succ k ih =>
    obtain ⟨a, b⟩ := ih (by omega)
    have hx := h l[k] (List.getElem_mem (by omega))
    rw [bytesP_take l k (by omega)]
    omega

set_option maxRecDepth 100000 in
set_option maxHeartbeats 4000000 in
theorem ref07_get (l : List PairS) (A : Option Addr) (c : Nat) (key : ByteArray) (w : World) (hr : RowsAt w A 2 pairRow l) (hl : l.length ≤ 1000000000) :
    Calls Try.prog 19 #[.slice A l.length c, .string key] w fun e w' => e = .returned (.tuple #[.string (getPV l key), .bool (getP l key).isSome]) ∧ Below w.heap.size w w' := by
  have HR := Lib.hid hr
  clear hr
  go_enter Try.func19, Try.ntmps19
  go_wp2
  go_loopw [10] (fun v10 wr => ∃ k : Nat, k ≤ l.length ∧ v10 = .int .i64 (k : Int) ∧ Hid (∀ x ∈ l.take k, x.1 ≠ key) ∧ Below w.heap.size w wr) (fun v _ => l.length - (intOf v).toNat)
  case atStart => exact ⟨0, by omega, rfl, Lib.hid (by simp), Below.refl _ _⟩
  case round =>
    obtain ⟨k, hk, rfl, HN, hB⟩ := hrel
    by_cases hlt : k < l.length
    · obtain ⟨b, o, rfl, c0, c1⟩ := pair_cells (HR.out.moved hB) k hlt
      have hsz := hB.size
      by_cases hkey : l[k].1 = key
      · have HV : Hid (getP l key = some l[k]) := Lib.hid (by
          unfold getP
          rw [List.find?_eq_some_iff_append]
          exact ⟨by simpa using hkey, l.take k, l.drop (k + 1), by rw [List.getElem_cons_drop, List.take_append_drop], fun x hx => by simpa using HN.out x hx⟩)
        have HPV : Hid (getPV l key = l[k].2 ∧ (getP l key).isSome = true) := Lib.hid (by unfold getPV; rw [HV.out]; exact ⟨rfl, rfl⟩)
        have BB := str_bb hkey
        obtain ⟨x2, hx2⟩ : ∃ x, x = l[k].1 := ⟨_, rfl⟩
        obtain ⟨x3, hx3⟩ : ∃ x, x = l[k].2 := ⟨_, rfl⟩
        rw [← hx2] at c0 BB; rw [← hx3] at c1 HPV
        clear hx2 hx3 hkey
        go_wp2
        go_ret2
        exact ⟨by rw [HPV.out.1, HPV.out.2]; rfl, hB.alloc hsz _⟩
      · have HN2 : Hid (∀ x ∈ l.take (k + 1), x.1 ≠ key) := Lib.hid (by
          intro x hx
          rw [List.take_succ_eq_append_getElem hlt] at hx
          rcases List.mem_append.1 hx with hx | hx
          · exact HN.out x hx
          · simp at hx; subst hx; exact hkey)
        have BB := str_nb hkey
        obtain ⟨x2, hx2⟩ : ∃ x, x = l[k].1 := ⟨_, rfl⟩
        obtain ⟨x3, hx3⟩ : ∃ x, x = l[k].2 := ⟨_, rfl⟩
        rw [← hx2] at c0 BB; rw [← hx3] at c1
        clear hx2 hx3 hkey
        go_wp2
        go_roundw
        case rel => exact ⟨k + 1, by omega, by go_num, HN2, hB.alloc hsz _⟩
        case measure => simp [intOf]; omega
    · have HV : Hid (getP l key = none) := Lib.hid (by
        unfold getP
        rw [List.find?_eq_none]
        intro x hx
        have h := HN.out x (by rw [List.take_of_length_le (by omega)]; exact hx)
        simpa using h)
      go_wp2
      go_ret2
      exact ⟨by unfold getPV; rw [HV.out]; rfl, hB⟩
set_option maxRecDepth 100000 in
set_option maxHeartbeats 4000000 in
theorem ref07_bytes (l : List PairS) (A : Option Addr) (c : Nat) (w : World) (hr : RowsAt w A 2 pairRow l) (hl : l.length ≤ 100000) (hz : ∀ x ∈ l, x.1.size ≤ 1000000000 ∧ x.2.size ≤ 1000000000) :
    Calls Try.prog 21 #[.slice A l.length c] w fun e w' => e = .returned (.int .i64 (bytesP l)) ∧ Below w.heap.size w w' := by
  have HR := Lib.hid hr
  have HZ := Lib.hid hz
  clear hr hz
  go_enter Try.func21, Try.ntmps21
  go_wp2
  go_loopw [3, 8] (fun v3 v8 wr => ∃ k : Nat, k ≤ l.length ∧ v8 = .int .i64 (k : Int) ∧ v3 = .int .i64 (bytesP (l.take k)) ∧ Below w.heap.size w wr) (fun _ v _ => l.length - (intOf v).toNat)
  case atStart => exact ⟨0, by omega, rfl, by simp [bytesP], Below.refl _ _⟩
  case round =>
    obtain ⟨k, hk, rfl, rfl, hB⟩ := hrel
    obtain ⟨hb0, hb1⟩ := bytesP_bound l HZ.out k hk
    by_cases hlt : k < l.length
    · obtain ⟨b, o, rfl, c0, c1⟩ := pair_cells (HR.out.moved hB) k hlt
      have hsz := hB.size
      have HT := Lib.hid (bytesP_take l k hlt)
      have hx := HZ.out l[k] (List.getElem_mem hlt)
      obtain ⟨x2, hx2⟩ : ∃ x, x = l[k].1 := ⟨_, rfl⟩
      obtain ⟨x3, hx3⟩ : ∃ x, x = l[k].2 := ⟨_, rfl⟩
      obtain ⟨s, hs⟩ : ∃ x, x = bytesP (l.take k) := ⟨_, rfl⟩
      rw [← hx2] at c0 HT hx; rw [← hx3] at c1 HT hx
      rw [← hs] at hb0 hb1 HT ⊢
      clear hx2 hx3 hs
      obtain ⟨hz2, hz3⟩ := hx
      have hs1 : s ≤ 200000000000000 := by omega
      clear hb1
      go_wp2
      go_roundw
      case rel => exact ⟨k + 1, by omega, by go_num, by rw [HT.out], hB.alloc hsz _⟩
      case measure => simp [intOf]; omega
    · have HT := Lib.hid (show bytesP (l.take k) = bytesP l by rw [List.take_of_length_le (by omega)])
      obtain ⟨s, hs⟩ : ∃ x, x = bytesP (l.take k) := ⟨_, rfl⟩
      rw [← hs] at HT hb0 hb1 ⊢
      clear hs
      go_wp2
      go_ret
      exact ⟨by rw [← HT.out]; rfl, hB⟩
end Go.Proofs.Ytacgpflheokkaaa
