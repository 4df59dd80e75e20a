/-
  key.Make by contract, over the contract of its parts' bytes.
-/
import Derived.Test.YtafdjgmdkbimoaaDoorKeyPart
namespace Go.Proofs.YtafdjgmdkbimoaaDoor
open Go.RowKit
set_option linter.unusedVariables false
set_option linter.unusedSimpArgs false

/-- a row's bytes, behind what is there -/
def makeGo : List PartR → List UInt8 → List UInt8 × Int
  | [], acc => (acc, 0)
  | p :: ps, acc => match partB p with
    | none => ([], 11)
    | some t => if 200 < (acc ++ t).length then ([], 5) else makeGo ps (acc ++ t)
/-- what a part's bytes answer -/
def partS (p : PartR) : ByteArray := str ((partB p).getD [])
def partOk (p : PartR) : Bool := (partB p).isSome
theorem row4_at {w : World} {A : Option Addr} {l : List PartR} (h : RowsAt w A 4 PartR.row l) (i : Nat) (hi : i < l.length) :
    ∃ b o, A = some ⟨b, o, none⟩ ∧ w.cell? ⟨b, o + i * 4, none⟩ = some (.int .u8 l[i].sort) ∧ w.cell? ⟨b, o + i * 4 + 1, none⟩ = some (.int .i64 l[i].n) ∧ w.cell? ⟨b, o + i * 4 + 2, none⟩ = some (.int .u64 l[i].u) ∧ w.cell? ⟨b, o + i * 4 + 3, none⟩ = some (.string l[i].s) := by
  obtain ⟨b, o, e, hc⟩ := h.at_ i hi
  exact ⟨b, o, e, hc 0 _ rfl, hc 1 _ rfl, hc 2 _ rfl, hc 3 _ rfl⟩
theorem zero_part (w : World) : (zeroValue 51).run Tryd.prog w = .ok (.agg (cells4 0 0 0 ByteArray.empty)) w := by kernel_rfl

theorem partB_ne {p : PartR} {v : List UInt8} (h : partB p = some v) : v ≠ [] := by
  unfold partB at h
  split at h
  · simp at h; subst h; simp
  split at h
  · simp at h; subst h; simp
  split at h
  · simp at h; subst h; simp
  split at h
  · simp at h; subst h; simp
  · simp at h

set_option maxRecDepth 100000 in
set_option maxHeartbeats 4000000 in
theorem key_make (l : List PartR) (A : Option Addr) (c : Nat) (w : World) (hr : RowsAt w A 4 PartR.row l) (hl : l.length ≤ 9223372036854775807)
    (PB : ∀ p ∈ l, ∀ wx, Below w.heap.size w wx → Calls Tryd.prog 42 #[.agg (cells4 p.sort p.n p.u p.s)] wx fun e w' => e = .returned (.tuple #[.string (partS p), .bool (partOk p)]) ∧ Below wx.heap.size wx w')
    (hsz : ∀ p ∈ l, (partS p).size ≤ 1000) :
    Calls Tryd.prog 30 #[.slice A l.length c] w fun e w' => e = .returned (.tuple #[.string (str (makeGo l []).1), .int .i64 (makeGo l []).2]) ∧ Below w.heap.size w w' := by
  have HR := Lib.hid hr
  have HP := Lib.hid PB
  have HZ := Lib.hid hsz
  obtain ⟨t, ht⟩ : ∃ t, t = makeGo l [] := ⟨_, rfl⟩
  rw [← ht]
  have HT := Lib.hid ht
  clear hr PB hsz ht
  go_enter Tryd.func30, Tryd.ntmps30
  go_wp2
  have hB0 : Below w.heap.size w (w.alloc (.cells #[.pointer none, .slice none 0 0] 81)) := by (repeat (first | exact Below.refl _ _ | assumption | apply below_drewN | (refine Below.alloc ?_ (by first | assumption | omega | (simp; try omega)) _)))
  have HS0 := Lib.hid (Bld.fresh w w.heap.size (Nat.le_refl _))
  go_loopw [11] (fun v11 wr => ∃ (j : Nat) (acc : List UInt8), j ≤ l.length ∧ v11 = .int .i64 j ∧ Below w.heap.size w wr ∧ Hid (Bld w.heap.size w.heap.size acc wr) ∧ acc.length ≤ 200 ∧ Hid (makeGo (l.drop j) acc = t) ∧ Hid (acc = [] → j = 0 ∧ wr.heap[w.heap.size]? = some (.cells #[.pointer none, .slice none 0 0] 81 (0, 0)))) (fun v _ => l.length - (intOf v).toNat)
  case atStart => exact ⟨0, [], Nat.zero_le _, rfl, hB0, HS0, by simp, Lib.hid HT.out.symm, Lib.hid fun _ => ⟨rfl, heap_alloc_new _ _⟩⟩
  case round =>
    clear hB0 HS0
    obtain ⟨j, acc, hj, rfl, hB, HS, ha, HM, HE⟩ := hrel
    by_cases hlt : j < l.length
    · obtain ⟨b, o, rfl, k0, k1, k2, k3⟩ := row4_at (HR.out.moved hB) j hlt
      obtain ⟨p, hp⟩ : ∃ p, p = l[j] := ⟨_, rfl⟩
      have HIN : Hid (p ∈ l) := Lib.hid (by rw [hp]; exact List.getElem_mem hlt)
      rw [← hp] at k0 k1 k2 k3
      have HM2 : Hid (t = match partB p with | none => ([], 11) | some u => if 200 < (acc ++ u).length then ([], 5) else makeGo (l.drop (j + 1)) (acc ++ u)) := Lib.hid (by
        rw [← HM.out, List.drop_eq_getElem_cons hlt, ← hp]; rfl)
      have PB : Hid (∀ wx, (Below w.heap.size w wx ∧ Bld w.heap.size w.heap.size acc wx) → Calls Tryd.prog 42 #[.agg (cells4 p.sort p.n p.u p.s)] wx fun e w' => e = .returned (.tuple #[.string (partS p), .bool (partOk p)]) ∧ (Below w.heap.size w w' ∧ Bld w.heap.size w.heap.size acc w')) := Lib.hid fun wx ⟨h1, h2⟩ =>
        (HP.out p HIN.out wx h1).mono fun _ _ ⟨h3, h4⟩ => ⟨h3, below_at h1 h4, h2.moved h4⟩
      obtain ⟨a, n, u, s⟩ := p
      simp only at k0 k1 k2 k3 PB
      cases hb : partB ⟨a, n, u, s⟩ with
      | none =>
        have HF : Hid (t = ([], 11)) := Lib.hid (by rw [HM2.out, hb])
        rw [show partOk ⟨a, n, u, s⟩ = false from by unfold partOk; rw [hb]; rfl] at PB
        clear hp hb HM2 HM
        go_wp2_with (go_at_call 42; refine (PB.out _ ⟨hB.alloc hB.size _, HS.out.moved ((Below.refl _ _).alloc (Nat.le_refl _) _)⟩).mono ?_; rintro e w1 ⟨rfl, hB1, hS1⟩)
        go_ret2
        exact ⟨by rw [HF.out]; rfl, hB1⟩
      | some v =>
        have hvne : v ≠ [] := partB_ne hb
        have HV : Hid (partS ⟨a, n, u, s⟩ = str v) := Lib.hid (by unfold partS; rw [hb]; rfl)
        have hvl : v.length ≤ 1000 := by have h := HZ.out _ HIN.out; rw [HV.out, str_size] at h; exact h
        rw [show partOk ⟨a, n, u, s⟩ = true from by unfold partOk; rw [hb]; rfl, HV.out] at PB
        have HF : Hid (t = if 200 < (acc ++ v).length then ([], 5) else makeGo (l.drop (j + 1)) (acc ++ v)) := Lib.hid (by rw [HM2.out, hb])
        have WS : Hid (∀ wx, (Below w.heap.size w wx ∧ Bld w.heap.size w.heap.size acc wx) → Calls Tryd.prog 43 #[.pointer (some ⟨w.heap.size, 0, none⟩), .string (str v)] wx fun e w' => e = .returned (.tuple #[.int .i64 (str v).size, .nilIface]) ∧ (Below w.heap.size w w' ∧ Bld w.heap.size w.heap.size (acc ++ v) w')) := Lib.hid fun wx ⟨h1, h2⟩ => by
          have h := bld_str w.heap.size w.heap.size acc (str v) wx h2 (by rw [str_size]; omega) h1.size
          rw [str_data] at h
          exact h.mono fun _ _ ⟨h3, h4, h5⟩ => ⟨h3, h1.trans h5, h4⟩
        obtain ⟨m, hm⟩ : ∃ m : Nat, m = (acc ++ v).length := ⟨_, rfl⟩
        have LN : Hid (∀ wx, Bld w.heap.size w.heap.size (acc ++ v) wx → Calls Tryd.prog 44 #[.pointer (some ⟨w.heap.size, 0, none⟩)] wx fun e w' => e = .returned (.int .i64 (m : Int)) ∧ w' = wx) := Lib.hid fun wx h => by rw [hm]; exact bld_len _ _ _ wx h
        rw [← hm] at HF
        have HM3 := Lib.hid hm
        have hml : m ≤ 1200 := by rw [hm, List.length_append]; omega
        have HNE : Hid (acc ++ v ≠ []) := Lib.hid (by simp [hvne])
        obtain ⟨q, hq⟩ : ∃ q, q = acc ++ v := ⟨_, rfl⟩
        rw [← hq] at WS LN HF HM3 HNE
        clear hp hb HM2 HM hvne hm hq HV
        by_cases h200 : 200 < m
        · have HG : Hid (t = ([], 5)) := Lib.hid (by rw [HF.out, if_pos h200])
          go_wp2_with (first | (go_at_call 42; refine (PB.out _ ⟨hB.alloc hB.size _, HS.out.moved ((Below.refl _ _).alloc (Nat.le_refl _) _)⟩).mono ?_; rintro e w1 ⟨rfl, hB1, hS1⟩) | (go_at_call 43; refine (WS.out _ ⟨hB1, hS1⟩).mono ?_; rintro e w2 ⟨rfl, hB2, hS2⟩) | (go_at_call 44; refine (LN.out _ hS2).mono ?_; rintro e w3 ⟨rfl, rfl⟩))
          go_ret2
          exact ⟨by rw [HG.out]; rfl, hB2⟩
        · have HG : Hid (makeGo (l.drop (j + 1)) q = t) := Lib.hid (by rw [HF.out, if_neg h200])
          go_wp2_with (first | (go_at_call 42; refine (PB.out _ ⟨hB.alloc hB.size _, HS.out.moved ((Below.refl _ _).alloc (Nat.le_refl _) _)⟩).mono ?_; rintro e w1 ⟨rfl, hB1, hS1⟩) | (go_at_call 43; refine (WS.out _ ⟨hB1, hS1⟩).mono ?_; rintro e w2 ⟨rfl, hB2, hS2⟩) | (go_at_call 44; refine (LN.out _ hS2).mono ?_; rintro e w3 ⟨rfl, rfl⟩))
          go_roundw
          case rel => exact ⟨j + 1, q, by omega, by go_num, hB2, Lib.hid hS2, by rw [← HM3.out]; omega, HG, Lib.hid fun h => absurd h HNE.out⟩
          case measure => simp [intOf]; omega
    · have HF : Hid (t = (acc, 0)) := Lib.hid (by rw [← HM.out, List.drop_of_length_le (by omega)]; rfl)
      by_cases hn : acc = []
      · have ST := Lib.hid (bld_string_none w.heap.size w.heap.size _ wr (HE.out hn).2)
        have HN := Lib.hid hn
        clear hn
        go_wp2_with (go_at_call 45; refine ST.out.mono ?_; rintro e w1 ⟨rfl, hB1⟩)
        go_ret2
        exact ⟨by rw [HF.out, HN.out]; rfl, hB.trans hB1⟩
      · have ST := Lib.hid (bld_string w.heap.size w.heap.size acc wr HS.out hn)
        clear hn
        go_wp2_with (go_at_call 45; refine ST.out.mono ?_; rintro e w1 ⟨rfl, hB1⟩)
        go_ret2
        exact ⟨by rw [HF.out]; rfl, hB.trans hB1⟩

end Go.Proofs.YtafdjgmdkbimoaaDoor
