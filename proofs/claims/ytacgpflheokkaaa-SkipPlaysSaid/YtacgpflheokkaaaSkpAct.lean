/-
  Scripts of Puts: the records, Light; the shadow's Down: by contract.
-/
import Derived.Test.YtacgpflheokkaaaRecs
import Derived.Test.YtacgpflheokkaaaSkpDown
import Derived.Test.YtacgpflheokkaaaSkpRefPut
namespace Go.Proofs.Ytacgpflheokkaaa
open Go.RowKit Go.Shelf
set_option linter.unusedVariables false
set_option linter.unusedSimpArgs false

def intRow (n : Int) : List Value := [.int .i64 n]
def I64 (n : Int) : Prop := -9223372036854775808 ≤ n ∧ n ≤ 9223372036854775807
theorem intRow_of (v : Value) (h : (Sc.int .i64).ok v) : ∃ n, intRow n = [v] ∧ I64 n := by
  obtain ⟨n, rfl, hw⟩ := h
  simp only [Lit.wf, Bool.and_eq_true, decide_eq_true_eq] at hw
  exact ⟨n, rfl, hw⟩
theorem ints_at {w : World} {a : Option Addr} {l : List Int} (h : RowsAt w a 1 intRow l) (i : Nat) (hi : i < l.length) : ∃ b o, a = some ⟨b, o, none⟩ ∧ w.cell? ⟨b, o + i, none⟩ = some (.int .i64 l[i]) := h.one (f := fun n => .int .i64 n) (fun _ => rfl) i hi
theorem act_cells {w : World} {a : Option Addr} {l : List Act7R} (h : RowsAt w a 3 Act7R.row l) (i : Nat) (hi : i < l.length) : ∃ b o, a = some ⟨b, o, none⟩ ∧
    w.cell? ⟨b, o + i * 3, none⟩ = some (.string l[i].key) ∧ w.cell? ⟨b, o + i * 3 + 1, none⟩ = some (.string l[i].value) ∧ w.cell? ⟨b, o + i * 3 + 2, none⟩ = some (.int .i64 l[i].height) := by
  obtain ⟨b, o, e, hc⟩ := h.at_ i hi
  exact ⟨b, o, e, hc 0 _ rfl, hc 1 _ rfl, hc 2 _ rfl⟩
def Light7 (l : List Act7R) : Prop := ∀ c ∈ l, l.length ≤ 80 ∧ c.key.size ≤ 300 ∧ c.value.size ≤ 300

set_option maxRecDepth 100000 in
set_option maxHeartbeats 4000000 in
theorem law07_light (l : List Act7R) (A : Option Addr) (cap : Nat) (w : World) (hr : RowsAt w A 3 Act7R.row l) (hlen : l.length ≤ 9223372036854775807) :
    Calls Try.prog 13 #[.slice A l.length cap, .int .i64 80] w fun e w' => ∃ b, e = .returned (.bool b) ∧ (b = true ↔ Light7 l) ∧ Below w.heap.size w w' := by
  have HR := Lib.hid hr
  clear hr
  go_enter Try.func13, Try.ntmps13
  go_wp2
  go_loopw [9] (fun v9 wr => ∃ k : Nat, k ≤ l.length ∧ v9 = .int .i64 (k : Int) ∧ Hid (∀ c ∈ l.take k, l.length ≤ 80 ∧ c.key.size ≤ 300 ∧ c.value.size ≤ 300) ∧ Below w.heap.size w wr) (fun v _ => l.length - (intOf v).toNat)
  case atStart => exact ⟨0, by omega, rfl, Lib.hid (by simp), Below.refl _ _⟩
  case round =>
    obtain ⟨k, hk, rfl, HD, hB⟩ := hrel
    by_cases hlt : k < l.length
    · obtain ⟨b, o, rfl, c0, c1, c2⟩ := act_cells (HR.out.moved hB) k hlt
      have HT2 : Hid (l.take (k + 1) = l.take k ++ [l[k]]) := Lib.hid (List.take_succ_eq_append_getElem hlt)
      have HM : Hid (l[k] ∈ l) := Lib.hid (List.getElem_mem hlt)
      obtain ⟨x, hx⟩ : ∃ x, x = l[k] := ⟨_, rfl⟩
      rw [← hx] at c0 c1 c2 HT2 HM
      clear hx
      obtain ⟨x0, x1, x2⟩ := x
      simp only at c0 c1 c2
      by_cases h1 : 80 < l.length
      · have E : Hid (¬ Light7 l) := Lib.hid (fun h => by have := (h _ HM.out).1; omega)
        clear HD
        go_wp2
        go_ret
        first | exact .inl ⟨rfl, E.out, hB.alloc hB.size _⟩ | exact ⟨false, rfl, ⟨fun h => by (cases h), fun h => absurd h E.out⟩, hB.alloc hB.size _⟩
      by_cases h2 : 300 < x0.size
      · have E : Hid (¬ Light7 l) := Lib.hid (fun h => by have := (h _ HM.out).2.1; simp only at this; omega)
        clear HD
        go_wp2
        go_ret
        first | exact .inl ⟨rfl, E.out, hB.alloc hB.size _⟩ | exact ⟨false, rfl, ⟨fun h => by (cases h), fun h => absurd h E.out⟩, hB.alloc hB.size _⟩
      by_cases h3 : 300 < x1.size
      · have E : Hid (¬ Light7 l) := Lib.hid (fun h => by have := (h _ HM.out).2.2; simp only at this; omega)
        clear HD
        go_wp2
        go_ret
        first | exact .inl ⟨rfl, E.out, hB.alloc hB.size _⟩ | exact ⟨false, rfl, ⟨fun h => by (cases h), fun h => absurd h E.out⟩, hB.alloc hB.size _⟩
      · have HD2 : Hid (∀ c ∈ l.take (k + 1), l.length ≤ 80 ∧ c.key.size ≤ 300 ∧ c.value.size ≤ 300) := Lib.hid (by
          intro c hc
          rw [HT2.out] at hc
          rcases List.mem_append.1 hc with hc | hc
          · exact HD.out c hc
          · simp only [List.mem_singleton] at hc
            subst hc
            exact ⟨by omega, by simp only; omega, by simp only; omega⟩)
        clear HD HT2 HM
        go_wp2
        go_roundw
        case rel => exact ⟨k + 1, by omega, by go_num, HD2, hB.alloc hB.size _⟩
        case measure => simp [intOf]; omega
    · obtain rfl : k = l.length := by omega
      go_wp2
      go_ret
      first | exact .inr ⟨rfl, by (have h := HD.out; rw [List.take_length] at h; exact h), hB⟩ | exact ⟨true, rfl, ⟨fun _ => by (have h := HD.out; rw [List.take_length] at h; exact h), fun _ => rfl⟩, hB⟩

theorem downP_drop (l : List PairS) (key : ByteArray) (k : Nat) (hk : k < l.length) : downP (l.drop k) key = downP (l.drop (k + 1)) key ++ (if key = ByteArray.empty ∨ bLt key l[k].1 = false then [l[k]] else []) := by
  unfold downP
  rw [List.drop_eq_getElem_cons hk, List.reverse_cons, List.filter_append]
  congr 1
  by_cases h1 : key = ByteArray.empty
  · rw [if_pos (.inl h1), List.filter_cons_of_pos (by simp [h1])]; rfl
  · cases h2 : bLt key l[k].1 with
    | true => rw [if_neg (by simp [h1]), List.filter_cons_of_neg (by simp [h1, h2])]; rfl
    | false => rw [if_pos (.inr rfl), List.filter_cons_of_pos (by simp [h2])]; rfl
theorem downP_len (l : List PairS) (key : ByteArray) : (downP l key).length ≤ l.length := by
  unfold downP
  have h := List.length_filter_le (fun x : PairS => decide (key = ByteArray.empty) || !bLt key x.1) l.reverse
  rwa [List.length_reverse] at h
set_option maxRecDepth 100000 in
set_option maxHeartbeats 4000000 in
theorem ref07_down (l : List PairS) (A : Option Addr) (c : Nat) (key : ByteArray) (w : World) (hr : RowsAt w A 2 pairRow l) (hl : l.length ≤ 100000000) :
    Calls Try.prog 24 #[.slice A l.length c, .string key] w fun e w' => ∃ a c', e = .returned (.slice a (downP l key).length c') ∧ RowsAt w' a 2 pairRow (downP l key) ∧ ((downP l key).length ≤ c' ∧ ∀ b o, a = some ⟨b, o, none⟩ → w.heap.size ≤ b) ∧ Below w.heap.size w w' := by
  have HR := Lib.hid hr
  clear hr
  go_enter Try.func24, Try.ntmps24
  obtain ⟨kb, hkb⟩ : ∃ kb, key.toList.isEmpty = kb := ⟨_, rfl⟩
  have HKB : Hid (kb = true ↔ key = ByteArray.empty) := Lib.hid (by
    rw [← hkb, List.isEmpty_iff]
    exact ⟨fun h => ba_inj (by rw [h, ByteArray.toList_eq]; rfl), fun h => by rw [h, ByteArray.toList_eq]; rfl⟩)
  go_wp2
  go_loopw [5, 6] (fun v5 v6 wr => ∃ k : Nat, k ≤ l.length ∧ v6 = .int .i64 ((k : Int) - 1) ∧ Hid (wr.ownsRow w.heap.size 49 2 v5 (downP (l.drop k) key).length ((downP (l.drop k) key).flatMap pairRow)) ∧ Below w.heap.size w wr) (fun _ v _ => (intOf v + 1).toNat)
  case atStart => exact ⟨l.length, by omega, by go_num, Lib.hid (by rw [List.drop_length]; exact own_none), Below.refl _ _⟩
  case round =>
    obtain ⟨k', hk', rfl, HO, hB⟩ := hrel
    have hsz := hB.size
    cases k' with
    | zero =>
      have ho := HO.out
      rw [List.drop_zero] at ho
      obtain ⟨a1, c1, rfl, hr1, hc1, hn1⟩ := own_rowsC (enc := pairRow) ho (fun _ => rfl)
      have HR1 := Lib.hid (And.intro hr1 (And.intro hc1 hn1))
      clear ho hr1 HO hc1 hn1
      go_wp2
      go_ret
      exact ⟨a1, c1, rfl, HR1.out.1, HR1.out.2, hB⟩
    | succ k =>
      have hlt : k < l.length := by omega
      obtain ⟨b, o, rfl, c0, c1⟩ := pair_cells (HR.out.moved hB) k hlt
      have HT := Lib.hid (downP_drop l key k hlt)
      have hn := downP_len (l.drop (k + 1)) key
      rw [List.length_drop] at hn
      have e0 : ((k + 1 : Nat) : Int) - 1 = (k : Int) := by omega
      rw [e0]
      have HRW : Hid (pairRow l[k] = [.string l[k].1, .string l[k].2]) := Lib.hid rfl
      clear e0
      by_cases hyes : key = ByteArray.empty ∨ bLt key l[k].1 = false
      · have HT2 : Hid (downP (l.drop k) key = downP (l.drop (k + 1)) key ++ [l[k]]) := Lib.hid (by rw [HT.out, if_pos hyes])
        obtain ⟨x2, hx2⟩ : ∃ x, x = l[k].1 := ⟨_, rfl⟩
        obtain ⟨x3, hx3⟩ : ∃ x, x = l[k].2 := ⟨_, rfl⟩
        rw [← hx2] at c0 hyes HRW; rw [← hx3] at c1 HRW
        clear hx2 hx3 HT
        have hw : kb = true ∨ kb = false ∧ (x2 = key ∨ bLt x2 key = true) := by
          cases kb with
          | true => exact .inl rfl
          | false =>
            refine .inr ⟨rfl, ?_⟩
            rcases hyes with h | h
            · exact absurd (HKB.out.2 h) (by decide)
            · rcases bLt_total x2 key with h2 | h2 | h2
              · exact .inr h2
              · exact .inl h2
              · rw [h] at h2; cases h2
        clear hyes
        rcases hw with rfl | ⟨rfl, hx | hx⟩
        · go_wp2_with (at_builtin; refine wp_append_row rfl _ _ 43 rfl w.heap.size 49 Try.underlying43 (.agg #[.string ByteArray.empty, .string ByteArray.empty]) 2 32 info_pair rfl (by decide) (by decide) _ _ (downP (l.drop (k + 1)) key).length _ rfl (HO.out.alloc _) #[.string x2, .string x3] wr.heap.size (heap_alloc_new _ _) rfl (by simp [Value.oneCell']) rfl (by omega) (by simp; omega) ?_; intro v' w4 hown1 hB4; have HO1 := Lib.hid hown1; clear hown1)
          go_roundw
          case rel => exact ⟨k, by omega, by go_num, Lib.hid (by rw [HT2.out, List.length_append, List.length_singleton, List.flatMap_append, List.flatMap_singleton, HRW.out]; exact HO1.out), (hB.alloc hsz _).trans hB4⟩
          case measure => simp [intOf] <;> omega
        · have q1 : Op.bytesLess x2.toList key.toList = false := by rw [hx]; exact bLt_irrefl key
          have q2 := str_bb hx
          clear hx
          go_wp2_with (at_builtin; refine wp_append_row rfl _ _ 43 rfl w.heap.size 49 Try.underlying43 (.agg #[.string ByteArray.empty, .string ByteArray.empty]) 2 32 info_pair rfl (by decide) (by decide) _ _ (downP (l.drop (k + 1)) key).length _ rfl (HO.out.alloc _) #[.string x2, .string x3] wr.heap.size (heap_alloc_new _ _) rfl (by simp [Value.oneCell']) rfl (by omega) (by simp; omega) ?_; intro v' w4 hown1 hB4; have HO1 := Lib.hid hown1; clear hown1)
          go_roundw
          case rel => exact ⟨k, by omega, by go_num, Lib.hid (by rw [HT2.out, List.length_append, List.length_singleton, List.flatMap_append, List.flatMap_singleton, HRW.out]; exact HO1.out), (hB.alloc hsz _).trans hB4⟩
          case measure => simp [intOf] <;> omega
        · have q1 : Op.bytesLess x2.toList key.toList = true := hx
          have q2 := str_nb (bLt_ne hx)
          clear hx
          go_wp2_with (at_builtin; refine wp_append_row rfl _ _ 43 rfl w.heap.size 49 Try.underlying43 (.agg #[.string ByteArray.empty, .string ByteArray.empty]) 2 32 info_pair rfl (by decide) (by decide) _ _ (downP (l.drop (k + 1)) key).length _ rfl (HO.out.alloc _) #[.string x2, .string x3] wr.heap.size (heap_alloc_new _ _) rfl (by simp [Value.oneCell']) rfl (by omega) (by simp; omega) ?_; intro v' w4 hown1 hB4; have HO1 := Lib.hid hown1; clear hown1)
          go_roundw
          case rel => exact ⟨k, by omega, by go_num, Lib.hid (by rw [HT2.out, List.length_append, List.length_singleton, List.flatMap_append, List.flatMap_singleton, HRW.out]; exact HO1.out), (hB.alloc hsz _).trans hB4⟩
          case measure => simp [intOf] <;> omega
      · have HT2 : Hid (downP (l.drop k) key = downP (l.drop (k + 1)) key) := Lib.hid (by rw [HT.out, if_neg hyes, List.append_nil])
        obtain ⟨x2, hx2⟩ : ∃ x, x = l[k].1 := ⟨_, rfl⟩
        obtain ⟨x3, hx3⟩ : ∃ x, x = l[k].2 := ⟨_, rfl⟩
        rw [← hx2] at c0 hyes; rw [← hx3] at c1
        clear hx2 hx3 HT HRW
        have h3 : bLt key x2 = true := by
          cases h : bLt key x2 with
          | true => rfl
          | false => exact absurd (.inr h) hyes
        have q1 : Op.bytesLess x2.toList key.toList = false := bLt_asymm h3
        have q2 := str_nb (fun e : x2 = key => bLt_ne h3 e.symm)
        have hkf : kb = false := by
          cases kb with
          | true => exact absurd (.inl (HKB.out.1 rfl)) hyes
          | false => rfl
        subst hkf
        clear hyes h3
        go_wp2
        go_roundw
        case rel => exact ⟨k, by omega, by go_num, Lib.hid (by rw [HT2.out]; exact HO.out), hB⟩
        case measure => simp [intOf] <;> omega
end Go.Proofs.Ytacgpflheokkaaa
