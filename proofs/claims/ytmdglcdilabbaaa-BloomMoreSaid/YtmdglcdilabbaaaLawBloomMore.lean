/-
  The walk of BloomMore: a key that may be there by one filter may by one of more keys of as many bits.
-/
import Derived.Test.YtmdglcdilabbaaaBloomAwake
import Derived.Test.YtmdglcdilabbaaaLawBloomMay
namespace Go.Proofs.Ytmdglcdilabbaaa
open Go.RowKit
set_option linter.unusedVariables false
set_option linter.unusedSimpArgs false

theorem info_str : (Try.prog.info? 9).map (fun i => (i.zero, i.size, i.bytes)) = some (some (.string ByteArray.empty), 1, 16) := by kernel_rfl
def strs (l : List ByteArray) : List Value := l.map Value.string

/-- the first key, so many times ahead of what stands behind -/
def firsts (l : List ByteArray) (k : ByteArray) (i : Nat) : List ByteArray := List.replicate i k ++ l.drop i
theorem firsts_length (l : List ByteArray) (k : ByteArray) (i : Nat) (h : i ≤ l.length) : (firsts l k i).length = l.length := by simp [firsts]; omega
theorem firsts_set (l : List ByteArray) (k : ByteArray) (i : Nat) (h : i < l.length) : (firsts l k i).set i k = firsts l k (i + 1) := by
  unfold firsts
  rw [List.set_append_right _ _ (by simp), List.length_replicate, Nat.sub_self, List.replicate_succ', List.append_assoc]
  congr 1
  rw [List.drop_eq_getElem_cons h]; rfl
theorem firsts_one (l : List ByteArray) (h : 0 < l.length) : firsts l l[0] 1 = l := by
  cases l with
  | nil => exact absurd h (by simp)
  | cons a l => rfl
theorem firsts_zero_at (l : List ByteArray) (k : ByteArray) (i : Nat) (h1 : 1 ≤ i) : (firsts l k i)[0]? = some k := by
  unfold firsts
  obtain ⟨m, rfl⟩ : ∃ m, i = m + 1 := ⟨i - 1, by omega⟩
  rfl

theorem strs_one : ∀ {l : List ByteArray}, ∀ u ∈ strs l, u.oneCell' = true := by
  intro l u hu
  unfold strs at hu
  obtain ⟨s, _, rfl⟩ := List.mem_map.mp hu
  rfl
theorem strs_cells {w : World} {b o : Nat} {l : List ByteArray} (h : RowsAt w (some ⟨b, o, none⟩) 1 strRow l) (j : Nat) (u : Value) (hj : (strs l)[j]? = some u) : w.cell? ((⟨b, o, none⟩ : Addr).add j) = some u := by
  unfold strs at hj
  rw [List.getElem?_map] at hj
  cases hq : l[j]? with
  | none => rw [hq] at hj; simp at hj
  | some s =>
    rw [hq] at hj
    simp at hj
    subst hj
    obtain ⟨hlt, hg⟩ := List.getElem?_eq_some_iff.1 hq
    obtain ⟨b', o', e, hc⟩ := strs_at h j hlt
    simp at e
    obtain ⟨rfl, rfl⟩ := e
    rw [WideShapes.add_plain, hc, hg]
theorem own_some {w : World} {base : Nat} {e : TypeId} {size : Nat} {v : Value} {n : Nat} {xs : List Value} (h : w.ownsRow base e size v n xs) (hn : 0 < n) : ∃ g cap, v = .slice (some ⟨g, 0, none⟩) n cap := by
  obtain ⟨_, h | ⟨g, cap, cur, hv, _⟩⟩ := h
  · omega
  · exact ⟨g, cap, hv⟩
theorem own_empty {w : World} {base : Nat} (e : TypeId) (hb : base ≤ w.heap.size) : (w.alloc (.cells #[] e)).ownsRow base e 1 (.slice (some ⟨w.heap.size, 0, none⟩) 0 0) 0 [] :=
  ⟨rfl, .inr ⟨w.heap.size, 0, #[], rfl, hb, heap_alloc_new _ _, Nat.le_refl _, by decide, rfl, rfl⟩⟩

set_option maxRecDepth 100000 in
set_option maxHeartbeats 8000000 in
theorem BloomMore_walk (A : Option Addr) (keys : List ByteArray) (c : Nat) (key : ByteArray) (w : World) (hr : RowsAt w A 1 strRow keys) (hk : ∀ k ∈ keys, k.size ≤ maxLen) (hc : keys.length ≤ c) (hm : c ≤ maxLen)
    (wk : key.size ≤ 140737488351232) :
    Calls Try.prog 5 #[.slice A keys.length c, .string key] w fun e w' => e = .returned (.bool true) ∧ Below w.heap.size w w' := by
  have hlen : keys.length ≤ 9223372036854775807 := Nat.le_trans hc hm
  have W0 : Below w.heap.size w w := Below.refl _ _
  have AW : Hid (∀ wx, Below w.heap.size w wx → Calls Try.prog 6 #[] wx fun e w' => e = .returned (.bool true) ∧ Below w.heap.size w w') := Lib.hid fun wx h => (awake09 wx).mono fun _ _ ⟨h1, h2⟩ => ⟨h1, below_at h h2⟩
  have LI : Hid (∀ wx, Below w.heap.size w wx → Calls Try.prog 7 #[.slice A keys.length c] wx fun e w' => e = .returned (.bool (lightB keys)) ∧ Below w.heap.size w w') := Lib.hid fun wx h => (light09 keys A c wx (hr.moved h) hlen hk).mono fun _ _ ⟨h1, h2⟩ => ⟨h1, below_at h h2.below⟩
  have HR := Lib.hid hr
  cases hl : lightB keys
  · rw [hl] at LI
    clear hk hr hl
    go_enter Try.func5, Try.ntmps5
    go_wp2_with (first | (go_at_call 6; (with_reducible refine (AW.out _ (by assumption)).mono ?_); rintro e w1 ⟨rfl, hB1⟩) | (go_at_call 7; (with_reducible refine (LI.out _ (by assumption)).mono ?_); rintro e w2 ⟨rfl, hB2⟩))
    go_ret
    exact ⟨rfl, hB2⟩
  · rw [hl] at LI
    obtain ⟨l1, l2⟩ := light_yes hl
    clear hl
    by_cases hbad : 300 < key.size ∨ keys.length < 2
    · clear hk hr l2
      have hcase : 300 < key.size ∨ (¬ 300 < key.size ∧ keys.length < 2) := by omega
      clear hbad
      rcases hcase with h | ⟨h, h2⟩ <;>
      · go_enter Try.func5, Try.ntmps5
        go_wp2_with (first | (go_at_call 6; (with_reducible refine (AW.out _ (by assumption)).mono ?_); rintro e w1 ⟨rfl, hB1⟩) | (go_at_call 7; (with_reducible refine (LI.out _ (by assumption)).mono ?_); rintro e w2 ⟨rfl, hB2⟩))
        go_ret
        exact ⟨rfl, hB2⟩
    · have hk3 : ¬ 300 < key.size := fun h => hbad (.inl h)
      have hn2 : ¬ keys.length < 2 := fun h => hbad (.inr h)
      clear hbad
      obtain ⟨b, o, rfl⟩ := hr.head (by intro h; rw [h] at hn2; simp at hn2)
      obtain ⟨nb, hnb⟩ : ∃ nb, nb = bitsS keys.length / 8 := ⟨_, rfl⟩
      have n0 : 8 ≤ nb ∧ nb ≤ 200 := by rw [hnb]; exact bitsS_bd _ l1
      obtain ⟨F, hF⟩ : ∃ F : ByteArray, F = str (makeB keys nb) := ⟨_, rfl⟩
      have FS : F.size = nb := by rw [hF, str_size, makeB_length]
      have MK : Hid (∀ wx, Below w.heap.size w wx → Calls Try.prog 9 #[.slice (some ⟨b, o, none⟩) keys.length c] wx fun e w' => e = .returned (.string F) ∧ Below w.heap.size w w') := Lib.hid fun wx h => by
        rw [hF, hnb]; exact (bloom_make keys _ c wx (hr.moved h) (by omega) (fun k hk => by have := l2 k hk; omega)).mono fun _ _ ⟨h1, h2⟩ => ⟨h1, below_at h h2⟩
      obtain ⟨i0, hi, hz0, hz1, hz2⟩ := info_parts info_str
      have h0 : 0 < keys.length := by omega
      obtain ⟨k0, hk0⟩ : ∃ k0, k0 = keys[0] := ⟨_, rfl⟩
      have H1 : Hid (firsts keys k0 1 = keys) := Lib.hid (by rw [hk0]; exact firsts_one keys h0)
      have HK0 : Hid (k0 ∈ keys) := Lib.hid (by rw [hk0]; exact List.getElem_mem h0)
      obtain ⟨n, hn⟩ : ∃ n, n = keys.length := ⟨_, rfl⟩
      have HN := Lib.hid hn
      obtain ⟨F2, hF2⟩ : ∃ F2 : ByteArray, F2 = str (makeB (firsts keys k0 n) nb) := ⟨_, rfl⟩
      have FS2 : F2.size = nb := by rw [hF2, str_size, makeB_length]
      have hks2 : ∀ k ∈ firsts keys k0 n, k ∈ keys := by
        intro k hk
        unfold firsts at hk
        rcases List.mem_append.mp hk with h | h
        · rw [(List.mem_replicate.mp h).2]; exact HK0.out
        · exact List.mem_of_mem_drop h
      have hfl : (firsts keys k0 n).length = n := by rw [hn]; exact firsts_length keys k0 _ (Nat.le_refl _)
      obtain ⟨k2, hk2⟩ : ∃ k2, k2 = firsts keys k0 n := ⟨_, rfl⟩
      rw [← hk2] at hfl hks2 hF2
      have MK2 : Hid (∀ wx g cap, (Below w.heap.size w wx ∧ RowsAt wx (some ⟨g, 0, none⟩) 1 strRow k2) → Calls Try.prog 9 #[.slice (some ⟨g, 0, none⟩) n cap] wx fun e w' => e = .returned (.string F2) ∧ (Below w.heap.size w w' ∧ RowsAt w' (some ⟨g, 0, none⟩) 1 strRow k2)) := Lib.hid fun wx g cap ⟨h, h2⟩ => by
        have h3 := bloom_make k2 (some ⟨g, 0, none⟩) cap wx h2 (by omega) (fun k hk => by have := l2 k (hks2 k hk); omega)
        rw [hfl, hn, ← hnb, ← hF2, ← hn] at h3
        exact h3.mono fun _ _ ⟨h4, h5⟩ => ⟨h4, below_at h h5, h2.moved h5⟩
      obtain ⟨t1, ht1⟩ : ∃ t, t = mayL F.data.toList key := ⟨_, rfl⟩
      obtain ⟨t2, ht2⟩ : ∃ t, t = mayL F2.data.toList key := ⟨_, rfl⟩
      have M1 : Hid (∀ wx, Below w.heap.size w wx → Calls Try.prog 15 #[.string F, .string key] wx fun e w' => e = .returned (.bool t1) ∧ Below w.heap.size w w') := Lib.hid fun wx h => by
        rw [ht1]; exact (bloom_may F key wx (by omega) (by omega)).mono fun _ _ ⟨h1, h2⟩ => ⟨h1, below_at h h2⟩
      have M2 : Hid (∀ wx, Below w.heap.size w wx → Calls Try.prog 15 #[.string F2, .string key] wx fun e w' => e = .returned (.bool t2) ∧ Below w.heap.size w w') := Lib.hid fun wx h => by
        rw [ht2]; exact (bloom_may F2 key wx (by omega) (by omega)).mono fun _ _ ⟨h1, h2⟩ => ⟨h1, below_at h h2⟩
      have HT : Hid (t2 = true → t1 = true) := Lib.hid (by
        rw [ht1, ht2, hF, hF2, str_data, str_data]
        exact may_more k2 keys nb (by omega) hks2 key)
      have hsz : ((F.size : Int) == (F2.size : Int)) = true := (eq_bb (by omega)).1
      have HK2 := Lib.hid hk2
      have hn1 : n ≤ 100 := by omega
      have hn2' : 2 ≤ n := by omega
      rw [← hn] at MK LI
      have hkl : (strs keys).length = n := by rw [hn]; simp [strs]
      clear hk hk0 hks2 hF hF2 FS FS2 ht1 ht2 hk2 hfl l2 hnb
      have HKL := Lib.hid hkl
      rw [← hn] at hc hlen l1 hn2 h0 ⊢
      clear hkl hn
      go_enter Try.func5, Try.ntmps5
      go_wp2_with (first | (go_at_call 6; (with_reducible refine (AW.out _ (by assumption)).mono ?_); rintro e w1 ⟨rfl, hB1⟩) | (go_at_call 7; (with_reducible refine (LI.out _ (by assumption)).mono ?_); rintro e w2 ⟨rfl, hB2⟩) | (go_at_call 9; (with_reducible refine (MK.out _ (by assumption)).mono ?_); rintro e w3 ⟨rfl, hB3⟩) | (at_builtin; refine wpList_append_own _ rfl (.tmp 25) (.tmp 26) 22 rfl w.heap.size 9 i0 (.string ByteArray.empty) 1 16 Try.underlying22 hi hz0 hz1 hz2 rfl (by decide) (.slice (some ⟨w3.heap.size, 0, none⟩) 0 0) 0 [] rfl (own_empty _ hB3.size) ⟨b, o, none⟩ n c (strs keys) rfl (by rw [HKL.out]; omega) (strs_cells (HR.out.moved (hB3.alloc hB3.size _))) strs_one (by unfold maxLen; omega) (by omega) (by simp; have := hB3.size; omega) ?_; intro v' w4 hown4 hgrow hnil; clear hnil; have HO4 := Lib.hid hown4; have HG4 := Lib.hid hgrow; clear hown4 hgrow))
      obtain ⟨g, cap, hv, HO⟩ : ∃ g cap, v' = .slice (some ⟨g, 0, none⟩) n cap ∧ Hid (w4.ownsRow w.heap.size 9 1 (.slice (some ⟨g, 0, none⟩) n cap) n (strs (firsts keys k0 1))) := by
        have h := HO4.out
        rw [Nat.zero_add, List.nil_append] at h
        obtain ⟨g, cap, e⟩ := own_some h (by omega)
        rw [e] at h
        exact ⟨g, cap, e, Lib.hid (by rw [H1.out]; exact h)⟩
      have hB4 : Below w.heap.size w w4 := (hB3.alloc hB3.size _).grown HG4.out (by simp; have := hB3.size; omega) (fun k hk => by simp [Value.ownBlock] at hk; subst hk; exact hB3.size)
      subst hv
      clear HO4 HG4 hB1 hB2 hB3 W0 AW LI MK hi hz0 hz1 hz2
      go_loopw [7] (fun v7 wr => ∃ i : Nat, 1 ≤ i ∧ i ≤ n ∧ v7 = .int .i64 i ∧ Below w.heap.size w wr ∧ Hid (wr.ownsRow w.heap.size 9 1 (.slice (some ⟨g, 0, none⟩) n cap) n (strs (firsts keys k0 i)))) (fun v _ => n - (intOf v).toNat)
      case atStart => exact ⟨1, Nat.le_refl _, by omega, rfl, hB4, HO⟩
      case round =>
        clear hB4 HO
        obtain ⟨i, hi1, hin, rfl, hB, HO⟩ := hrel
        by_cases hlt : i < n
        · have hc0 : wr.cell? ⟨g, 0, none⟩ = some (.string k0) := by
            rw [HO.out.cellAt 0 (by omega)]
            unfold strs
            rw [List.getElem?_map, firsts_zero_at _ _ _ hi1]; rfl
          obtain ⟨y, hci⟩ : ∃ y, wr.cell? ⟨g, i, none⟩ = some (.string y) := by
            have hl2 : i < (firsts keys k0 i).length := by rw [firsts_length _ _ _ (by rw [← HN.out]; exact hin), ← HN.out]; exact hlt
            refine ⟨(firsts keys k0 i)[i], ?_⟩
            rw [HO.out.cellAt i (by omega)]
            simp [strs, List.getElem?_eq_getElem hl2]
          have hfz := HO.out.frozenAt i
          have HS : Hid ((strs (firsts keys k0 i)).set i (.string k0) = strs (firsts keys k0 (i + 1))) := Lib.hid (by
            rw [← firsts_set keys k0 i (by rw [← HN.out]; exact hlt)]; simp [strs, List.map_set])
          have hgb : w.heap.size ≤ g := (HO.out.lt g rfl).1
          go_wp2
          go_roundw
          case rel => exact ⟨i + 1, by omega, by omega, by go_num, hB.setCell hgb _, Lib.hid (by rw [← HS.out]; exact (HO.out.stored i _).1)⟩
          case measure => simp [intOf]; omega
        · have hR2 : RowsAt wr (some ⟨g, 0, none⟩) 1 strRow k2 := by
            have hO := HO.out
            have e : firsts keys k0 i = k2 := by rw [HK2.out, show i = n from by omega]
            rw [e] at hO
            have hl2 : k2.length = n := by rw [HK2.out, HN.out]; exact firsts_length keys k0 _ (Nat.le_refl _)
            obtain ⟨a, cc, e1, e2, _⟩ := own_rows (enc := strRow) (f := Value.string) (l := k2) (own_len hO hl2.symm rfl) (fun _ => rfl)
            simp at e1
            rw [e1.1]; exact e2
          clear HO
          cases t2
          · go_wp2_with (first | (go_at_call 9; (with_reducible refine (MK2.out _ _ _ ⟨by assumption, by assumption⟩).mono ?_); rintro e w5 ⟨rfl, hB5, hR5⟩) | (go_at_call 15; (with_reducible refine (M2.out _ (by assumption)).mono ?_); rintro e w6 ⟨rfl, hB6⟩) | (go_at_call 15; (with_reducible refine (M1.out _ (by assumption)).mono ?_); rintro e w7 ⟨rfl, hB7⟩))
            go_ret
            exact ⟨rfl, hB6⟩
          · obtain rfl : t1 = true := HT.out rfl
            go_wp2_with (first | (go_at_call 9; (with_reducible refine (MK2.out _ _ _ ⟨by assumption, by assumption⟩).mono ?_); rintro e w5 ⟨rfl, hB5, hR5⟩) | (go_at_call 15; (with_reducible refine (M2.out _ (by assumption)).mono ?_); rintro e w6 ⟨rfl, hB6⟩) | (go_at_call 15; (with_reducible refine (M1.out _ (by assumption)).mono ?_); rintro e w7 ⟨rfl, hB7⟩))
            go_ret
            exact ⟨rfl, hB7⟩

end Go.Proofs.Ytmdglcdilabbaaa
