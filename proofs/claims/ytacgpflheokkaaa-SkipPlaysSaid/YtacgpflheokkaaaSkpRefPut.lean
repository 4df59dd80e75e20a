/-
  The shadow's Put over pairs in memory: by contract.
-/
import Derived.Test.YtacgpflheokkaaaSkpRefSame
namespace Go.Proofs.Ytacgpflheokkaaa
open Go.RowKit Go.Shelf
set_option linter.unusedVariables false
set_option linter.unusedSimpArgs false

theorem wp_append_rowG {P : Program} {ops : Array Oper} {rest : List Oper} {o : Oper} {a : Act} {Q : Exit → Act → World → Prop} (hgd : o.guard = none) (s x : Operand) (t : TypeId)
    (ho : o.op = .call { callee := .builtin .append, args := #[s, x], argTypes := #[t, t] })
    (base : Nat) (e : TypeId) (ht : P.underlying t = some (.slice e)) (z : Value) (m bytes : Nat) (hi : (P.info? e).map (fun i => (i.zero, i.size, i.bytes)) = some (some z, m, bytes)) (hz1 : z.cells.size = m) (hm0 : 0 < m) (hby : bytes ≤ 640)
    (wr : World) (v : Value) (n : Nat) (pre : List Value) (hs : a.eval s = v) (hown : wr.ownsRow base e m v n pre)
    (xs : Array Value) (B : Nat) (hB : wr.heap[B]? = some (.cells xs e (0, 0))) (hxs : xs.size = m) (hx1 : ∀ u ∈ xs.toList, u.oneCell' = true) (hx : a.eval x = .slice (some ⟨B, 0, none⟩) 1 1) (hlen : n + 1 ≤ 1000000000) (hbase : base ≤ wr.heap.size)
    (h : ∀ v' w', w'.ownsRow base e m v' (n + 1) (pre ++ xs.toList) → Below base wr w' → (∀ k ob, wr.heap[k]? = some ob → some k ≠ v.ownBlock → w'.heap[k]? = some ob) → wpList P ops Q rest (a.put o.dst v') w') :
    wpList P ops Q (o :: rest) a wr := by
  obtain ⟨i0, hi0, hz0, hz1', hz2⟩ := info_parts hi
  refine wpList_append_own _ hgd s x t ho base e i0 z m bytes ht hi0 hz0 hz1' hz2 hz1 hm0 v n pre hs hown ⟨B, 0, none⟩ 1 1 xs.toList hx (by rw [Array.length_toList, hxs, Nat.one_mul]) (World.news_of_block hB) hx1 ?_ ?_ hbase ?_
  · unfold maxLen; omega
  · have : (n + 1) * bytes ≤ 1000000000 * 640 := Nat.mul_le_mul hlen hby
    omega
  · intro v' w' hown' hgrow _
    exact h v' w' hown' ((Below.refl base wr).grown hgrow hbase fun k hk => (hown.lt k hk).1) (fun k ob hk hne => (hgrow.block k (heap_lt hk) hne).trans hk)
theorem putS_len (p : PairS) (s : List PairS × Bool) (x : PairS) : (putS p s x).1.length ≤ s.1.length + 2 := by
  unfold putS
  split <;> split <;> simp
theorem putN_len (l : List PairS) (p : PairS) (k : Nat) (hk : k ≤ l.length) : (putN (l.take k) p).1.length ≤ 2 * k := by
  induction k with
  | zero => simp [putN]
  | succ k ih =>
    rw [List.take_succ_eq_append_getElem (by omega), putN_snoc]
    have := putS_len p (putN (l.take k) p) l[k]
    have := ih (by omega)
    omega

theorem own_rowsB {ρ : Type} {w : World} {base : Nat} {e : TypeId} {m : Nat} {v : Value} {enc : ρ → List Value} {l : List ρ} (h : w.ownsRow base e m v l.length (l.flatMap enc)) (he : ∀ r, (enc r).length = m) :
    ∃ a c, v = .slice a l.length c ∧ RowsAt w a m enc l ∧ (∀ b o, a = some ⟨b, o, none⟩ → base ≤ b) := by
  obtain ⟨a, c, e1, h1, _, _⟩ := own_rowsN h he
  refine ⟨a, c, e1, h1, fun b o hb => ?_⟩
  obtain ⟨hl, h | ⟨g, cap, cur, hv, hg, _⟩⟩ := h
  · rw [h.1] at e1
    injection e1 with ha
    rw [← ha] at hb; cases hb
  · rw [hv] at e1
    injection e1 with ha
    rw [← ha] at hb; cases hb; exact hg

set_option maxRecDepth 100000 in
set_option maxHeartbeats 4000000 in
theorem ref07_put (l : List PairS) (p : PairS) (A : Option Addr) (c : Nat) (w : World) (hr : RowsAt w A 2 pairRow l) (hl : l.length ≤ 100000000) :
    Calls Try.prog 18 #[.slice A l.length c, .agg #[.string p.1, .string p.2]] w fun e w' => ∃ a c', e = .returned (.slice a (putP l p).length c') ∧ RowsAt w' a 2 pairRow (putP l p) ∧ (∀ b o, a = some ⟨b, o, none⟩ → w.heap.size ≤ b) ∧ Below w.heap.size w w' := by
  have HR := Lib.hid hr
  have HRW : Hid (pairRow p = [.string p.1, .string p.2]) := Lib.hid rfl
  clear hr
  go_enter Try.func18, Try.ntmps18
  go_wp2
  go_loopw [5, 6, 11] (fun v5 v6 v11 wr => ∃ k : Nat, k ≤ l.length ∧ v11 = .int .i64 (k : Int) ∧ v6 = .bool (putN (l.take k) p).2 ∧ Hid (wr.ownsRow (w.heap.size + 1) 49 2 v5 (putN (l.take k) p).1.length ((putN (l.take k) p).1.flatMap pairRow)) ∧ Hid (wr.heap[w.heap.size]? = some (.cells #[.string p.1, .string p.2] 49 (0, 0))) ∧ w.heap.size + 1 ≤ wr.heap.size ∧ Below w.heap.size w wr) (fun _ _ v => fun _ => l.length - (intOf v).toNat)
  case atStart => exact ⟨0, by omega, rfl, rfl, Lib.hid own_none, Lib.hid (heap_alloc_new _ _), by simp, (Below.refl _ _).alloc (Nat.le_refl _) _⟩
  case round =>
    obtain ⟨k, hk, rfl, rfl, HO, HP, hwr, hB⟩ := hrel
    have hsz := hB.size
    by_cases hlt : k < l.length
    · obtain ⟨b, o, rfl, c0, c1⟩ := pair_cells (HR.out.moved hB) k hlt
      have HT : Hid (putN (l.take (k + 1)) p = putS p (putN (l.take k) p) l[k]) := Lib.hid (by rw [List.take_succ_eq_append_getElem hlt, putN_snoc])
      have hnl := putN_len l p k hk
      obtain ⟨S, hS⟩ : ∃ S, S = putN (l.take k) p := ⟨_, rfl⟩
      rw [← hS] at HT HO hnl ⊢
      clear hS
      obtain ⟨x, hx⟩ : ∃ x, x = l[k] := ⟨_, rfl⟩
      rw [← hx] at c0 c1 HT
      clear hx
      obtain ⟨x2, x3⟩ := x
      obtain ⟨p2, p3⟩ := p
      obtain ⟨n, hn⟩ : ∃ n, n = S.1.length := ⟨_, rfl⟩
      rw [← hn] at HO hnl
      have HN := Lib.hid hn
      have a0 : wr.cell? ⟨w.heap.size, 0, none⟩ = some (.string p2) := by rw [cell_of_row _ _ _ _ _ _ HP.out]; rfl
      have a1 : wr.cell? ⟨w.heap.size, 1, none⟩ = some (.string p3) := by rw [cell_of_row _ _ _ _ _ _ HP.out]; rfl
      have hPO : ∀ ob, (wr.alloc ob).heap[w.heap.size]? = some (.cells #[.string p2, .string p3] 49 (0, 0)) := fun ob => (Below.heap_alloc _ _ _ (by omega)).trans HP.out
      have HPO := Lib.hid hPO
      have b0 : ∀ ob, (wr.alloc ob).cell? ⟨w.heap.size, 0, none⟩ = some (.string p2) := fun ob => by rw [cell_of_row _ _ _ _ _ _ (hPO ob)]; rfl
      have b1 : ∀ ob, (wr.alloc ob).cell? ⟨w.heap.size, 1, none⟩ = some (.string p3) := fun ob => by rw [cell_of_row _ _ _ _ _ _ (hPO ob)]; rfl
      clear hn hPO
      simp only at c0 c1
      cases hd : S.2 with
      | true =>
        by_cases hx : x2 = p2
        · have HT2 : Hid (putN (l.take (k + 1)) (p2, p3) = S) := Lib.hid (by rw [HT.out]; unfold putS; rw [if_neg (by rw [hd]; simp), if_pos hx])
          obtain ⟨s0, s1⟩ : (x2.toList == p2.toList) = true ∧ (x2.toList != p2.toList) = false := by subst hx; simp
          have HD := Lib.hid hd
          clear hx HT hd
          go_wp2
          go_roundw
          case rel => exact ⟨k + 1, by omega, by go_num, by rw [HT2.out, HD.out], Lib.hid (by rw [HT2.out, ← HN.out]; exact HO.out.alloc _), Lib.hid (HPO.out _), by simp; omega, hB.alloc hsz _⟩
          case measure => simp [intOf]; omega
        · have HT2 : Hid (putN (l.take (k + 1)) (p2, p3) = (S.1 ++ [(x2, x3)], S.2)) := Lib.hid (by rw [HT.out]; unfold putS; rw [if_neg (by rw [hd]; simp), if_neg hx])
          obtain ⟨s0, s1⟩ : (x2.toList == p2.toList) = false ∧ (x2.toList != p2.toList) = true := by have h := str_nb hx; rw [bne, h]; exact ⟨rfl, rfl⟩
          have HD := Lib.hid hd
          clear hx HT hd
          go_wp2_with (at_builtin; refine wp_append_rowG rfl _ _ 43 rfl (w.heap.size + 1) 49 Try.underlying43 (.agg #[.string ByteArray.empty, .string ByteArray.empty]) 2 32 info_pair rfl (by decide) (by decide) _ _ n _ rfl ((HO.out.alloc _).alloc _) #[.string x2, .string x3] (wr.heap.size + 1) (heap_new (by simp)) rfl (by simp [Value.oneCell']) rfl (by omega) (by simp; omega) ?_; intro v5 w5 hown5 hB5 hk5; have HO5 := Lib.hid hown5; have HP5 := Lib.hid (hk5 _ _ ((Below.heap_alloc _ _ _ (by simp; omega)).trans (HPO.out _)) (fun e => by have := (HO.out.lt _ e.symm).1; omega)); have hs5 : wr.heap.size + 2 ≤ w5.heap.size := (by have := hB5.size; simpa using this); clear hown5 hk5)
          go_roundw
          case rel => exact ⟨k + 1, by omega, by go_num, by rw [HT2.out, HD.out], Lib.hid (by rw [HT2.out, List.length_append, List.length_singleton, ← HN.out, List.flatMap_append, List.flatMap_singleton]; exact HO5.out), HP5, by omega, ((hB.alloc hsz _).alloc (by simp; omega) _).trans (hB5.mono (by omega))⟩
          case measure => simp [intOf]; omega
      | false =>
        cases hcmp : Op.bytesLess x2.toList p2.toList with
        | true =>
          have hx : ¬ x2 = p2 := bLt_ne (show bLt x2 p2 = true from hcmp)
          have q1 : Op.bytesLess p2.toList x2.toList = false := bLt_asymm (show bLt x2 p2 = true from hcmp)
          have q2 := str_nb (fun e : p2 = x2 => hx e.symm)
          have HT2 : Hid (putN (l.take (k + 1)) (p2, p3) = (S.1 ++ [(x2, x3)], S.2)) := Lib.hid (by rw [HT.out]; unfold putS; rw [if_neg (by rw [show bLt x2 p2 = true from hcmp]; simp), if_neg hx])
          obtain ⟨s0, s1⟩ : (x2.toList == p2.toList) = false ∧ (x2.toList != p2.toList) = true := by have h := str_nb hx; rw [bne, h]; exact ⟨rfl, rfl⟩
          have HD := Lib.hid hd
          clear hx HT hd
          go_wp2_with (at_builtin; refine wp_append_rowG rfl _ _ 43 rfl (w.heap.size + 1) 49 Try.underlying43 (.agg #[.string ByteArray.empty, .string ByteArray.empty]) 2 32 info_pair rfl (by decide) (by decide) _ _ n _ rfl ((HO.out.alloc _).alloc _) #[.string x2, .string x3] (wr.heap.size + 1) (heap_new (by simp)) rfl (by simp [Value.oneCell']) rfl (by omega) (by simp; omega) ?_; intro v5 w5 hown5 hB5 hk5; have HO5 := Lib.hid hown5; have HP5 := Lib.hid (hk5 _ _ ((Below.heap_alloc _ _ _ (by simp; omega)).trans (HPO.out _)) (fun e => by have := (HO.out.lt _ e.symm).1; omega)); have hs5 : wr.heap.size + 2 ≤ w5.heap.size := (by have := hB5.size; simpa using this); clear hown5 hk5)
          go_roundw
          case rel => exact ⟨k + 1, by omega, by go_num, by rw [HT2.out, HD.out], Lib.hid (by rw [HT2.out, List.length_append, List.length_singleton, ← HN.out, List.flatMap_append, List.flatMap_singleton]; exact HO5.out), HP5, by omega, ((hB.alloc hsz _).alloc (by simp; omega) _).trans (hB5.mono (by omega))⟩
          case measure => simp [intOf]; omega
        | false =>
          have HD := Lib.hid hd
          by_cases hx : x2 = p2
          · have q1 : Op.bytesLess p2.toList x2.toList = false := by rw [hx]; exact bLt_irrefl p2
            have q2 := str_bb hx.symm
            have HT2 : Hid (putN (l.take (k + 1)) (p2, p3) = (S.1 ++ [(p2, p3)], true)) := Lib.hid (by rw [HT.out]; unfold putS; rw [if_pos ⟨hd, show bLt x2 p2 = false from hcmp⟩, if_pos hx])
            obtain ⟨s0, s1⟩ : (x2.toList == p2.toList) = true ∧ (x2.toList != p2.toList) = false := by subst hx; simp
            clear hx HT hd
            go_wp2_with (at_builtin; refine wp_append_rowG rfl _ _ 43 rfl (w.heap.size + 1) 49 Try.underlying43 (.agg #[.string ByteArray.empty, .string ByteArray.empty]) 2 32 info_pair rfl (by decide) (by decide) _ _ n _ rfl ((HO.out.alloc _).alloc _) #[.string p2, .string p3] (wr.heap.size + 1) (heap_new (by simp)) rfl (by simp [Value.oneCell']) rfl (by omega) (by simp; omega) ?_; intro v4 w4 hown4 hB4 hk4; have hbx : w4.heap[wr.heap.size]? = some (.cells #[.string x2, .string x3] 49 (0, 0)) := hk4 _ _ (heap_alloc2_old _ _ _) (fun e => by have := (HO.out.lt _ e.symm).2; omega); have hbp : w4.heap[w.heap.size]? = some (.cells #[.string p2, .string p3] 49 (0, 0)) := hk4 _ _ ((Below.heap_alloc _ _ _ (by simp; omega)).trans ((Below.heap_alloc _ _ _ (by omega)).trans HP.out)) (fun e => by have := (HO.out.lt _ e.symm).1; omega); have e0 : w4.cell? ⟨wr.heap.size, 0, none⟩ = some (.string x2) := (by rw [cell_of_row _ _ _ _ _ _ hbx]; rfl); have e1 : w4.cell? ⟨wr.heap.size, 1, none⟩ = some (.string x3) := (by rw [cell_of_row _ _ _ _ _ _ hbx]; rfl); have HP4 := Lib.hid hbp; have HO4 := Lib.hid hown4; have hs4 : wr.heap.size + 2 ≤ w4.heap.size := (by have := hB4.size; simpa using this); have HB4 := Lib.hid hB4; have hbx' := hbx; clear hbx hbp hown4 hk4 hB4; have g0 : w4.cell? ⟨w.heap.size, 0, none⟩ = some (.string p2) := (by rw [cell_of_row _ _ _ _ _ _ HP4.out]; rfl); have g1 : w4.cell? ⟨w.heap.size, 1, none⟩ = some (.string p3) := (by rw [cell_of_row _ _ _ _ _ _ HP4.out]; rfl); have HBX4 := Lib.hid hbx'; clear hbx')
            go_roundw
            case rel => exact ⟨k + 1, by omega, by go_num, by rw [HT2.out], Lib.hid (by rw [HT2.out, List.length_append, List.length_singleton, ← HN.out, List.flatMap_append, List.flatMap_singleton]; exact HO4.out), HP4, by omega, ((hB.alloc hsz _).alloc (by simp; omega) _).trans (HB4.out.mono (by omega))⟩
            case measure => simp [intOf]; omega
          · have q1 : Op.bytesLess p2.toList x2.toList = true := by
              rcases bLt_total x2 p2 with h | h | h
              · rw [show Op.bytesLess x2.toList p2.toList = bLt x2 p2 from rfl, h] at hcmp; cases hcmp
              · exact absurd h hx
              · exact h
            have q2 := str_nb (fun e : p2 = x2 => hx e.symm)
            have HT2 : Hid (putN (l.take (k + 1)) (p2, p3) = (S.1 ++ [(p2, p3), (x2, x3)], true)) := Lib.hid (by rw [HT.out]; unfold putS; rw [if_pos ⟨hd, show bLt x2 p2 = false from hcmp⟩, if_neg hx])
            obtain ⟨s0, s1⟩ : (x2.toList == p2.toList) = false ∧ (x2.toList != p2.toList) = true := by have h := str_nb hx; rw [bne, h]; exact ⟨rfl, rfl⟩
            clear hx HT hd
            go_wp2_with (first | (at_builtin; refine wp_append_rowG rfl _ _ 43 rfl (w.heap.size + 1) 49 Try.underlying43 (.agg #[.string ByteArray.empty, .string ByteArray.empty]) 2 32 info_pair rfl (by decide) (by decide) _ _ (n + 1) _ rfl (HO4.out.alloc _) #[.string x2, .string x3] w4.heap.size (heap_alloc_new _ _) rfl (by simp [Value.oneCell']) rfl (by omega) (by simp; omega) ?_; intro v5 w5 hown5 hB5 hk5; have HO5 := Lib.hid hown5; have HP5 := Lib.hid (hk5 _ _ ((Below.heap_alloc _ _ _ (by omega)).trans HP4.out) (fun e => by have := (HO4.out.lt _ e.symm).1; omega)); have HB5 := Lib.hid hB5; have hs5 : w4.heap.size + 1 ≤ w5.heap.size := (by have := hB5.size; simpa using this); clear hown5 hk5 hB5) | (at_builtin; refine wp_append_rowG rfl _ _ 43 rfl (w.heap.size + 1) 49 Try.underlying43 (.agg #[.string ByteArray.empty, .string ByteArray.empty]) 2 32 info_pair rfl (by decide) (by decide) _ _ n _ rfl ((HO.out.alloc _).alloc _) #[.string p2, .string p3] (wr.heap.size + 1) (heap_new (by simp)) rfl (by simp [Value.oneCell']) rfl (by omega) (by simp; omega) ?_; intro v4 w4 hown4 hB4 hk4; have hbx : w4.heap[wr.heap.size]? = some (.cells #[.string x2, .string x3] 49 (0, 0)) := hk4 _ _ (heap_alloc2_old _ _ _) (fun e => by have := (HO.out.lt _ e.symm).2; omega); have hbp : w4.heap[w.heap.size]? = some (.cells #[.string p2, .string p3] 49 (0, 0)) := hk4 _ _ ((Below.heap_alloc _ _ _ (by simp; omega)).trans ((Below.heap_alloc _ _ _ (by omega)).trans HP.out)) (fun e => by have := (HO.out.lt _ e.symm).1; omega); have e0 : w4.cell? ⟨wr.heap.size, 0, none⟩ = some (.string x2) := (by rw [cell_of_row _ _ _ _ _ _ hbx]; rfl); have e1 : w4.cell? ⟨wr.heap.size, 1, none⟩ = some (.string x3) := (by rw [cell_of_row _ _ _ _ _ _ hbx]; rfl); have HP4 := Lib.hid hbp; have HO4 := Lib.hid hown4; have hs4 : wr.heap.size + 2 ≤ w4.heap.size := (by have := hB4.size; simpa using this); have HB4 := Lib.hid hB4; have hbx' := hbx; clear hbx hbp hown4 hk4 hB4; have g0 : w4.cell? ⟨w.heap.size, 0, none⟩ = some (.string p2) := (by rw [cell_of_row _ _ _ _ _ _ HP4.out]; rfl); have g1 : w4.cell? ⟨w.heap.size, 1, none⟩ = some (.string p3) := (by rw [cell_of_row _ _ _ _ _ _ HP4.out]; rfl); have HBX4 := Lib.hid hbx'; clear hbx'))
            go_roundw
            case rel => exact ⟨k + 1, by omega, by go_num, by rw [HT2.out], Lib.hid (by rw [HT2.out]; simp only [List.length_append, List.length_cons, List.length_nil, List.flatMap_append, List.flatMap_cons, List.flatMap_nil, List.append_nil, ← HN.out]; rw [← List.append_assoc]; exact HO5.out), HP5, by omega, (((hB.alloc hsz _).alloc (by simp; omega) _).trans (HB4.out.mono (by omega))).alloc (by omega) _ |>.trans (HB5.out.mono (by omega))⟩
            case measure => simp [intOf]; omega
    · have hkl : k = l.length := by omega
      subst hkl
      rw [List.take_length] at *
      have hnl := putN_len l p l.length (Nat.le_refl _)
      rw [List.take_length] at hnl
      have HE := Lib.hid (putN_end l p)
      obtain ⟨S, hS⟩ : ∃ S, S = putN l p := ⟨_, rfl⟩
      rw [← hS] at HO HE hnl ⊢
      clear hS
      obtain ⟨p2, p3⟩ := p
      obtain ⟨n, hn⟩ : ∃ n, n = S.1.length := ⟨_, rfl⟩
      rw [← hn] at HO hnl
      have HN := Lib.hid hn
      have a0 : wr.cell? ⟨w.heap.size, 0, none⟩ = some (.string p2) := by rw [cell_of_row _ _ _ _ _ _ HP.out]; rfl
      have a1 : wr.cell? ⟨w.heap.size, 1, none⟩ = some (.string p3) := by rw [cell_of_row _ _ _ _ _ _ HP.out]; rfl
      clear hn
      cases hd : S.2 with
      | true =>
        have HE2 : Hid (S.1 = putP l (p2, p3)) := Lib.hid (by rw [← HE.out]; unfold endP; rw [if_pos hd])
        have ho := HO.out
        rw [HN.out] at ho
        obtain ⟨a1, c1, rfl, hr1, hbb⟩ := own_rowsB ho (fun _ => rfl)
        have HR1 := Lib.hid hr1
        have HBB := Lib.hid hbb
        clear ho hr1 HO hd hbb
        rw [← HN.out]
        go_wp2
        go_ret
        refine ⟨a1, ⟨c1, by rw [← HE2.out, ← HN.out]; rfl⟩, by rw [← HE2.out]; exact HR1.out, fun b o h => by have := HBB.out b o h; omega, hB⟩
      | false =>
        have HE2 : Hid (S.1 ++ [(p2, p3)] = putP l (p2, p3)) := Lib.hid (by rw [← HE.out]; unfold endP; rw [if_neg (by rw [hd]; decide)])
        clear hd
        go_upto_region 14 with (at_builtin; refine wp_append_rowG rfl _ _ 43 rfl (w.heap.size + 1) 49 Try.underlying43 (.agg #[.string ByteArray.empty, .string ByteArray.empty]) 2 32 info_pair rfl (by decide) (by decide) _ _ n _ rfl (HO.out.alloc _) #[.string p2, .string p3] wr.heap.size (heap_alloc_new _ _) rfl (by simp [Value.oneCell']) rfl (by omega) (by simp; omega) ?_; intro v5 w5 hown5 hB5 hk5; have HO5 := Lib.hid hown5; have HB5 := Lib.hid hB5; clear hown5 hk5 hB5)
        have ho : w5.ownsRow (w.heap.size + 1) 49 2 v5 (putP l (p2, p3)).length ((putP l (p2, p3)).flatMap pairRow) := by
          rw [← HE2.out]
          simp only [List.length_append, List.length_cons, List.length_nil, List.flatMap_append, List.flatMap_cons, List.flatMap_nil, List.append_nil, ← HN.out]
          exact HO5.out
        obtain ⟨a1, c1, rfl, hr1, hbb⟩ := own_rowsB ho (fun _ => rfl)
        have HR1 := Lib.hid hr1
        have HBB := Lib.hid hbb
        clear ho hr1 HO HO5 hbb
        go_wp2
        go_ret
        refine ⟨a1, ⟨c1, rfl⟩, HR1.out, fun b o h => by have := HBB.out b o h; omega, (hB.alloc hsz _).trans (HB5.out.mono (by omega))⟩
end Go.Proofs.Ytacgpflheokkaaa
