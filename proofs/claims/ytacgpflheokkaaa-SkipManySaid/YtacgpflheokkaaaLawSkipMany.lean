/-
  The walk of SkipMany: many keys, put in any order, stand in theirs.
-/
import Derived.Test.YtacgpflheokkaaaSkpMany
import Derived.BigRegionIn
namespace Go.Proofs.Ytacgpflheokkaaa
open Go.RowKit Go.Shelf
set_option linter.unusedVariables false
set_option linter.unusedSimpArgs false
attribute [local go_sem] Oper.semAt_some

theorem results_box1 {P : Program} {fn : Func} {p : Tmp} {tp : TypeId} (h : fn.results = #[.cell p tp]) (tmps : Array Value) (w : World) (A : Nat) (va : Value)
    (hp : tmps.getD p undef = .pointer (some ⟨A, 0, none⟩)) (ha : w.heap[A]? = some (.cells #[va] tp (0, 0)))
    (hsp : ∀ w, (isAgg tp : Sem Bool).run P w = .ok false w) : (results fn tmps).run P w = .ok va w := by
  have ha1 := run_loadVar_one (v := va) (B := A) (t := tp) ha (hsp w)
  simp only [results, h]
  have hp' : tmps[p]?.getD undef = .pointer (some ⟨A, 0, none⟩) := by simpa using hp
  simp [Sem.run_bind, Result.andThen, hp', asAddr, ha1]
theorem ChgQ.cell {q : Nat → Prop} {A B : World} (h : ChgQ q A B) {a : Addr} {v : Value} (hq : ¬ q a.block) (hc : A.cell? a = some v) : B.cell? a = some v := by
  have hb := World.block_lt_of_cell? A a hc
  have e := h.block a.block hb hq
  unfold World.cell? at hc ⊢
  rw [e]; exact hc
theorem isAgg_bool (w : World) : (isAgg 4 : Sem Bool).run Try.prog w = .ok false w := by simp [isAgg, go_sem, Try.underlying4]
theorem heap_set4 {w : World} {B : Nat} {cs : Array Value} {t : TypeId} (h : w.heap[B]? = some (.cells cs t (0, 0))) (i : Nat) (v : Value) (ds : Array Value) (e : cs.setIfInBounds i v = ds) : (w.setCell ⟨B, i, none⟩ v).heap[B]? = some (.cells ds t (0, 0)) := by
  rw [← e]; exact heap_setCell_same w B i cs t v h
theorem chg_turns {q own : Nat → Prop} {W0 A B : World} (h : ChgQ q W0 A) (t : Turns own A B) (ho : ∀ k, own k → k < W0.heap.size → q k) : ChgQ q W0 B :=
  ⟨t.os.trans h.os, t.tape.trans h.tape, t.output.trans h.output, Nat.le_trans h.size t.size, fun k hk hq => by
    have h3 := h.block k hk hq
    have hlt : k < A.heap.size := Nat.lt_of_lt_of_le hk h.size
    rw [← h3, Array.getElem?_eq_getElem hlt]
    exact t.same k _ (fun hh => hq (ho _ hh hk)) (Array.getElem?_eq_getElem hlt)⟩
theorem keepsY_setCell {q : Nat → Obj → Prop} {b : Nat} (A : World) (g i : Nat) (v : Value) (hg : ∀ o, q g o) : KeepsY q b A (A.setCell ⟨g, i, none⟩ v) := ⟨by simp [World.setCell], fun k o hk ho _ => (heap_setCell_other _ _ _ _ (by show k ≠ g; rintro rfl; exact hk (hg o))).trans ho⟩
theorem KeepsY.from' {q : Nat → Obj → Prop} {b n : Nat} {A B : World} (h : KeepsY q b A B) (hq : ∀ k o, q k o → k < n) (hb : b ≤ n) : KeepsFrom n A B := ⟨h.size, fun k o hk ho _ => h.same k o (fun hh => by have := hq k o hh; omega) ho (.inr (by omega))⟩
theorem fromP_all (P : List PairS) : fromP P ⟨#[]⟩ = P := by
  unfold fromP
  rw [List.filter_eq_self]
  intro x hx
  have h : bLt x.1 ⟨#[]⟩ = false := by
    unfold bLt
    rw [ByteArray.toList_eq ⟨#[]⟩]
    show Op.bytesLess x.1.toList [] = false
    cases x.1.toList <;> rfl
  rw [h]; rfl
def lastK (l : List PairS) : ByteArray := ((l.getLast?).map (·.1)).getD ⟨#[]⟩
theorem lastK_snoc (l : List PairS) (x : PairS) : lastK (l ++ [x]) = x.1 := by simp [lastK]
theorem lastK_lt {P pre : List PairS} {x : PairS} (hs : P.Pairwise (fun x y => bLt x.1 y.1 = true)) (hp : pre ++ [x] <+: P) (hn : 0 < pre.length) : bLt (lastK pre) x.1 = true := by
  have h1 := hs.sublist hp.sublist
  rcases List.eq_nil_or_concat pre with rfl | ⟨p, y, rfl⟩
  · simp at hn
  · rw [List.concat_eq_append] at h1 ⊢
    rw [lastK_snoc]
    exact (List.pairwise_append.1 h1).2.2 y (by simp) x (by simp)

set_option maxRecDepth 100000 in
set_option maxHeartbeats 8000000 in
theorem SkipMany_walk (nn bb : Int) (W : World) (wn : (Lit.int .u16 nn).wf = true) (wb : (Lit.int .u16 bb).wf = true) :
    Calls Try.prog 3 #[.int .u16 nn, .int .u16 bb] W fun e w' => e = .returned (.bool true) ∧ Below W.heap.size W w' := by
  obtain ⟨hn0, hn1⟩ : 0 ≤ nn ∧ nn < 65536 := by
    simp only [Lit.wf, Bool.and_eq_true, decide_eq_true_eq] at wn
    have e : IntKind.u16.max = 65535 := by decide
    have e2 : IntKind.u16.min = 0 := by decide
    omega
  obtain ⟨hb0, hb1⟩ : 0 ≤ bb ∧ bb < 65536 := by
    simp only [Lit.wf, Bool.and_eq_true, decide_eq_true_eq] at wb
    have e : IntKind.u16.max = 65535 := by decide
    have e2 : IntKind.u16.min = 0 := by decide
    omega
  clear wn wb
  obtain ⟨k, hk⟩ : ∃ k : Nat, (k : Int) = nn % 1000 := ⟨(nn % 1000).toNat, by omega⟩
  obtain ⟨step, hst⟩ : ∃ s : Nat, (s : Int) = 2 * (bb % 300) + 1 := ⟨(2 * (bb % 300) + 1).toNat, by omega⟩
  have hk1 : k < 1000 := by omega
  have hs1 : step < 600 := by omega
  have hodd : step % 2 = 1 := by omega
  have HK := Lib.hid hk
  have HST := Lib.hid hst
  refine (callsIn_wide (n := 6)).1 ?_
  refine callsIn_of_wp_marks Try.func3 rfl trivial ?_ rfl
  simp only [Try.ntmps3, List.size_toArray, List.length_cons, List.length_nil, Nat.reduceAdd, Nat.reduceSub, Array.replicate_succ, Array.replicate_zero, List.push_toArray, List.append_toArray, List.nil_append, List.cons_append]
  refine wpIn_wide.2 ?_
  go_upto_region 3 with (go_at_call 7; refine (awake07 _).mono ?_; rintro e wa ⟨rfl, hBa⟩)
  go_upto_region 6 with (first | (go_at_call 8; refine (skl_new _).mono ?_; rintro e w1 ⟨a, F, rfl, hS, hB1, hF⟩))
  rw [← hst, ← hk]
  have hW1 : W.heap.size + 1 ≤ wa.heap.size := by have := hBa.size; simpa using this
  have hbx : w1.heap[W.heap.size]? = some (.cells #[.bool false] 4 (0, 0)) := (hB1.block _ (by omega)).trans ((hBa.block _ (by simp)).trans (heap_alloc_new _ _))
  have HS0 : Hid (OneS (W.heap.size + 1) w1 a [] ∧ ManyP step 0 [] ∧ w1.heap[W.heap.size]? = some (.cells #[.bool false] 4 (0, 0)) ∧ Below W.heap.size W w1) := Lib.hid
    ⟨⟨F, _, _, hS, fun k hk => ⟨Nat.le_trans hW1 (hF k hk).1, (hF k hk).2⟩⟩, ⟨rfl, by simp [bytesP], by simp⟩, hbx, ((Below.refl _ _).alloc (Nat.le_refl _) _).trans ((hBa.mono (by simp)).trans (hB1.mono (by omega)))⟩
  clear hst hk hn0 hn1 hb0 hb1 hS hF hB1 hBa hbx hW1
  go_wp2
  go_loopw [7, 29] (fun v7 v29 wr => ∃ (i : Nat) (P : List PairS), i ≤ k ∧ v7 = .int .i64 ((manyAt step i : Nat) : Int) ∧ v29 = .int .i64 (i : Int) ∧ Hid (OneS (W.heap.size + 1) wr a P ∧ ManyP step i P ∧ wr.heap[W.heap.size]? = some (.cells #[.bool false] 4 (0, 0)) ∧ Below W.heap.size W wr)) (fun _ v _ => k - (intOf v).toNat)
  case atStart => exact ⟨0, [], by omega, by simp [manyAt], rfl, HS0⟩
  case round =>
    obtain ⟨i, P, hik, rfl, rfl, HS⟩ := hrel
    clear HS0
    have hM := manyAt_succ step i
    have hm1 : manyAt step i < 1024 := Nat.mod_lt _ (by decide)
    have hm2 : manyAt step (i + 1) < 1024 := Nat.mod_lt _ (by decide)
    by_cases hlt : i < k
    · have HMP := Lib.hid (HS.out.2.1.put hodd (by omega))
      obtain ⟨M, hMM⟩ : ∃ M, M = manyAt step i := ⟨_, rfl⟩
      obtain ⟨N, hNN⟩ : ∃ N, N = manyAt step (i + 1) := ⟨_, rfl⟩
      rw [← hMM] at hM hm1 ⊢
      rw [← hNN] at hM hm2 HMP
      have HNN := Lib.hid hNN
      have hM2 : ((M : Int) + (step : Int)) % 1024 = (N : Int) := by omega
      clear hMM hNN hM
      have hcv := strOf_two N hm2 ((N : Int) / 256) ((N : Int) % 256) (by omega) (by omega) wr
      have PU : Hid (∀ ht wx, Below wr.heap.size wr wx → Calls Try.prog 9 #[.pointer (some ⟨a, 0, none⟩), .string (keyB N), .string (keyB N), .int .i64 ht] wx fun e w' => e = .returned (.int .i64 0) ∧ Hid (OneS (W.heap.size + 1) w' a (putP P (keyB N, keyB N)) ∧ ManyP step (i + 1) (putP P (keyB N, keyB N)) ∧ w'.heap[W.heap.size]? = some (.cells #[.bool false] 4 (0, 0)) ∧ Below W.heap.size W w')) := Lib.hid fun ht wx hx => by
        obtain ⟨s1, s2, s3, s4⟩ := HS.out
        have hz := heap_lt s3
        refine (one_put s1 hz hx (keyB N) (keyB N) ht (by rw [s2.len]; omega) (by rw [s2.bytes]; omega) (fun x hx => by obtain ⟨h1, j, _, _, h2⟩ := s2.mem x hx; rw [← h1, h2, keyB_size]; omega) (by rw [keyB_size]; omega) (by rw [keyB_size]; omega)).mono ?_
        rintro e w' ⟨rfl, h1, h2⟩
        exact ⟨rfl, Lib.hid ⟨h1, HMP.out, (h2.block _ (by omega)).trans ((hx.block _ hz).trans s3), s4.trans ((hx.mono s4.size).trans (h2.mono (by omega)))⟩⟩
      go_upto_region 13 with fail
      clear hcv
      go_loopw [11, 12] (fun v11 v12 wi => ∃ (h j : Nat), v11 = .int .i64 (h : Int) ∧ v12 = .int .i64 (j : Int) ∧ 1 ≤ j ∧ 1 ≤ h ∧ h + j ≤ i + 2 ∧ Below wr.heap.size wr wi) (fun _ v _ => (intOf v).toNat)
      case atStart => exact ⟨1, i + 1, rfl, by go_num, by omega, by omega, by omega, (Below.refl _ _).alloc (Nat.le_refl _) _⟩
      case round =>
        obtain ⟨h, j, rfl, rfl, hj1, hh1, hjh, hBi⟩ := hrel
        by_cases hev : (j : Int) % 2 = 0
        · go_wp2
          go_roundw
          case rel => exact ⟨h + 1, j / 2, by go_num, by go_num, by omega, by omega, by omega, hBi⟩
          case measure => simp [intOf] <;> omega
        · go_wp2_with (go_at_call 9; (with_reducible refine (PU.out _ _ hBi).mono ?_); rintro e w5 ⟨rfl, HS5⟩)
          go_roundw
          case rel => exact ⟨i + 1, _, by omega, by rw [HNN.out], by go_num, HS5⟩
          case measure => simp [intOf] <;> omega
    · have hik2 : i = k := by omega
      subst hik2
      obtain ⟨F2, H2, st2, hS2, hF2⟩ := HS.out.1
      have HS2 := Lib.hid hS2
      have HF2 := Lib.hid hF2
      clear hS2 hF2
      go_upto_region 21 with (first | (go_at_call 10; refine (from_make _ _ _).mono ?_; rintro e w5 ⟨rfl, rfl⟩))
      have hb4 : Below wr.heap.size wr ((((wr.alloc (.cells #[.string ⟨#[]⟩] 9)).alloc (.cells #[.int .i64 0] 3)).alloc (.cells #[.pointer (some ⟨a, 0, none⟩)] 24)).alloc (.cells #[.string ⟨#[]⟩] 9)) := by (repeat (first | exact Below.refl _ _ | assumption | apply below_drewN | (refine Below.setCell ?_ (by first | assumption | omega | (simp; try omega)) _) | (refine Below.alloc ?_ (by first | assumption | omega | (simp; try omega)) _)))
      have x13 : ((((wr.alloc (.cells #[.string ⟨#[]⟩] 9)).alloc (.cells #[.int .i64 0] 3)).alloc (.cells #[.pointer (some ⟨a, 0, none⟩)] 24)).alloc (.cells #[.string ⟨#[]⟩] 9)).heap[wr.heap.size]? = some (.cells #[.string ⟨#[]⟩] 9 (0, 0)) := (Below.heap_alloc _ _ _ (by simp <;> omega)).trans ((Below.heap_alloc _ _ _ (by simp <;> omega)).trans (heap_alloc2_old _ _ _))
      have x14 : ((((wr.alloc (.cells #[.string ⟨#[]⟩] 9)).alloc (.cells #[.int .i64 0] 3)).alloc (.cells #[.pointer (some ⟨a, 0, none⟩)] 24)).alloc (.cells #[.string ⟨#[]⟩] 9)).heap[wr.heap.size + 1]? = some (.cells #[.int .i64 0] 3 (0, 0)) := (Below.heap_alloc _ _ _ (by simp <;> omega)).trans ((Below.heap_alloc _ _ _ (by simp)).trans (heap_alloc2_new _ _ _))
      have xl : ((((wr.alloc (.cells #[.string ⟨#[]⟩] 9)).alloc (.cells #[.int .i64 0] 3)).alloc (.cells #[.pointer (some ⟨a, 0, none⟩)] 24)).alloc (.cells #[.string ⟨#[]⟩] 9)).heap[wr.heap.size + 2]? = some (.cells #[.pointer (some ⟨a, 0, none⟩)] 24 (0, 0)) := (Below.heap_alloc _ _ _ (by simp)).trans (heap_new (by simp))
      have xk : ((((wr.alloc (.cells #[.string ⟨#[]⟩] 9)).alloc (.cells #[.int .i64 0] 3)).alloc (.cells #[.pointer (some ⟨a, 0, none⟩)] 24)).alloc (.cells #[.string ⟨#[]⟩] 9)).heap[wr.heap.size + 3]? = some (.cells #[.string ⟨#[]⟩] 9 (0, 0)) := heap_new (by simp)
      have hsz : ((((wr.alloc (.cells #[.string ⟨#[]⟩] 9)).alloc (.cells #[.int .i64 0] 3)).alloc (.cells #[.pointer (some ⟨a, 0, none⟩)] 24)).alloc (.cells #[.string ⟨#[]⟩] 9)).heap.size = wr.heap.size + 4 := by simp
      generalize ((((wr.alloc (.cells #[.string ⟨#[]⟩] 9)).alloc (.cells #[.int .i64 0] 3)).alloc (.cells #[.pointer (some ⟨a, 0, none⟩)] 24)).alloc (.cells #[.string ⟨#[]⟩] 9)) = W0 at hb4 x13 x14 xl xk hsz ⊢
      have hWr : W.heap.size < wr.heap.size := heap_lt HS.out.2.2.1
      have x4 : W0.heap[W.heap.size]? = some (.cells #[.bool false] 4 (0, 0)) := (hb4.block _ hWr).trans HS.out.2.2.1
      have HX4 := Lib.hid x4
      have HBW0 : Hid (Below W.heap.size W W0) := Lib.hid (below_at HS.out.2.2.2 hb4)
      have HMP := Lib.hid HS.out.2.1
      have hSL := HS2.out
      have hsort := hSL.sorted
      obtain ⟨sa, cap, T, q, hM, hL, hPq, hH, hFt⟩ := hSL
      have hfl : ∀ k, footS a sa T k → W.heap.size + 1 ≤ k ∧ k < wr.heap.size := fun k hk => HF2.out k (hFt k hk)
      have haW := hfl a (.inl rfl)
      have hql : q.length = P.length := by rw [← hPq]; simp [pairsOf]
      have hfr : fromL T q ⟨#[]⟩ = P := by rw [← from_pairs, hPq, fromP_all]
      have hM0 := hM.moved hb4
      have HE : Hid (∀ V, (∃ st', SkM V a sa cap T (bytesP P) st') → ∃ st', SkL V F2 a P H2 st') := Lib.hid fun V ⟨st', h⟩ => ⟨st', sa, cap, T, q, h, hL, hPq, hH, hFt⟩
      obtain ⟨Q0, hQ0⟩ : ∃ Q0 : Nat → Obj → Prop, Q0 = fun k _ => k = wr.heap.size ∨ k = wr.heap.size + 1 ∨ k = W.heap.size := ⟨_, rfl⟩
      have hq13 : ∀ o, Q0 wr.heap.size o := fun o => by rw [hQ0]; exact .inl rfl
      have hq14 : ∀ o, Q0 (wr.heap.size + 1) o := fun o => by rw [hQ0]; exact .inr (.inl rfl)
      have hq4 : ∀ o, Q0 W.heap.size o := fun o => by rw [hQ0]; exact .inr (.inr rfl)
      have hqn : ∀ k o, Q0 k o → k < W0.heap.size := fun k o h => by rw [hQ0] at h; omega
      have hseq := from_stops (wr.heap.size + 2) (wr.heap.size + 3) a sa cap T _ st2 q ⟨#[]⟩ Q0 ⟨fun cs fr h => by rw [hQ0] at h; omega, fun k o cs fr hk h => by rw [hQ0] at h; have := hfl k (.inr (.inl ⟨o, hk⟩)); omega, fun r hr cs fr h => by rw [hQ0] at h; have := hfl r.nb (.inr (.inr ⟨r, hr, rfl⟩)); omega⟩ (fun cs fr h => by rw [hQ0] at h; omega) W0 hM0 hL xl xk
      rw [hfr] at hseq
      have hET : ∀ A B, (∃ st', SkM A a sa cap T (bytesP P) st') → Turns (fun k => k = W0.heap.size + 1) A B → ∃ st', SkM B a sa cap T (bytesP P) st' := fun A B ⟨st', h⟩ t => ⟨st', h.of_foot fun k hk => by
        have hkA := foot_lt h k hk
        rw [Array.getElem?_eq_getElem hkA]
        have := hfl k hk
        exact t.same k _ (by omega) (Array.getElem?_eq_getElem hkA)⟩
      clear hM hL hPq hH hFt hM0 hfr hQ0 HS2 HF2 HS xl xk x4 hb4 hik
      refine (wpIn_wide (n := 6)).1 ?_
      refine range_lawG rfl (by decide) (gf := 27) (lb := #[.pointer (some ⟨wr.heap.size + 2, 0, none⟩), .pointer (some ⟨wr.heap.size + 3, 0, none⟩)]) rfl trivial (fun _ _ => rfl) hseq hET (by rintro k rfl; omega) keepsY_t (fun V o o' h1 h2 => keepsY_b V _ o o' h1 h2 (by omega)) (Below.refl _ _) (fun _ => rfl)
        (fun pre V => ChgQ (fun k => k = wr.heap.size ∨ k = wr.heap.size + 1 ∨ k = W.heap.size ∨ k = a) W0 V ∧ V.heap[wr.heap.size]? = some (.cells #[.string (lastK pre)] 9 (0, 0)) ∧ V.heap[wr.heap.size + 1]? = some (.cells #[.int .i64 (pre.length : Int)] 3 (0, 0)) ∧ V.heap[W.heap.size]? = some (.cells #[.bool false] 4 (0, 0)))
        (fun c pre V => c = .ret ∧ ¬ (pre <+: P))
        (fun s A B h t => ⟨chg_turns h.1 t (by rintro k rfl; omega), t.same _ _ (by omega) h.2.1, t.same _ _ (by omega) h.2.2.1, t.same _ _ (by omega) h.2.2.2⟩)
        (fun c s A B h t => h)
        (fun s A B h t => ⟨chg_turns h.1 t (by rintro k rfl _; exact .inr (.inr (.inr rfl))), t.same _ _ (by omega) h.2.1, t.same _ _ (by omega) h.2.2.1, t.same _ _ (by omega) h.2.2.2⟩)
        (fun c s A B h t => h)
        ⟨ChgQ.refl _ _, x13, x14, HX4.out⟩ ?round ?done ?stop
      case round =>
        rintro L' pre x V hL' hfl2 ⟨hC, h13, h14, h4⟩ hlt2 hloop
        gi_wp2
        refine ⟨keepsFrom_below (Below.refl _ _), keepsY_r _, fun V2 hbusy => ?_⟩
        have g13 := hbusy.keeps h13 rfl
        have g14 := hbusy.keeps h14 rfl
        have g4 := hbusy.keeps h4 rfl
        have hC2 := hbusy.chg (by omega) hC
        have d13 : V2.cell? ⟨wr.heap.size, 0, none⟩ = some (.string (lastK pre)) := by rw [cell_of_row _ _ _ _ _ _ g13]; rfl
        have d14 : V2.cell? ⟨wr.heap.size + 1, 0, none⟩ = some (.int .i64 (pre.length : Int)) := by rw [cell_of_row _ _ _ _ _ _ g14]; rfl
        have d4 : V2.cell? ⟨W.heap.size, 0, none⟩ = some (.bool false) := by rw [cell_of_row _ _ _ _ _ _ g4]; rfl
        have f13 := frozen_of_row _ _ 0 _ _ g13
        have f14 := frozen_of_row _ _ 0 _ _ g14
        have f4 := frozen_of_row _ _ 0 _ _ g4
        have HC2 := Lib.hid hC2
        have G13 := Lib.hid g13
        have G14 := Lib.hid g14
        have G4 := Lib.hid g4
        have HGOOD : Hid (pre ++ [x] <+: P → (0 < pre.length → bLt (lastK pre) x.1 = true) ∧ x.1 = x.2) := Lib.hid fun hp => ⟨lastK_lt hsort hp, (HMP.out.mem x (hp.subset (by simp))).1⟩
        have hprl : (pre.length : Int) ≤ 1000 := by have := HMP.out.len; omega
        obtain ⟨lk, hlk⟩ : ∃ z, z = lastK pre := ⟨_, rfl⟩
        obtain ⟨m, hm⟩ : ∃ z, z = pre.length := ⟨_, rfl⟩
        rw [← hlk] at d13 HGOOD
        rw [← hm] at d14 HGOOD hprl
        have HM' := Lib.hid hm
        obtain ⟨x1, x2⟩ := x
        simp only at HGOOD
        have FIN : Hid (∀ (s : ByteArray) (v : Int), s = x1 → v = (pre.length : Int) + 1 → KeepsFrom W0.heap.size V2 ((V2.setCell ⟨wr.heap.size, 0, none⟩ (.string s)).setCell ⟨wr.heap.size + 1, 0, none⟩ (.int .i64 v)).drew ∧ KeepsY Q0 (W0.heap.size + 2) V2 ((V2.setCell ⟨wr.heap.size, 0, none⟩ (.string s)).setCell ⟨wr.heap.size + 1, 0, none⟩ (.int .i64 v)).drew ∧
            ChgQ (fun k => k = wr.heap.size ∨ k = wr.heap.size + 1 ∨ k = W.heap.size ∨ k = a) W0 ((V2.setCell ⟨wr.heap.size, 0, none⟩ (.string s)).setCell ⟨wr.heap.size + 1, 0, none⟩ (.int .i64 v)).drew ∧ ((V2.setCell ⟨wr.heap.size, 0, none⟩ (.string s)).setCell ⟨wr.heap.size + 1, 0, none⟩ (.int .i64 v)).drew.heap[wr.heap.size]? = some (.cells #[.string (lastK (pre ++ [(x1, x2)]))] 9 (0, 0)) ∧ ((V2.setCell ⟨wr.heap.size, 0, none⟩ (.string s)).setCell ⟨wr.heap.size + 1, 0, none⟩ (.int .i64 v)).drew.heap[wr.heap.size + 1]? = some (.cells #[.int .i64 (((pre ++ [(x1, x2)]).length : Nat) : Int)] 3 (0, 0)) ∧ ((V2.setCell ⟨wr.heap.size, 0, none⟩ (.string s)).setCell ⟨wr.heap.size + 1, 0, none⟩ (.int .i64 v)).drew.heap[W.heap.size]? = some (.cells #[.bool false] 4 (0, 0))) := Lib.hid (by
          rintro s v rfl hv
          have hk1 : KeepsY Q0 W0.heap.size V2 ((V2.setCell ⟨wr.heap.size, 0, none⟩ (.string s)).setCell ⟨wr.heap.size + 1, 0, none⟩ (.int .i64 v)).drew := keepsY_t (keepsY_setCell _ _ _ _ hq13) (keepsY_t (keepsY_setCell _ _ _ _ hq14) ⟨Nat.le_refl _, fun k o _ h _ => h⟩)
          refine ⟨hk1.from' hqn (Nat.le_refl _), hk1.up (by omega), (HC2.out.trans ((ChgQ.setCell _ _ _ _ (.inl rfl)).trans (ChgQ.setCell _ _ _ _ (.inr (.inl rfl))))).trans ⟨rfl, rfl, rfl, Nat.le_refl _, fun _ _ _ => rfl⟩, ?_, ?_, ?_⟩
          · rw [lastK_snoc]
            exact (heap_setCell_other _ _ _ _ (by simp)).trans (heap_set4 G13.out 0 _ _ rfl)
          · have e : (((pre ++ [(s, x2)]).length : Nat) : Int) = v := by rw [hv]; simp
            rw [e]
            exact heap_set4 ((heap_setCell_other _ _ _ _ (by simp)).trans G14.out) 0 _ _ rfl
          · exact (heap_setCell_other _ _ _ _ (by simp; omega)).trans ((heap_setCell_other _ _ _ _ (by simp; omega)).trans G4.out))
        have BAD : Hid (¬ (pre ++ [(x1, x2)] <+: P) → KeepsFrom W0.heap.size V2 (V2.setCell ⟨W.heap.size, 0, none⟩ (.bool false)) ∧ KeepsY Q0 (W0.heap.size + 2) V2 (V2.setCell ⟨W.heap.size, 0, none⟩ (.bool false)) ∧ Code.ret = Code.ret ∧ ¬ (pre ++ [(x1, x2)] <+: P)) := Lib.hid (fun hno => by
          have hk1 : KeepsY Q0 W0.heap.size V2 (V2.setCell ⟨W.heap.size, 0, none⟩ (.bool false)) := keepsY_setCell _ _ _ _ hq4
          exact ⟨hk1.from' hqn (Nat.le_refl _), hk1.up (by omega), rfl, hno⟩)
        clear hC h13 h14 h4 g13 g14 g4 hC2 hbusy hlk hm hseq hET HC2 G13 G14 G4 hq13 hq14 hq4 hqn hsz
        by_cases hx : x1 = x2
        · have s0 := str_bb hx
          have s1 : (x1.toList != x2.toList) = false := by rw [bne, s0]; rfl
          by_cases hm0 : m = 0
          · subst hm0
            clear hx
            gi_wp2
            gi_region
            all_goals exact FIN.out _ _ (by first | rfl | assumption | exact (ba_inj (by simpa using s0)).symm) (by rw [← HM'.out]; decide)
          · have hm1 : 0 < (m : Int) := by omega
            by_cases hb : bLt lk x1 = true
            · have q1 : Op.bytesLess x1.toList lk.toList = false := bLt_asymm hb
              have q2 := str_nb (fun e : x1 = lk => bLt_ne hb e.symm)
              clear hx hb
              gi_wp2
              gi_region
              all_goals exact FIN.out _ _ (by first | rfl | assumption | exact (ba_inj (by simpa using s0)).symm) (by rw [← HM'.out, IntKind.wrap_i64]; omega)
            · have hno : ¬ (pre ++ [(x1, x2)] <+: P) := fun hp => hb ((HGOOD.out hp).1 (by omega))
              rcases bLt_total x1 lk with h | h | h
              · have q1 : Op.bytesLess x1.toList lk.toList = true := h
                have q2 := str_nb (bLt_ne h)
                clear hx hb h
                gi_wp2
                exact ⟨(BAD.out hno).1, (BAD.out hno).2.1, rfl, hno⟩
              · have q1 : Op.bytesLess x1.toList lk.toList = false := by rw [h]; exact bLt_irrefl lk
                have q2 := str_bb h
                clear hx hb h
                gi_wp2
                exact ⟨(BAD.out hno).1, (BAD.out hno).2.1, rfl, hno⟩
              · exact absurd h hb
        · have s0 := str_nb hx
          have s1 : (x1.toList != x2.toList) = true := by rw [bne, s0]; rfl
          have hno : ¬ (pre ++ [(x1, x2)] <+: P) := fun hp => hx (HGOOD.out hp).2
          by_cases hm0 : m = 0
          · subst hm0
            clear hx
            gi_wp2
            exact ⟨(BAD.out hno).1, (BAD.out hno).2.1, rfl, hno⟩
          · have hm1 : 0 < (m : Int) := by omega
            obtain ⟨q1v, q1⟩ : ∃ z, Op.bytesLess x1.toList lk.toList = z := ⟨_, rfl⟩
            obtain ⟨q2v, q2⟩ : ∃ z, (x1.toList == lk.toList) = z := ⟨_, rfl⟩
            clear hx
            cases q1v <;> cases q2v
            all_goals gi_wp2
            all_goals exact ⟨(BAD.out hno).1, (BAD.out hno).2.1, rfl, hno⟩
      case done =>
        rintro D ys V hD hEV rfl ⟨hC, h13, h14, h4⟩ hK
        have hSV := HE.out V hEV
        obtain ⟨st3, hS3⟩ := hSV
        have LEN := Lib.hid (skl_len a F2 ys H2 st3 V hS3)
        have BYT := Lib.hid (skl_bytes a F2 ys H2 st3 V hS3)
        rw [HMP.out.len] at LEN h14
        rw [HMP.out.bytes] at BYT
        have d14 : V.cell? ⟨wr.heap.size + 1, 0, none⟩ = some (.int .i64 (i : Int)) := by rw [cell_of_row _ _ _ _ _ _ h14]; rfl
        have d4 : V.cell? ⟨W.heap.size, 0, none⟩ = some (.bool false) := by rw [cell_of_row _ _ _ _ _ _ h4]; rfl
        have f4 := frozen_of_row _ _ 0 _ _ h4
        have HBV := Lib.hid (HBW0.out.trans (hC.below (n := W.heap.size) HBW0.out.size (by omega)))
        have HC4 := Lib.hid h4
        have HK := Lib.hid hK
        have hDb : W0.heap.size ≤ D := by omega
        have HK2 : Hid ((V.setCell ⟨W.heap.size, 0, none⟩ (.bool true)).heap[D]? = some (.deferred (some []))) := Lib.hid ((heap_setCell_other _ _ _ _ (by simp; omega)).trans hK)
        clear hC h13 h14 h4 hK hEV hS3 hseq hET hD
        go_wp2_with (first | (go_at_call 11; (with_reducible refine LEN.out.mono ?_); rintro e w' ⟨rfl, rfl⟩) | (go_at_call 12; (with_reducible refine BYT.out.mono ?_); rintro e w' ⟨rfl, rfl⟩))
        have hK2 := HK2.out
        refine ⟨by simp, .inl ⟨_, _, rfl, run_takeDeferred hK2, ?_⟩⟩
        refine ⟨_, results_box1 Try.results3 _ _ W.heap.size (.bool true) rfl ((World.putObj_heap_other (by omega)).trans (heap_set4 HC4.out 0 (.bool true) _ rfl)) isAgg_bool, rfl, ?_⟩
        exact (HBV.out.setCell (p := ⟨W.heap.size, 0, none⟩) (by simp) _).trans (belowK_b (w := W) (Nat.le_refl _) _ D _ _ (by omega) hK2 rfl rfl)
      case stop =>
        rintro D c pre V hD hEV hp ⟨rfl, hno⟩ hK
        exact absurd hp hno
end Go.Proofs.Ytacgpflheokkaaa
