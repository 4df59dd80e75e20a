/-
  The law's Row: the pairs of a row, at most so many: over any iterator, by contract.
-/
import Derived.Test.YtacgpflheokkaaaSkpFrom
namespace Go.Proofs.Ytacgpflheokkaaa
open Go.RowKit Go.Shelf
set_option linter.unusedVariables false
set_option linter.unusedSimpArgs false
attribute [local go_sem] Oper.semAt_some

def pairRow (x : PairS) : List Value := [.string x.1, .string x.2]
theorem info_pair : (Try.prog.info? 49).map (fun i => (i.zero, i.size, i.bytes)) = some (some (.agg #[.string ByteArray.empty, .string ByteArray.empty]), 2, 32) := by kernel_rfl
/-- what the row's loop may turn: its own box, rows of pairs -/
def rowQ (box : Nat) (k : Nat) (o : Obj) : Prop := k = box ∨ ∃ cs fr, o = .cells cs 49 fr
/-- the loop's state: what has been collected -/
structure RowI (W0 V : World) (box b : Nat) (l : List PairS) : Prop where
  ex : ∃ v, V.heap[box]? = some (.cells #[v] 43 (0, 0)) ∧ V.ownsRow (W0.heap.size + 2) 49 2 v l.length (l.flatMap pairRow)
  chg : ChgQ (fun k => k = box ∨ k = b) W0 V
theorem RowI.turns {W0 A B : World} {box b : Nat} {l : List PairS} {own : Nat → Prop} (h : RowI W0 A box b l) (t : Turns own A B) (ho : ∀ k, own k → k ≠ box ∧ k < W0.heap.size + 2 ∧ (k < W0.heap.size → k = b)) : RowI W0 B box b l := by
  obtain ⟨v, h1, h2⟩ := h.ex
  refine ⟨⟨v, t.same _ _ (fun hh => (ho _ hh).1 rfl) h1, ?_⟩, ⟨t.os.trans h.chg.os, t.tape.trans h.chg.tape, t.output.trans h.chg.output, Nat.le_trans h.chg.size t.size, fun k hk hq => ?_⟩⟩
  · obtain ⟨hl, hx | ⟨g, c, cur, hv, hb, hc, hr⟩⟩ := h2
    · exact ⟨hl, .inl hx⟩
    · exact ⟨hl, .inr ⟨g, c, cur, hv, hb, t.same _ _ (fun hh => by have := (ho _ hh).2.1; omega) hc, hr⟩⟩
  · have h3 := h.chg.block k hk hq
    have hlt : k < A.heap.size := Nat.lt_of_lt_of_le hk h.chg.size
    rw [← h3, Array.getElem?_eq_getElem hlt]
    exact t.same k _ (fun hh => hq (.inr ((ho _ hh).2.2 hk))) (Array.getElem?_eq_getElem hlt)

theorem own_set2 {w : World} {base : Nat} {e : TypeId} {m : Nat} {v : Value} {n : Nat} {xs : List Value} {B i : Nat} {x : Value} {cs : Array Value} {t : TypeId} {fr : Nat × Nat} (h : w.ownsRow base e m v n xs) (hB : w.heap[B]? = some (.cells cs t fr)) (ht : t ≠ e) : (w.setCell ⟨B, i, none⟩ x).ownsRow base e m v n xs := by
  obtain ⟨hl, h | ⟨g, cap, cur, hv, hb, hc, hr⟩⟩ := h
  · exact ⟨hl, .inl h⟩
  · refine ⟨hl, .inr ⟨g, cap, cur, hv, hb, ?_, hr⟩⟩
    rw [heap_setCell_other _ _ _ _ (by intro e'; have e'' : B = g := e'.symm; subst e''; rw [hB] at hc; simp only [Option.some.injEq, Obj.cells.injEq] at hc; exact ht hc.2.1)]
    exact hc
theorem own_sl {w : World} {base : Nat} {e : TypeId} {m : Nat} {v : Value} {n : Nat} {xs : List Value} (h : w.ownsRow base e m v n xs) : ∃ a c, v = .slice a n c := by
  obtain ⟨hl, ⟨h, rfl⟩ | ⟨g, cap, cur, hv, _⟩⟩ := h
  · exact ⟨_, _, h⟩
  · exact ⟨_, _, hv⟩
/-- one more pair -/
theorem RowI.push {W0 V w5 : World} {box b : Nat} {l : List PairS} {x : PairS} {v : Value} {g cp : Nat} (h : RowI W0 V box b l) (hbx : box < W0.heap.size) (hv : V.heap[box]? = some (.cells #[v] 43 (0, 0))) (ho : V.ownsRow (W0.heap.size + 2) 49 2 v l.length (l.flatMap pairRow)) (o : Obj)
    (hown : w5.ownsRow (W0.heap.size + 2) 49 2 (.slice (some ⟨g, 0, none⟩) (l.length + 1) cp) (l.length + 1) (l.flatMap pairRow ++ [.string x.1, .string x.2])) (hg : (V.alloc o).grownBy w5 v.ownBlock) :
    RowI W0 (w5.setCell ⟨box, 0, none⟩ (.slice (some ⟨g, 0, none⟩) (l.length + 1) cp)) box b (l ++ [x]) ∧ KeepsY (rowQ box) (W0.heap.size + 2) V (w5.setCell ⟨box, 0, none⟩ (.slice (some ⟨g, 0, none⟩) (l.length + 1) cp)) ∧ KeepsFrom W0.heap.size V (w5.setCell ⟨box, 0, none⟩ (.slice (some ⟨g, 0, none⟩) (l.length + 1) cp)) ∧ w5.heap[box]? = some (.cells #[v] 43 (0, 0)) := by
  have hrow : ∀ k, v.ownBlock = some k → ∃ cs fr, V.heap[k]? = some (.cells cs 49 fr) ∧ W0.heap.size + 2 ≤ k := fun k hk => by
    obtain ⟨_, ⟨h1, _⟩ | ⟨g', c, cur, h1, h2, h3, _⟩⟩ := ho
    · subst h1; cases hk
    · subst h1
      have : g' = k := by simpa [Value.ownBlock] using hk
      subst this; exact ⟨_, _, h3, h2⟩
  have h5 : ∀ k ob, V.heap[k]? = some ob → some k ≠ v.ownBlock → w5.heap[k]? = some ob := fun k ob hk hne => by
    have h1 := (Below.heap_alloc V o k (heap_lt hk)).trans hk
    exact (hg.block k (heap_lt h1) hne).trans h1
  have hsz : V.heap.size ≤ w5.heap.size := by have := hg.size; simp at this; omega
  have hbne : some box ≠ v.ownBlock := fun e => by
    obtain ⟨cs, fr, h1, h2⟩ := hrow box e.symm
    omega
  have hb5 := h5 _ _ hv hbne
  have hall : ∀ k ob, V.heap[k]? = some ob → k ≠ box → some k ≠ v.ownBlock → (w5.setCell ⟨box, 0, none⟩ (.slice (some ⟨g, 0, none⟩) (l.length + 1) cp)).heap[k]? = some ob := fun k ob hk hkb hne => (heap_setCell_other _ _ _ _ (by simpa using hkb)).trans (h5 k ob hk hne)
  refine ⟨⟨⟨_, by rw [heap_setCell_same _ _ 0 _ _ _ hb5]; rfl, ?_⟩, ?_⟩, ⟨by simpa [World.setCell] using hsz, fun k ob hq hk _ => ?_⟩, ⟨by simpa [World.setCell] using hsz, fun k ob hk1 hk hc => ?_⟩, hb5⟩
  · have h2 := own_set2 (i := 0) (x := .slice (some ⟨g, 0, none⟩) (l.length + 1) cp) hown hb5 (by decide)
    rw [List.flatMap_append, List.length_append, List.length_singleton]
    exact h2
  · refine ⟨?_, ?_, ?_, ?_, fun k hk hq => ?_⟩
    · exact hg.os.trans h.chg.os
    · exact hg.tape.trans h.chg.tape
    · exact hg.output.trans h.chg.output
    · have := h.chg.size; simp [World.setCell]; omega
    · have h3 := h.chg.block k hk hq
      have hlt : k < V.heap.size := Nat.lt_of_lt_of_le hk h.chg.size
      rw [← h3, Array.getElem?_eq_getElem hlt]
      refine hall k _ (Array.getElem?_eq_getElem hlt) (fun e => hq (.inl e)) (fun e => ?_)
      obtain ⟨cs, fr, h1, h2⟩ := hrow k e.symm
      omega
  · refine hall k ob hk (fun e => hq (.inl e)) (fun e => ?_)
    obtain ⟨cs, fr, h1, h2⟩ := hrow k e.symm
    rw [h1] at hk; cases hk
    exact hq (.inr ⟨_, _, rfl⟩)
  · refine hall k ob hk (fun e => ?_) (fun e => ?_)
    · rw [e, hv] at hk; cases hk; cases hc
    · obtain ⟨cs, fr, h1, h2⟩ := hrow k e.symm
      rw [h1] at hk; cases hk; cases hc

/-- the loop's end: its record is taken down -/
theorem RowI.fin {w W0 V : World} {box b : Nat} {l : List PairS} {sa : Option Addr} {cs : Nat} {o : Obj} (h : RowI W0 V box b l) (hv : V.heap[box]? = some (.cells #[.slice sa l.length cs] 43 (0, 0))) (hbel : Below w.heap.size w W0) (hbx : box < W0.heap.size) (hwb : w.heap.size ≤ box) :
    ∃ a c, Value.slice sa l.length cs = .slice a l.length c ∧ RowsAt (V.putObj W0.heap.size o) a 2 pairRow l ∧ ChgQ (fun k => k = b) w (V.putObj W0.heap.size o) := by
  have t : Turns (fun k => k = W0.heap.size) V (V.putObj W0.heap.size o) := ⟨by simp [World.putObj], fun k ob hk hh => by rw [World.putObj_heap_other hk]; exact hh, rfl, rfl, rfl⟩
  have h2 := h.turns t (by rintro k rfl; omega)
  have hv2 := t.same _ _ (by omega) hv
  obtain ⟨v, h3, ho⟩ := h2.ex
  rw [hv2] at h3; simp only [Option.some.injEq, Obj.cells.injEq, and_true] at h3
  have h3' : Value.slice sa l.length cs = v := by simpa using h3
  subst h3'
  obtain ⟨a1, c1, e1, hr1, _, _⟩ := own_rowsN (enc := pairRow) ho (fun _ => rfl)
  refine ⟨a1, c1, e1, hr1, ⟨h2.chg.os.trans hbel.os, h2.chg.tape.trans hbel.tape, h2.chg.output.trans hbel.output, Nat.le_trans hbel.size h2.chg.size, fun k hk hq => ?_⟩⟩
  have hnq : ¬ (k = box ∨ k = b) := fun e => by
    rcases e with e | e
    · omega
    · exact hq e
  rw [h2.chg.block k (Nat.lt_of_lt_of_le hk hbel.size) hnq]
  exact hbel.block k hk

set_option maxRecDepth 100000 in
set_option maxHeartbeats 8000000 in
theorem law_row (gf b : Nat) (lb : Array Value) (l : List PairS) (most : Int) (N : Nat) (E : World → Prop) (w : World) (hb : b < w.heap.size) (hm : -9223372036854775808 ≤ most ∧ most ≤ 9223372036854775807) (hN : N ≤ 100000) (hlN : l.length ≤ N)
    (eg : ∀ args w, (callFunc gf args).run Try.prog w = .ok (.enter gf args) w)
    (hE : ∀ A B, E A → (∀ k o, k < w.heap.size → A.heap[k]? = some o → B.heap[k]? = some o) → E B)
    (hseq : ∀ W0, Below w.heap.size w W0 → w.heap.size + 2 ≤ W0.heap.size → SeqStopsG Fence.wide 5 Try.prog gf lb (fun x : PairS => #[Value.string x.1, Value.string x.2]) (fun _ k => k = b) 0 (KeepsY (rowQ (w.heap.size + 1))) E (fun ys => ys = l) (fun pre => pre <+: l) N W0) :
    Calls Try.prog 16 #[.func (.func gf) #[] lb, .int .i64 most] w fun e w' => ∃ a c, e = .returned (.slice a (l.take most.toNat).length c) ∧ RowsAt w' a 2 pairRow (l.take most.toNat) ∧ E w' ∧ ChgQ (fun k => k = b) w w' := by
  refine (callsIn_wide (n := 6)).1 ?_
  refine callsIn_of_wp_marks Try.func16 rfl trivial ?_ rfl
  simp only [Try.ntmps16, List.size_toArray, List.length_cons, List.length_nil, Nat.reduceAdd, Nat.reduceSub, Array.replicate_succ, Array.replicate_zero, List.push_toArray, List.append_toArray, List.nil_append, List.cons_append]
  have HSEQ := Lib.hid hseq
  clear hseq
  gi_wp2
  have hbel : Below w.heap.size w ((w.alloc (.cells #[.int .i64 most] 3)).alloc (.cells #[.slice none 0 0] 43)) := by (repeat (first | exact Below.refl _ _ | assumption | apply below_drewN | (refine Below.setCell ?_ (by first | assumption | omega | (simp; try omega)) _) | (refine Below.alloc ?_ (by first | assumption | omega | (simp; try omega)) _)))
  have hx3 : ((w.alloc (.cells #[.int .i64 most] 3)).alloc (.cells #[.slice none 0 0] 43)).heap[w.heap.size]? = some (.cells #[.int .i64 most] 3 (0, 0)) := heap_alloc2_old _ _ _
  have hx5 : ((w.alloc (.cells #[.int .i64 most] 3)).alloc (.cells #[.slice none 0 0] 43)).heap[w.heap.size + 1]? = some (.cells #[.slice none 0 0] 43 (0, 0)) := heap_alloc2_new _ _ _
  have hsz : ((w.alloc (.cells #[.int .i64 most] 3)).alloc (.cells #[.slice none 0 0] 43)).heap.size = w.heap.size + 2 := by simp
  generalize (w.alloc (.cells #[.int .i64 most] 3)).alloc (.cells #[.slice none 0 0] 43) = W0 at hbel hx3 hx5 hsz ⊢
  have hI0 : RowI W0 W0 (w.heap.size + 1) b [] := ⟨⟨_, hx5, World.ownsRow_nil _ _ _ _⟩, ChgQ.refl _ _⟩
  have hown : ∀ k, k = W0.heap.size + 1 → k ≠ w.heap.size + 1 ∧ k < W0.heap.size + 2 ∧ (k < W0.heap.size → k = b) := by omega
  have hownb : ∀ k, k = b → k ≠ w.heap.size + 1 ∧ k < W0.heap.size + 2 ∧ (k < W0.heap.size → k = b) := by omega
  refine range_lawG rfl (by decide) (gf := gf) (lb := lb) rfl trivial eg (HSEQ.out W0 hbel (by omega)) (fun A B h t => hE A B h fun k o hk ho => t.same k o (by omega) ho) (by rintro k rfl; omega) keepsY_t (fun V o o' h1 h2 => keepsY_b V _ o o' h1 h2 (by omega)) (Below.refl _ _) (fun _ => rfl)
    (fun pre V => RowI W0 V (w.heap.size + 1) b pre ∧ (pre.length : Int) ≤ max most 0) (fun c pre V => c = .exit 0 ∧ ∃ pre0 x, pre = pre0 ++ [x] ∧ RowI W0 V (w.heap.size + 1) b pre0 ∧ (pre0.length : Int) = max most 0)
    (fun s A B h t => ⟨h.1.turns t hown, h.2⟩)
    (fun c s A B h t => ⟨h.1, by obtain ⟨p, x, e, h1, h2⟩ := h.2; exact ⟨p, x, e, h1.turns t hown, h2⟩⟩)
    (fun s A B h t => ⟨h.1.turns t hownb, h.2⟩)
    (fun c s A B h t => ⟨h.1, by obtain ⟨p, x, e, h1, h2⟩ := h.2; exact ⟨p, x, e, h1.turns t hownb, h2⟩⟩)
    ⟨hI0, by simp; omega⟩ ?round ?done ?stop
  case round =>
    rintro L' pre x V hL' hfl ⟨hI, hlm⟩ hlt hloop
    gi_wp2
    refine ⟨keepsFrom_below (Below.refl _ _), keepsY_r _, fun V2 hbusy => ?_⟩
    have hI2 : RowI W0 V2 (w.heap.size + 1) b pre := by
      obtain ⟨o1, o2, h1, _, _, _, rfl⟩ := hbusy
      exact hI.turns ((Turns.putObj h1).mono (by rintro k rfl; omega)) hown
    obtain ⟨v, hv, ho⟩ := hI2.ex
    have hm3 := hI2.chg.heap (k := w.heap.size) (by omega) hx3
    have d3 : V2.cell? ⟨w.heap.size, 0, none⟩ = some (.int .i64 most) := by rw [cell_of_row _ _ _ _ _ _ hm3]; rfl
    obtain ⟨sa, cs, rfl⟩ := own_sl ho
    have d5 : V2.cell? ⟨w.heap.size + 1, 0, none⟩ = some (.slice sa pre.length cs) := by rw [cell_of_row _ _ _ _ _ _ hv]; rfl
    have HI2 := Lib.hid hI2
    have HV := Lib.hid hv
    have HO := Lib.hid ho
    have hV2 : W0.heap.size + 2 ≤ V2.heap.size := by
      obtain ⟨o1, o2, h1, _, _, _, rfl⟩ := hbusy
      simp [World.putObj]; omega
    clear hI hI2 hv ho hm3 hbusy
    by_cases hmp : most ≤ (pre.length : Int)
    · have hex : (pre.length : Int) = max most 0 := by omega
      gi_wp2
      exact ⟨keepsFrom_below (Below.refl _ _), keepsY_r _, rfl, pre, x, rfl, HI2.out, hex⟩
    · obtain ⟨n, hn⟩ : ∃ n, n = pre.length := ⟨_, rfl⟩
      have HN := Lib.hid hn
      gi_wp2_with (gi_at_builtin; refine wpIn_append_row rfl _ _ 43 rfl (W0.heap.size + 2) 49 Try.underlying43 (.agg #[.string ByteArray.empty, .string ByteArray.empty]) 2 32 info_pair rfl (by decide) (by decide) _ (.slice sa pre.length cs) pre.length _ rfl (HO.out.alloc _) #[.string x.1, .string x.2] V2.heap.size (heap_alloc_new _ _) rfl (by simp [Value.oneCell']) rfl (by omega) (by simp; omega) ?_; intro g cp w5 hown5 hg5; have hP := Lib.hid (HI2.out.push (by omega) HV.out HO.out _ hown5 hg5); have hb5 : w5.heap[w.heap.size + 1]? = some (.cells #[.slice sa pre.length cs] 43 (0, 0)) := hP.out.2.2.2; have m5 : w5.cell? ⟨w.heap.size + 1, 0, none⟩ = some (.slice sa pre.length cs) := (by rw [cell_of_row _ _ _ _ _ _ hb5]; rfl); have f5 := frozen_of_row _ _ 0 _ _ hb5; clear hown5 hg5)
      rw [← hsz]
      exact ⟨hP.out.2.2.1, hP.out.2.1, hP.out.1, by simp; omega⟩
  case done =>
    rintro D ys V hD hEV rfl ⟨hI, hlm⟩ hK
    subst hD
    obtain ⟨v, hv, ho⟩ := hI.ex
    obtain ⟨sa, cs, rfl⟩ := own_sl ho
    have d5 : V.cell? ⟨w.heap.size + 1, 0, none⟩ = some (.slice sa ys.length cs) := by rw [cell_of_row _ _ _ _ _ _ hv]; rfl
    have HF := Lib.hid (hI.fin (o := .deferred none) hv hbel (by omega) (by omega))
    have HEV := Lib.hid (hE V (V.putObj W0.heap.size (.deferred none)) hEV (fun k o hk ho => by rw [World.putObj_heap_other (by omega)]; exact ho))
    have HK := Lib.hid hK
    have HTK := Lib.hid (show ys.take most.toNat = ys from List.take_of_length_le (by omega))
    clear hI hv ho hK hEV
    gi_wp2
    refine ⟨by simp, .inl ⟨_, _, rfl, run_takeDeferred HK.out, _, results_tmp Try.results16 _ _ _, ?_⟩⟩
    obtain ⟨a, c, h1, h2, h3⟩ := HF.out
    rw [HTK.out]
    exact ⟨a, c, by rw [← h1]; rfl, h2, HEV.out, h3⟩
  case stop =>
    rintro D c pre V hD hEV hp ⟨rfl, pre0, x, rfl, hI, hlm⟩ hK
    subst hD
    obtain ⟨v, hv, ho⟩ := hI.ex
    obtain ⟨sa, cs, rfl⟩ := own_sl ho
    have d5 : V.cell? ⟨w.heap.size + 1, 0, none⟩ = some (.slice sa pre0.length cs) := by rw [cell_of_row _ _ _ _ _ _ hv]; rfl
    have HF := Lib.hid (hI.fin (o := .deferred none) hv hbel (by omega) (by omega))
    have HEV := Lib.hid (hE V (V.putObj W0.heap.size (.deferred none)) hEV (fun k o hk ho => by rw [World.putObj_heap_other (by omega)]; exact ho))
    have HK := Lib.hid hK
    have HTK := Lib.hid (show l.take most.toNat = pre0 by
      have h1 : pre0 <+: l := (List.prefix_append pre0 [x]).trans hp
      have h2 : most.toNat = pre0.length := by omega
      rw [h2]; exact (List.prefix_iff_eq_take.1 h1).symm)
    clear hI hv ho hK hEV hp
    gi_wp2
    refine ⟨by simp, .inl ⟨_, _, rfl, run_takeDeferred HK.out, _, results_tmp Try.results16 _ _ _, ?_⟩⟩
    obtain ⟨a, c, h1, h2, h3⟩ := HF.out
    rw [HTK.out]
    exact ⟨a, c, by rw [← h1]; rfl, h2, HEV.out, h3⟩
end Go.Proofs.Ytacgpflheokkaaa
