/-
  schema.Under, the document's Text, the chapter's example by contract.
-/
import Derived.Test.YtafdjgmdkbimoaaDoorSchPar
import Derived.Test.YtafdjgmdkbimoaaDoorKeyRefMk
import Derived.Test.YtafdjgmdkbimoaaDoorLawKeyAfter
namespace Go.Proofs.YtafdjgmdkbimoaaDoor
open Go.RowKit
set_option linter.unusedVariables false
set_option linter.unusedSimpArgs false

/-- from where to where keys that begin with some parts stand -/
def underS (S : ByteArray) : ByteArray × ByteArray := if S = ⟨#[]⟩ then (⟨#[]⟩, ⟨#[]⟩) else (S, str ((afterL S.data.toList).getD []))

set_option maxRecDepth 100000 in
set_option maxHeartbeats 2000000 in
theorem schema_under (sort : ByteArray) (l : List PartR) (A : Option Addr) (c : Nat) (w : World) (m : Int) (hr : RowsAt w A 4 PartR.row l) (hA : A = none → c = 0) (hl : l.length ≤ 1000) (hg : ∀ p ∈ l, p.good) (hs : ∀ p ∈ l, p.s.size ≤ 300) (hso : sort.size ≤ 300) (hm : w.cell? ⟨0, 0, none⟩ = some (.int .i64 m)) (hS2 : (ofS sort l).size ≤ 1000) :
    Calls Tryd.prog 18 #[.string sort, .slice A l.length c] w fun e w' => e = .returned (.tuple #[.string (underS (ofS sort l)).1, .string (underS (ofS sort l)).2]) ∧ Below w.heap.size w w' := by
  obtain ⟨S, hS⟩ : ∃ S, S = ofS sort l := ⟨_, rfl⟩
  have OF : Hid (∀ wx, Below w.heap.size w wx → Calls Tryd.prog 26 #[.string sort, .slice A l.length c] wx fun e w' => e = .returned (.string S) ∧ Below w.heap.size w w') := Lib.hid fun wx h => by
    rw [hS]
    exact (schema_of sort l A c wx m (hr.moved h) hA hl hg hs hso (cell0 hm h)).mono fun _ _ ⟨h1, h2⟩ => ⟨h1, below_at h h2⟩
  rw [← hS] at hS2 ⊢
  have W0 : Below w.heap.size w w := Below.refl _ _
  obtain ⟨F, hF⟩ : ∃ F, F = afterL S.data.toList := ⟨_, rfl⟩
  have AF : Hid (∀ wx, Below w.heap.size w wx → Calls Tryd.prog 33 #[.string S] wx fun e w' => e = .returned (.tuple #[.string (str (F.getD [])), .bool F.isSome]) ∧ Below w.heap.size w w') := Lib.hid fun wx h => by
    rw [hF]; exact (key_after S wx hS2).mono fun _ _ ⟨h1, h2⟩ => ⟨h1, below_at h h2⟩
  unfold underS
  rw [← hF]
  by_cases h0 : S = ⟨#[]⟩
  · rw [if_pos h0]
    obtain ⟨a1, b1⟩ := lit_bb (l := []) h0
    clear hS hr hg hs hm hA hF h0
    go_enter Tryd.func18, Tryd.ntmps18
    go_wp2_with (go_at_call 26; (with_reducible refine (OF.out _ W0).mono ?_); rintro e w1 ⟨rfl, hB1⟩)
    go_ret2
    exact ⟨rfl, hB1⟩
  · rw [if_neg h0]
    obtain ⟨a1, b1⟩ := nlit_bb (l := []) h0
    clear hS hr hg hs hm hA hF h0
    go_enter Tryd.func18, Tryd.ntmps18
    go_wp2_with (first | (go_at_call 26; (with_reducible refine (OF.out _ W0).mono ?_); rintro e w1 ⟨rfl, hB1⟩) | (go_at_call 33; (with_reducible refine (AF.out _ hB1).mono ?_); rintro e w2 ⟨rfl, hB2⟩))
    go_ret2
    exact ⟨rfl, hB2⟩

theorem info_rc4 (a n u : Int) (s : ByteArray) : (Tryd.prog.info? 48).map (·.size) = some (cells4 a n u s).size := by kernel_rfl

set_option maxHeartbeats 1000000 in
theorem ref_text (s : ByteArray) (w : World) :
    Calls Tryd.prog 17 #[.string s] w fun e w' => e = .returned (.agg (cells4 116 0 0 s)) ∧ Below w.heap.size w w' := by
  have hz := zero_rpart
  go_enter Tryd.func17, Tryd.ntmps17
  go_wp2
  refine bodyPost_ret (results_cell_row Tryd.results17 _ _ w.heap.size 48 (cells4 116 0 0 s) (0, 0) _ rfl (heap_alloc_new _ _) Tryd.underlying48 rfl (info_rc4 _ _ _ _)) rfl ?_
  exact ⟨rfl, by (repeat (first | exact Below.refl _ _ | assumption | apply below_drewN | (refine Below.alloc ?_ (by first | assumption | omega | (simp; try omega)) _)))⟩

theorem order1 : ofS ⟨#[111]⟩ [⟨117, 0, 1, ByteArray.empty⟩] = ⟨#[116, 111, 0, 0, 117, 0, 0, 0, 0, 0, 0, 0, 1]⟩ := by
  have h1 : partB ⟨116, 0, 0, ⟨#[111]⟩⟩ = some [116, 111, 0, 0] := by unfold partB; rw [if_neg (by simp), if_neg (by simp), if_neg (by simp), if_pos rfl]; congr 1
  have h2 : partB ⟨117, 0, 1, ByteArray.empty⟩ = some [117, 0, 0, 0, 0, 0, 0, 0, 1] := by unfold partB; rw [if_neg (by simp), if_neg (by simp), if_pos rfl]; congr 1
  unfold ofS ofL
  simp only [makeGo, h1, h2]
  rfl
theorem parse1 : thingR [116, 111, 0, 0, 117, 0, 0, 0, 0, 0, 0, 0, 1] = (⟨⟨#[111]⟩, 0, 1, 0, 0, 0, 0, ByteArray.empty⟩, 0) := by kernel_rfl

set_option maxRecDepth 100000 in
set_option maxHeartbeats 2000000 in
theorem awake21 (w : World) (m : Int) (hm : w.cell? ⟨0, 0, none⟩ = some (.int .i64 m)) :
    Calls Tryd.prog 6 #[] w fun e w' => e = .returned (.bool true) ∧ Below w.heap.size w w' := by
  have W0 : Below w.heap.size w w := Below.refl _ _
  have hz := zero_thing
  have KO : Hid (∀ wx, Below w.heap.size w wx → Calls Tryd.prog 16 #[.int .u64 1] wx fun e w' => e = .returned (.string ⟨#[116, 111, 0, 0, 117, 0, 0, 0, 0, 0, 0, 0, 1]⟩) ∧ Below w.heap.size w w') := Lib.hid fun wx h => by
    rw [← order1]
    exact (schema_order 1 m wx (by omega) (cell0 hm h)).mono fun _ _ ⟨h1, h2⟩ => ⟨h1, below_at h h2⟩
  have KO2 : Hid (∀ wx B, (Below w.heap.size w wx ∧ w.heap.size ≤ B ∧ wx.heap[B]? = some (.cells (cellsT ⟨#[111]⟩ 0 1 0 0 0 0 ByteArray.empty) 28 (0, 0))) → Calls Tryd.prog 16 #[.int .u64 1] wx fun e w' => e = .returned (.string ⟨#[116, 111, 0, 0, 117, 0, 0, 0, 0, 0, 0, 0, 1]⟩) ∧ (Below w.heap.size w w' ∧ w.heap.size ≤ B ∧ w'.heap[B]? = some (.cells (cellsT ⟨#[111]⟩ 0 1 0 0 0 0 ByteArray.empty) 28 (0, 0)))) := Lib.hid fun wx B ⟨h, hb, hh⟩ => by
    rw [← order1]
    exact (schema_order 1 m wx (by omega) (cell0 hm h)).mono fun _ _ ⟨h1, h2⟩ => ⟨h1, below_at h h2, hb, by rw [h2.block _ (heap_lt hh)]; exact hh⟩
  have KP : Hid (∀ wx, Below w.heap.size w wx → Calls Tryd.prog 8 #[.string ⟨#[116, 111, 0, 0, 117, 0, 0, 0, 0, 0, 0, 0, 1]⟩] wx fun e w' => e = .returned (.tuple #[.agg (cellsT ⟨#[111]⟩ 0 1 0 0 0 0 ByteArray.empty), .int .i64 0]) ∧ Below w.heap.size w w') := Lib.hid fun wx h => by
    have q := schema_parse ⟨#[116, 111, 0, 0, 117, 0, 0, 0, 0, 0, 0, 0, 1]⟩ wx (by decide)
    have e : thingR ((⟨#[116, 111, 0, 0, 117, 0, 0, 0, 0, 0, 0, 0, 1]⟩ : ByteArray).data.toList) = (⟨⟨#[111]⟩, 0, 1, 0, 0, 0, 0, ByteArray.empty⟩, 0) := parse1
    rw [e] at q
    exact q.mono fun _ _ ⟨h1, h2⟩ => ⟨h1, below_at h h2⟩
  clear hm
  go_enter Tryd.func6, Tryd.ntmps6
  go_wp2_with (first
    | (go_at_call 16; (with_reducible refine (KO.out _ W0).mono ?_); rintro e w1 ⟨rfl, hB1⟩)
    | (go_at_call 8; (with_reducible refine (KP.out _ hB1).mono ?_); rintro e w2 ⟨rfl, hB2⟩)
    | (go_at_call 16; refine (KO2.out _ w2.heap.size ⟨hB2.alloc hB2.size _, hB2.size, heap_alloc_new _ _⟩).mono ?_; rintro e w3 ⟨rfl, T3⟩; obtain ⟨g0, g1, g2, g3, g4, g5, g6, g7⟩ := cellsT_of T3.2.2))
  go_ret
  exact ⟨rfl, T3.1⟩

end Go.Proofs.YtafdjgmdkbimoaaDoor
