/-
  Orders and money read, by contract.
-/
import Derived.Test.YtbhhfdkidpmfeaaOrdParse
import Derived.Test.YtbhhfdkidpmfeaaOrdCells
import Derived.Test.YtbhhfdkidpmfeaaKit
import Derived.Laws.ResultCell
namespace Go.Proofs.Ytbhhfdkidpmfeaa
open Go.RowKit
set_option linter.unusedVariables false
set_option linter.unusedSimpArgs false

def rdS (s : ByteArray) : RS := ⟨s, 0, 0⟩
/-- where the reader is, field by field -/
def pz1 (s : ByteArray) : RS := (rdS s).num.2
def pz2 (s : ByteArray) : RS := (pz1 s).small.2
def pz3 (s : ByteArray) : RS := (pz2 s).signed.2
def pz4 (s : ByteArray) : RS := (pz3 s).signed.2
def pz5 (s : ByteArray) : RS := (pz4 s).signed.2
def pz6 (s : ByteArray) : RS := (pz5 s).num.2
def pz7 (s : ByteArray) : RS := (pz6 s).num.2
def pz8 (s : ByteArray) : RS := (pz7 s).small.2
def parseO (id : Int) (s : ByteArray) : OrderR := ⟨id, ((rdS s).num.1 : Int), (pz1 s).small.1, (pz2 s).signed.1, (pz3 s).signed.1, (pz4 s).signed.1, ((pz5 s).num.1 : Int), ((pz6 s).num.1 : Int), (pz7 s).small.1⟩
def noOrder : OrderR := ⟨0, 0, 0, 0, 0, 0, 0, 0, 0⟩
def parseS (id : Int) (s : ByteArray) : OrderR × Int :=
  if ¬ (pz8 s).end_ = 0 then (noOrder, (pz8 s).end_)
  else if ¬ checkS (parseO id s) = 0 then (noOrder, checkS (parseO id s))
  else (parseO id s, 0)
theorem parseO_good (id : Int) (s : ByteArray) (h : 0 ≤ id ∧ id < 18446744073709551616) : (parseO id s).good := by
  refine ⟨h, ?_, ?_, ?_, ?_, ?_, ?_, ?_, ?_⟩ <;> simp only [parseO, RS.signed]
  · have := (rdS s).num_lt; omega
  · have := small_bd (pz1 s); omega
  · exact unzz_bd _ (RS.num_lt _)
  · exact unzz_bd _ (RS.num_lt _)
  · exact unzz_bd _ (RS.num_lt _)
  · have := (pz5 s).num_lt; omega
  · have := (pz6 s).num_lt; omega
  · have := small_bd (pz7 s); omega

abbrev money2 (a b : Int) : Obj := .cells #[.int .i64 a, .int .i64 b] 32 (0, 0)


/-- an order as a row of cells -/
abbrev row9 (id ac sd pr sz lf rk ex st : Int) : Array Value := #[.int .u64 id, .int .u64 ac, .int .i64 sd, .int .i64 pr, .int .i64 sz, .int .i64 lf, .int .u64 rk, .int .u64 ex, .int .i64 st]
theorem info_ord : (Try.prog.info? 24).map (·.size) = some 9 := by kernel_rfl
theorem info_row9 (a b c d e f g h i : Int) : (Try.prog.info? 24).map (·.size) = some (row9 a b c d e f g h i).size := info_ord
theorem size_row9 (a b c d e f g h i j k l m n o p q r : Int) : (row9 a b c d e f g h i).size = (row9 j k l m n o p q r).size := rfl
theorem one_row9 (a b c d e f g h i : Int) : (row9 a b c d e f g h i).all (·.oneCell') = true := by simp [row9, Value.oneCell']
theorem zero_ord (w : World) : (zeroValue 24).run Try.prog w = .ok (.agg (row9 0 0 0 0 0 0 0 0 0)) w := by kernel_rfl
theorem results_row_tmp {P : Program} {fn : Func} {p u : Tmp} {ty : TypeId} (h : fn.results = #[.cell p ty, .tmp u]) (tmps : Array Value) (w : World) (g : Nat) (t : TypeId) (cs : Array Value) (fr : Nat × Nat) (d : TypeDesc)
    (hp : tmps.getD p undef = .pointer (some ⟨g, 0, none⟩)) (hg : w.heap[g]? = some (.cells cs t fr))
    (hu : P.underlying ty = some d) (hd : (match d with | .struct _ | .array _ _ => true | _ => false) = true) (hi : (P.info? ty).map (·.size) = some cs.size) :
    (results fn tmps).run P w = .ok (.tuple #[.agg cs, tmps.getD u undef]) w := by
  rw [results_cell_tmp h, hp]
  simp [asAddr, Result.andThen, run_loadVar_row w g t ty cs fr d hg hu hd hi]

/-- what Parse keeps: what was there, the reader, its result's own block -/
structure PSt (w wx : World) (b1 : Nat) (r : RS) : Prop where
  below : Below w.heap.size w wx
  lt : w.heap.size < b1
  rd : RdAt TR wx b1 r
  own : wx.heap[w.heap.size]? = some (cells9 0 0 0 0 0 0 0 0 0)
theorem PSt.step {w wx w' : World} {b1 : Nat} {r q : RS} (h : PSt w wx b1 r) (hR : RdAt TR w' b1 q) (hC : Chg b1 wx w') : PSt w w' b1 q :=
  ⟨h.below.trans (hC.below (Nat.le_of_lt h.lt) h.below.size), h.lt, hR, hC.heap (Nat.ne_of_lt h.lt) h.own⟩
/-- the same, with the order that was read in a block of its own -/
structure PS2 (w wx : World) (b1 b2 : Nat) (r : RS) (o : Obj) : Prop extends PSt w wx b1 r where
  own2 : wx.heap[b2]? = some o
theorem PS2.drewN {w wx : World} {b1 b2 : Nat} {r : RS} {o : Obj} (h : PS2 w wx b1 b2 r o) (n : Nat) : PS2 w (wx.drewN n) b1 b2 r o := ⟨⟨below_drewN h.below n, h.lt, h.rd, h.own⟩, h.own2⟩
theorem PS2.moved {w wx w' : World} {b1 b2 : Nat} {r : RS} {o : Obj} (h : PS2 w wx b1 b2 r o) (hB : Below wx.heap.size wx w') : PS2 w w' b1 b2 r o :=
  ⟨⟨below_at h.below hB, h.lt, h.rd.below hB, by rw [hB.block _ (heap_lt h.own)]; exact h.own⟩, by rw [hB.block _ (heap_lt h.own2)]; exact h.own2⟩
theorem PSt.made {w wx : World} {b1 : Nat} {r : RS} (h : PSt w wx b1 r) (R : Array Value) (t : TypeId) : PS2 w (wx.alloc (.cells R t)) b1 wx.heap.size r (.cells R t (0, 0)) := by
  have hb : Below wx.heap.size wx (wx.alloc (.cells R t)) := (Below.refl _ _).alloc (Nat.le_refl _) _
  exact ⟨⟨below_at h.below hb, h.lt, h.rd.below hb, by rw [hb.block _ (heap_lt h.own)]; exact h.own⟩, heap_alloc_new _ _⟩

set_option maxRecDepth 100000 in
set_option maxHeartbeats 8000000 in
theorem order_parse (id : Int) (s : ByteArray) (w : World) (hid : 0 ≤ id ∧ id < 18446744073709551616) (hs : s.size ≤ 140737488351232) :
    Calls Try.prog 8 #[.int .u64 id, .string s] w fun e w' => e = .returned (.tuple #[(parseS id s).1.val, .int .i64 (parseS id s).2]) ∧ Below w.heap.size w w' := by
  have hg := parseO_good id s hid
  obtain ⟨ro, hro⟩ : ∃ x, x = (parseS id s).1 := ⟨_, rfl⟩
  obtain ⟨re, hre⟩ : ∃ x, x = (parseS id s).2 := ⟨_, rfl⟩
  rw [← hro, ← hre]
  unfold parseS at hro hre
  obtain ⟨o, ho⟩ : ∃ o, o = parseO id s := ⟨_, rfl⟩
  rw [← ho] at hg hro hre
  obtain ⟨c, hc⟩ : ∃ c, c = checkS o := ⟨_, rfl⟩
  rw [← hc] at hro hre
  obtain ⟨en, hen⟩ : ∃ c, c = (pz8 s).end_ := ⟨_, rfl⟩
  rw [← hen] at hro hre
  have k0 : (rdS s).ok := Nat.zero_le _
  have s0 : (rdS s).s = s := rfl
  have k1 : (pz1 s).ok := RS.num_ok _ k0
  have s1 : (pz1 s).s = s := (RS.num_s _).trans s0
  have k2 : (pz2 s).ok := small_ok _ k1
  have s2 : (pz2 s).s = s := (small_s _).trans s1
  have k3 : (pz3 s).ok := RS.num_ok _ k2
  have s3 : (pz3 s).s = s := (RS.num_s _).trans s2
  have k4 : (pz4 s).ok := RS.num_ok _ k3
  have s4 : (pz4 s).s = s := (RS.num_s _).trans s3
  have k5 : (pz5 s).ok := RS.num_ok _ k4
  have s5 : (pz5 s).s = s := (RS.num_s _).trans s4
  have k6 : (pz6 s).ok := RS.num_ok _ k5
  have s6 : (pz6 s).s = s := (RS.num_s _).trans s5
  have k7 : (pz7 s).ok := RS.num_ok _ k6
  have s7 : (pz7 s).s = s := (RS.num_s _).trans s6
  have k8 : (pz8 s).ok := small_ok _ k7
  have s8 : (pz8 s).s = s := (small_s _).trans s7
  have C0 : Hid (∀ b1 wx, PSt w wx b1 (rdS s) → Calls Try.prog 20 #[.pointer (some ⟨b1, 0, none⟩)] wx fun e w' => e = .returned (.int .u64 o.account) ∧ PSt w w' b1 (pz1 s)) := Lib.hid fun b1 wx T => by
    rw [ho]; exact (rd_num b1 (rdS s) wx T.rd k0 (by rw [s0]; exact hs)).mono fun _ _ ⟨h1, h2, h3⟩ => ⟨h1, T.step h2 h3⟩
  have C1 : Hid (∀ b1 wx, PSt w wx b1 (pz1 s) → Calls Try.prog 21 #[.pointer (some ⟨b1, 0, none⟩)] wx fun e w' => e = .returned (.int .i64 o.side) ∧ PSt w w' b1 (pz2 s)) := Lib.hid fun b1 wx T => by
    rw [ho]; exact (order_small b1 (pz1 s) wx T.rd k1 (by rw [s1]; exact hs)).mono fun _ _ ⟨h1, h2, h3⟩ => ⟨h1, T.step h2 h3⟩
  have C2 : Hid (∀ b1 wx, PSt w wx b1 (pz2 s) → Calls Try.prog 22 #[.pointer (some ⟨b1, 0, none⟩)] wx fun e w' => e = .returned (.int .i64 o.price) ∧ PSt w w' b1 (pz3 s)) := Lib.hid fun b1 wx T => by
    rw [ho]; exact (rd_signed b1 (pz2 s) wx T.rd k2 (by rw [s2]; exact hs)).mono fun _ _ ⟨h1, h2, h3⟩ => ⟨h1, T.step h2 h3⟩
  have C3 : Hid (∀ b1 wx, PSt w wx b1 (pz3 s) → Calls Try.prog 22 #[.pointer (some ⟨b1, 0, none⟩)] wx fun e w' => e = .returned (.int .i64 o.size) ∧ PSt w w' b1 (pz4 s)) := Lib.hid fun b1 wx T => by
    rw [ho]; exact (rd_signed b1 (pz3 s) wx T.rd k3 (by rw [s3]; exact hs)).mono fun _ _ ⟨h1, h2, h3⟩ => ⟨h1, T.step h2 h3⟩
  have C4 : Hid (∀ b1 wx, PSt w wx b1 (pz4 s) → Calls Try.prog 22 #[.pointer (some ⟨b1, 0, none⟩)] wx fun e w' => e = .returned (.int .i64 o.left) ∧ PSt w w' b1 (pz5 s)) := Lib.hid fun b1 wx T => by
    rw [ho]; exact (rd_signed b1 (pz4 s) wx T.rd k4 (by rw [s4]; exact hs)).mono fun _ _ ⟨h1, h2, h3⟩ => ⟨h1, T.step h2 h3⟩
  have C5 : Hid (∀ b1 wx, PSt w wx b1 (pz5 s) → Calls Try.prog 20 #[.pointer (some ⟨b1, 0, none⟩)] wx fun e w' => e = .returned (.int .u64 o.rank) ∧ PSt w w' b1 (pz6 s)) := Lib.hid fun b1 wx T => by
    rw [ho]; exact (rd_num b1 (pz5 s) wx T.rd k5 (by rw [s5]; exact hs)).mono fun _ _ ⟨h1, h2, h3⟩ => ⟨h1, T.step h2 h3⟩
  have C6 : Hid (∀ b1 wx, PSt w wx b1 (pz6 s) → Calls Try.prog 20 #[.pointer (some ⟨b1, 0, none⟩)] wx fun e w' => e = .returned (.int .u64 o.expiry) ∧ PSt w w' b1 (pz7 s)) := Lib.hid fun b1 wx T => by
    rw [ho]; exact (rd_num b1 (pz6 s) wx T.rd k6 (by rw [s6]; exact hs)).mono fun _ _ ⟨h1, h2, h3⟩ => ⟨h1, T.step h2 h3⟩
  have C7 : Hid (∀ b1 wx, PSt w wx b1 (pz7 s) → Calls Try.prog 21 #[.pointer (some ⟨b1, 0, none⟩)] wx fun e w' => e = .returned (.int .i64 o.state) ∧ PSt w w' b1 (pz8 s)) := Lib.hid fun b1 wx T => by
    rw [ho]; exact (order_small b1 (pz7 s) wx T.rd k7 (by rw [s7]; exact hs)).mono fun _ _ ⟨h1, h2, h3⟩ => ⟨h1, T.step h2 h3⟩
  have CO : Hid (∀ wx, Below w.heap.size w wx → wx.heap[w.heap.size]? = some (cells9 0 0 0 0 0 0 0 0 0) → Calls Try.prog 19 #[.string s] wx fun e w' => ∃ b1, e = .returned (.pointer (some ⟨b1, 0, none⟩)) ∧ PSt w w' b1 (rdS s)) := Lib.hid fun wx hB hO =>
    (rd_over s wx).mono fun _ _ ⟨b, h1, h2, h3, h4⟩ => ⟨b, h1, below_at hB h4, Nat.lt_of_lt_of_le (heap_lt hO) h3, h2, by rw [h4.block _ (heap_lt hO)]; exact hO⟩
  have CE : Hid (∀ b1 b2 ob wx, PS2 w wx b1 b2 (pz8 s) ob → Calls Try.prog 23 #[.pointer (some ⟨b1, 0, none⟩)] wx fun e w' => e = .returned (.int .i64 en) ∧ PS2 w w' b1 b2 (pz8 s) ob) := Lib.hid fun b1 b2 ob wx T => by
    rw [hen]; exact (rd_end b1 (pz8 s) wx T.rd k8 (by rw [s8]; exact hs)).mono fun _ _ ⟨h1, ⟨n, h2⟩⟩ => ⟨h1, by rw [h2]; exact T.drewN n⟩
  obtain ⟨oid, ac, sd, pr, sz, lf, rk, ex, st⟩ := o
  obtain rfl : oid = id := by have h := congrArg OrderR.id ho; exact h
  have CC : Hid (∀ b1 b2 ob wx, PS2 w wx b1 b2 (pz8 s) ob → Calls Try.prog 6 #[.agg (row9 oid ac sd pr sz lf rk ex st)] wx fun e w' => e = .returned (.int .i64 c) ∧ PS2 w w' b1 b2 (pz8 s) ob) := Lib.hid fun b1 b2 ob wx T => by
    rw [hc]; exact (order_check _ wx hg).mono fun _ _ ⟨h1, h2⟩ => ⟨h1, T.moved h2⟩
  have W0 : Hid (Below w.heap.size w (w.alloc (cells9 0 0 0 0 0 0 0 0 0))) := Lib.hid (by (repeat (first | exact Below.refl _ _ | assumption | apply below_drewN | (refine Below.alloc ?_ (by simp; try omega) _))))
  have W1 : Hid ((w.alloc (cells9 0 0 0 0 0 0 0 0 0)).heap[w.heap.size]? = some (cells9 0 0 0 0 0 0 0 0 0)) := Lib.hid (heap_alloc_new _ _)
  obtain ⟨RR, hRR⟩ : ∃ x, x = (row9 oid ac sd pr sz lf rk ex st) := ⟨_, rfl⟩
  obtain ⟨ZZ, hZZ⟩ : ∃ x, x = (row9 0 0 0 0 0 0 0 0 0) := ⟨_, rfl⟩
  clear hg ho hc hen k0 k1 k2 k3 k4 k5 k6 k7 k8 s0 s1 s2 s3 s4 s5 s6 s7 s8 hRR hZZ RR ZZ
  have hz := zero_ord
  by_cases h1 : en = 0
  · obtain ⟨e0, e1⟩ := eq_bb h1
    rw [if_neg (by simp [h1])] at hro hre
    by_cases h2 : c = 0
    · obtain ⟨c0, c1⟩ := eq_bb h2
      rw [if_neg (by simp [h2])] at hro hre
      clear h1 h2
      have HRO := Lib.hid hro
      have HRE := Lib.hid hre
      clear hro hre
      go_enter Try.func8, Try.ntmps8
      go_wp2_with (first | (go_at_call 19; (with_reducible refine (CO.out _ W0.out W1.out).mono ?_); rintro e v0 ⟨b1, rfl, T0⟩) | (go_at_call 20; (with_reducible refine (C0.out _ _ T0).mono ?_); rintro e v1 ⟨rfl, T1⟩; clear T0) | (go_at_call 21; (with_reducible refine (C1.out _ _ T1).mono ?_); rintro e v2 ⟨rfl, T2⟩; clear T1) | (go_at_call 22; (with_reducible refine (C2.out _ _ T2).mono ?_); rintro e v3 ⟨rfl, T3⟩; clear T2) | (go_at_call 22; (with_reducible refine (C3.out _ _ T3).mono ?_); rintro e v4 ⟨rfl, T4⟩; clear T3) | (go_at_call 22; (with_reducible refine (C4.out _ _ T4).mono ?_); rintro e v5 ⟨rfl, T5⟩; clear T4) | (go_at_call 20; (with_reducible refine (C5.out _ _ T5).mono ?_); rintro e v6 ⟨rfl, T6⟩; clear T5) | (go_at_call 20; (with_reducible refine (C6.out _ _ T6).mono ?_); rintro e v7 ⟨rfl, T7⟩; clear T6) | (go_at_call 21; (with_reducible refine (C7.out _ _ T7).mono ?_); rintro e v8 ⟨rfl, T8⟩; clear T7) | (go_at_call 23; (with_reducible refine (CE.out _ _ _ _ (T8.made (row9 oid ac sd pr sz lf rk ex st) 24)).mono ?_); rintro e v10 ⟨rfl, T10⟩; clear T8) | (with_reducible refine wpList_load_row rfl 24 (.tmp 7) rfl v8.heap.size rfl 24 (row9 oid ac sd pr sz lf rk ex st) (0, 0) _ T10.own2 Try.underlying24 rfl (info_row9 _ _ _ _ _ _ _ _ _) ?_) | (go_at_call 6; (with_reducible refine (CC.out _ _ _ _ T10).mono ?_); rintro e v11 ⟨rfl, T11⟩; clear T10) | (with_reducible refine wpList_load_row rfl 24 (.tmp 7) rfl v8.heap.size rfl 24 (row9 oid ac sd pr sz lf rk ex st) (0, 0) _ T11.own2 Try.underlying24 rfl (info_row9 _ _ _ _ _ _ _ _ _) ?_) | (with_reducible refine wpList_store_row rfl 24 (.tmp 4) (.tmp 39) rfl w.heap.size (row9 oid ac sd pr sz lf rk ex st) rfl rfl 24 (row9 0 0 0 0 0 0 0 0 0) T11.own (info_row9 _ _ _ _ _ _ _ _ _) (size_row9 _ _ _ _ _ _ _ _ _ _ _ _ _ _ _ _ _ _) (one_row9 _ _ _ _ _ _ _ _ _) ?_))
      have H2 : (v11.setRow w.heap.size (row9 oid ac sd pr sz lf rk ex st)).heap[w.heap.size]? = some (.cells (row9 oid ac sd pr sz lf rk ex st) 24 (0, 0)) := setRow_heap _ _ _ _ _ _ T11.own
      refine bodyPost_ret (results_row_tmp Try.results8 _ _ w.heap.size 24 (row9 oid ac sd pr sz lf rk ex st) (0, 0) _ rfl H2 Try.underlying24 rfl info_ord) rfl ?_
      exact ⟨by rw [HRO.out, HRE.out]; rfl, T11.below.trans ⟨rfl, rfl, rfl, by simp, fun j hj => setRow_other _ _ _ _ (by omega)⟩⟩
    · obtain ⟨c0, c1⟩ := ne_bb h2
      rw [if_pos h2] at hro hre
      clear h1 h2
      have HRO := Lib.hid hro
      have HRE := Lib.hid hre
      clear hro hre
      go_enter Try.func8, Try.ntmps8
      go_wp2_with (first | (go_at_call 19; (with_reducible refine (CO.out _ W0.out W1.out).mono ?_); rintro e v0 ⟨b1, rfl, T0⟩) | (go_at_call 20; (with_reducible refine (C0.out _ _ T0).mono ?_); rintro e v1 ⟨rfl, T1⟩; clear T0) | (go_at_call 21; (with_reducible refine (C1.out _ _ T1).mono ?_); rintro e v2 ⟨rfl, T2⟩; clear T1) | (go_at_call 22; (with_reducible refine (C2.out _ _ T2).mono ?_); rintro e v3 ⟨rfl, T3⟩; clear T2) | (go_at_call 22; (with_reducible refine (C3.out _ _ T3).mono ?_); rintro e v4 ⟨rfl, T4⟩; clear T3) | (go_at_call 22; (with_reducible refine (C4.out _ _ T4).mono ?_); rintro e v5 ⟨rfl, T5⟩; clear T4) | (go_at_call 20; (with_reducible refine (C5.out _ _ T5).mono ?_); rintro e v6 ⟨rfl, T6⟩; clear T5) | (go_at_call 20; (with_reducible refine (C6.out _ _ T6).mono ?_); rintro e v7 ⟨rfl, T7⟩; clear T6) | (go_at_call 21; (with_reducible refine (C7.out _ _ T7).mono ?_); rintro e v8 ⟨rfl, T8⟩; clear T7) | (go_at_call 23; (with_reducible refine (CE.out _ _ _ _ (T8.made (row9 oid ac sd pr sz lf rk ex st) 24)).mono ?_); rintro e v10 ⟨rfl, T10⟩; clear T8) | (with_reducible refine wpList_load_row rfl 24 (.tmp 7) rfl v8.heap.size rfl 24 (row9 oid ac sd pr sz lf rk ex st) (0, 0) _ T10.own2 Try.underlying24 rfl (info_row9 _ _ _ _ _ _ _ _ _) ?_) | (go_at_call 6; (with_reducible refine (CC.out _ _ _ _ T10).mono ?_); rintro e v11 ⟨rfl, T11⟩; clear T10) | (with_reducible refine wpList_store_row rfl 24 (.tmp 4) (.tmp 37) rfl w.heap.size (row9 0 0 0 0 0 0 0 0 0) rfl rfl 24 (row9 0 0 0 0 0 0 0 0 0) T11.own (info_row9 _ _ _ _ _ _ _ _ _) (size_row9 _ _ _ _ _ _ _ _ _ _ _ _ _ _ _ _ _ _) (one_row9 _ _ _ _ _ _ _ _ _) ?_))
      have H2 : (v11.setRow w.heap.size (row9 0 0 0 0 0 0 0 0 0)).heap[w.heap.size]? = some (.cells (row9 0 0 0 0 0 0 0 0 0) 24 (0, 0)) := setRow_heap _ _ _ _ _ _ T11.own
      refine bodyPost_ret (results_row_tmp Try.results8 _ _ w.heap.size 24 (row9 0 0 0 0 0 0 0 0 0) (0, 0) _ rfl H2 Try.underlying24 rfl info_ord) rfl ?_
      exact ⟨by rw [HRO.out, HRE.out]; rfl, T11.below.trans ⟨rfl, rfl, rfl, by simp, fun j hj => setRow_other _ _ _ _ (by omega)⟩⟩
  · obtain ⟨e0, e1⟩ := ne_bb h1
    rw [if_pos h1] at hro hre
    clear h1
    have HRO := Lib.hid hro
    have HRE := Lib.hid hre
    clear hro hre
    go_enter Try.func8, Try.ntmps8
    go_wp2_with (first | (go_at_call 19; (with_reducible refine (CO.out _ W0.out W1.out).mono ?_); rintro e v0 ⟨b1, rfl, T0⟩) | (go_at_call 20; (with_reducible refine (C0.out _ _ T0).mono ?_); rintro e v1 ⟨rfl, T1⟩; clear T0) | (go_at_call 21; (with_reducible refine (C1.out _ _ T1).mono ?_); rintro e v2 ⟨rfl, T2⟩; clear T1) | (go_at_call 22; (with_reducible refine (C2.out _ _ T2).mono ?_); rintro e v3 ⟨rfl, T3⟩; clear T2) | (go_at_call 22; (with_reducible refine (C3.out _ _ T3).mono ?_); rintro e v4 ⟨rfl, T4⟩; clear T3) | (go_at_call 22; (with_reducible refine (C4.out _ _ T4).mono ?_); rintro e v5 ⟨rfl, T5⟩; clear T4) | (go_at_call 20; (with_reducible refine (C5.out _ _ T5).mono ?_); rintro e v6 ⟨rfl, T6⟩; clear T5) | (go_at_call 20; (with_reducible refine (C6.out _ _ T6).mono ?_); rintro e v7 ⟨rfl, T7⟩; clear T6) | (go_at_call 21; (with_reducible refine (C7.out _ _ T7).mono ?_); rintro e v8 ⟨rfl, T8⟩; clear T7) | (go_at_call 23; (with_reducible refine (CE.out _ _ _ _ (T8.made (row9 oid ac sd pr sz lf rk ex st) 24)).mono ?_); rintro e v10 ⟨rfl, T10⟩; clear T8) | (with_reducible refine wpList_load_row rfl 24 (.tmp 7) rfl v8.heap.size rfl 24 (row9 oid ac sd pr sz lf rk ex st) (0, 0) _ T10.own2 Try.underlying24 rfl (info_row9 _ _ _ _ _ _ _ _ _) ?_) | (go_at_call 6; (with_reducible refine (CC.out _ _ _ _ T10).mono ?_); rintro e v11 ⟨rfl, T11⟩; clear T10) | (with_reducible refine wpList_store_row rfl 24 (.tmp 4) (.tmp 37) rfl w.heap.size (row9 0 0 0 0 0 0 0 0 0) rfl rfl 24 (row9 0 0 0 0 0 0 0 0 0) T10.own (info_row9 _ _ _ _ _ _ _ _ _) (size_row9 _ _ _ _ _ _ _ _ _ _ _ _ _ _ _ _ _ _) (one_row9 _ _ _ _ _ _ _ _ _) ?_))
    have H2 : (v10.setRow w.heap.size (row9 0 0 0 0 0 0 0 0 0)).heap[w.heap.size]? = some (.cells (row9 0 0 0 0 0 0 0 0 0) 24 (0, 0)) := setRow_heap _ _ _ _ _ _ T10.own
    refine bodyPost_ret (results_row_tmp Try.results8 _ _ w.heap.size 24 (row9 0 0 0 0 0 0 0 0 0) (0, 0) _ rfl H2 Try.underlying24 rfl info_ord) rfl ?_
    exact ⟨by rw [HRO.out, HRE.out]; rfl, T10.below.trans ⟨rfl, rfl, rfl, by simp, fun j hj => setRow_other _ _ _ _ (by omega)⟩⟩

end Go.Proofs.Ytbhhfdkidpmfeaa
