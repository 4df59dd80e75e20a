/-
  A skip list that is none: its functions, by contract.
-/
import Derived.Test.YtacgpflheokkaaaSkpAbs
namespace Go.Proofs.Ytacgpflheokkaaa
open Go.RowKit Go.Shelf
set_option linter.unusedVariables false
set_option linter.unusedSimpArgs false

theorem nil_get (key : ByteArray) (w : World) : Calls Try.prog 14 #[.pointer none, .string key] w fun e w' => e = .returned (.tuple #[.string ByteArray.empty, .bool false]) ∧ w' = w := by
  go_enter Try.func14, Try.ntmps14
  go_wp2
  go_ret2
  exact ⟨rfl, rfl⟩
theorem nil_put (key value : ByteArray) (ht : Int) (w : World) : Calls Try.prog 9 #[.pointer none, .string key, .string value, .int .i64 ht] w fun e w' => e = .returned (.int .i64 1) ∧ w' = w := by
  go_enter Try.func9, Try.ntmps9
  go_wp2
  go_ret
  exact ⟨rfl, rfl⟩
theorem nil_len (w : World) : Calls Try.prog 11 #[.pointer none] w fun e w' => e = .returned (.int .i64 0) ∧ w' = w := by
  go_enter Try.func11, Try.ntmps11
  go_wp2
  go_ret
  exact ⟨rfl, rfl⟩
theorem nil_bytes (w : World) : Calls Try.prog 12 #[.pointer none] w fun e w' => e = .returned (.int .i64 0) ∧ w' = w := by
  go_enter Try.func12, Try.ntmps12
  go_wp2
  go_ret
  exact ⟨rfl, rfl⟩
theorem nil_steps (w : World) : Calls Try.prog 20 #[.pointer none] w fun e w' => e = .returned (.int .i64 0) ∧ w' = w := by
  go_enter Try.func20, Try.ntmps20
  go_wp2
  go_ret
  exact ⟨rfl, rfl⟩
theorem nil_height (key : ByteArray) (w : World) : Calls Try.prog 22 #[.pointer none, .string key] w fun e w' => e = .returned (.int .i64 0) ∧ w' = w := by
  go_enter Try.func22, Try.ntmps22
  go_wp2
  go_ret
  exact ⟨rfl, rfl⟩
theorem down_make (b : Option Addr) (key : ByteArray) (w : World) :
    Calls Try.prog 17 #[.pointer b, .string key] w fun e w' => e = .returned (.func (.func 28) #[] #[.pointer (some ⟨w.heap.size, 0, none⟩), .pointer (some ⟨w.heap.size + 1, 0, none⟩)]) ∧ w' = (w.alloc (.cells #[.pointer b] 24)).alloc (.cells #[.string key] 9) := by
  go_enter Try.func17, Try.ntmps17
  have hmf : ∀ (fn : Fn) (first cap : Array Value) (w : World), (Instr.makeFunc fn first cap).run Try.prog w = .ok (.func fn first cap) w := fun _ _ _ _ => rfl
  go_wp2
  go_ret
  exact ⟨rfl, rfl⟩
theorem nil_from (Bl : Nat) (c : Value) (b : Nat) (Kp : Nat → World → World → Prop) (w : World) (hBl : w.heap[Bl]? = some (.cells #[.pointer none] 24 (0, 0))) :
    SeqStopsG Fence.wide 5 Try.prog 27 #[.pointer (some ⟨Bl, 0, none⟩), c] (fun x : PairS => #[Value.string x.1, Value.string x.2]) (fun _ k => k = b) 0 Kp (fun _ => True) (fun ys => ys = []) (fun pre => pre <+: []) 0 w := by
  intro L J Jx W hW hJ hJx hY h0
  have cl : W.cell? ⟨Bl, 0, none⟩ = some (.pointer none) := by rw [cell_of_row _ _ _ _ _ _ ((hW.block _ (heap_lt hBl)).trans hBl)]; rfl
  refine callsIn_of_wp Try.func27 rfl trivial ?_ rfl
  simp only [Try.ntmps27, List.size_toArray, List.length_cons, List.length_nil, Nat.reduceAdd, Nat.reduceSub, Array.replicate_succ, Array.replicate_zero, List.push_toArray, List.append_toArray, List.nil_append, List.cons_append]
  have H0 := Lib.hid h0
  clear hW hJ hJx hY h0
  refine wpIn_wide.2 ?_
  go_wp2
  refine bodyPost_ret (results_none rfl _ _ _) rfl ?_
  exact ⟨⟨_, rfl⟩, trivial, .inl ⟨[], rfl, H0.out⟩⟩
theorem nil_down (Bl : Nat) (c : Value) (b : Nat) (Kp : Nat → World → World → Prop) (w : World) (hBl : w.heap[Bl]? = some (.cells #[.pointer none] 24 (0, 0))) :
    SeqStopsG Fence.wide 5 Try.prog 28 #[.pointer (some ⟨Bl, 0, none⟩), c] (fun x : PairS => #[Value.string x.1, Value.string x.2]) (fun _ k => k = b) 0 Kp (fun _ => True) (fun ys => ys = []) (fun pre => pre <+: []) 0 w := by
  intro L J Jx W hW hJ hJx hY h0
  have cl : W.cell? ⟨Bl, 0, none⟩ = some (.pointer none) := by rw [cell_of_row _ _ _ _ _ _ ((hW.block _ (heap_lt hBl)).trans hBl)]; rfl
  refine callsIn_of_wp Try.func28 rfl trivial ?_ rfl
  simp only [Try.ntmps28, List.size_toArray, List.length_cons, List.length_nil, Nat.reduceAdd, Nat.reduceSub, Array.replicate_succ, Array.replicate_zero, List.push_toArray, List.append_toArray, List.nil_append, List.cons_append]
  have H0 := Lib.hid h0
  clear hW hJ hJx hY h0
  refine wpIn_wide.2 ?_
  go_wp2
  refine bodyPost_ret (results_none rfl _ _ _) rfl ?_
  exact ⟨⟨_, rfl⟩, trivial, .inl ⟨[], rfl, H0.out⟩⟩
/-- a row of none -/
theorem nil_row (gf : Nat) (lb : Array Value) (most : Int) (b : Nat) (w : World) (hb : b < w.heap.size) (hm : -9223372036854775808 ≤ most ∧ most ≤ 9223372036854775807) (eg : ∀ args w, (callFunc gf args).run Try.prog w = .ok (.enter gf args) w)
    (h : ∀ Kp W0, Below w.heap.size w W0 → SeqStopsG Fence.wide 5 Try.prog gf lb (fun x : PairS => #[Value.string x.1, Value.string x.2]) (fun _ k => k = b) 0 Kp (fun _ => True) (fun ys => ys = []) (fun pre => pre <+: []) 0 W0) :
    Calls Try.prog 16 #[.func (.func gf) #[] lb, .int .i64 most] w fun e w' => ∃ a c, e = .returned (.slice a 0 c) ∧ ChgQ (fun k => k = b) w w' := by
  refine (law_row gf b lb [] most 0 (fun _ => True) w hb hm (by decide) (by decide) eg (fun _ _ _ _ => trivial) (fun W0 hB _ => h _ W0 hB)).mono ?_
  rintro e w' ⟨a, c, h1, h2, _, h3⟩
  rw [List.take_nil] at h1
  exact ⟨a, c, h1, h3⟩
end Go.Proofs.Ytacgpflheokkaaa
