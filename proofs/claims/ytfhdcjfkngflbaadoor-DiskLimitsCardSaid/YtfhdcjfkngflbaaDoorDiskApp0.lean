/-
  disk: Append where it refuses. Own work.
-/
import Derived.Test.YtfhdcjfkngflbaaDoorDiskPut3
import Derived.WideLaws
set_option linter.unusedSimpArgs false
set_option linter.unusedVariables false
namespace Go.Proofs.YtfhdcjfkngflbaaDoor
open Go Go.RowKit
open Go.ChangeMaps (setBlock)

/-- What Append answers. -/
def appE (s : St) (k : ByteArray) (n : Nat) : Option Int :=
  if nmB k = true then (match s.R k with
    | none => if 64 ≤ s.L.length then some 11 else if 1048576 < n then some 2 else none
    | some r => if 1048576 < n then some 2 else if 1048576 < r.data.length + n then some 2 else none)
  else some 1

theorem DiskAt.lenMap {base : Nat} {w : World} {s : St} (h : DiskAt base w s) (ty : TypeId) : (Builtin.len_ #[48] ty #[.map (some s.M)]).run Tryd.prog w = .ok (.int .i64 s.L.length) w := by
  have hm := h.map
  unfold MapAt at hm
  have := run_len_map (P := Tryd.prog) (w := w) 48 ty s.M _ s.c (by kernel_rfl) hm
  simpa [goInt] using this

theorem append_nil (k : ByteArray) (A : Option Addr) (n c : Nat) (w : World) : Calls Tryd.prog 7 #[.pointer none, .string k, .slice A n c] w fun e w' => e = .returned (.iface 31 (.int .i64 19)) ∧ w = w' := by
  go_enter Tryd.func7, Tryd.ntmps7
  go_wp2
  go_ret
  exact ⟨rfl, rfl⟩

theorem append_name (s : St) (k : ByteArray) (A : Option Addr) (n c : Nat) (w : World) (hk : k.size ≤ 4611686018427387904) (h : nmB k = false) : Calls Tryd.prog 7 #[.pointer (some ⟨s.B, 0, none⟩), .string k, .slice A n c] w fun e w' => e = .returned (.iface 31 (.int .i64 1)) ∧ w = w' := by
  have HN := Lib.hid (dname_any k w hk)
  rw [h] at HN
  clear h
  go_enter Tryd.func7, Tryd.ntmps7
  go_wp2_with (go_at_call 19; refine HN.out.mono ?_; rintro e w' ⟨rfl, rfl⟩)
  go_ret
  exact ⟨rfl, rfl⟩

theorem append_full (base : Nat) (s : St) (k : ByteArray) (A : Option Addr) (n c : Nat) (w : World) (hd : DiskAt base w s) (hk : k.size ≤ 4611686018427387904) (h : nmB k = true) (hr : s.R k = none) (hf : 64 ≤ s.L.length) : Calls Tryd.prog 7 #[.pointer (some ⟨s.B, 0, none⟩), .string k, .slice A n c] w fun e w' => e = .returned (.iface 31 (.int .i64 11)) ∧ w = w' := by
  have HN := Lib.hid (dname_any k w hk)
  rw [h] at HN
  obtain ⟨c0, _, _⟩ := hd.cells
  have hl := hd.look k
  rw [hr] at hl
  simp only [Option.map_none, Option.getD_none] at hl
  have hlen := hd.lenMap
  obtain ⟨q, hq⟩ : ∃ q, Hid (s.L.length = q) := ⟨_, rfl⟩
  rw [hq.out] at hlen hf
  have d : decide ((q : Int) ≥ 64) = true := by rw [decide_eq_true_iff]; omega
  clear h hd hr hf
  go_enter Tryd.func7, Tryd.ntmps7
  go_wp2_with (go_at_call 19; refine HN.out.mono ?_; rintro e w' ⟨rfl, rfl⟩)
  go_ret
  exact ⟨rfl, rfl⟩

theorem append_long_new (base : Nat) (s : St) (k : ByteArray) (A : Option Addr) (n c : Nat) (w : World) (hd : DiskAt base w s) (hk : k.size ≤ 4611686018427387904) (h : nmB k = true) (hr : s.R k = none) (hf : ¬ 64 ≤ s.L.length) (hn : 1048576 < n) : Calls Tryd.prog 7 #[.pointer (some ⟨s.B, 0, none⟩), .string k, .slice A n c] w fun e w' => e = .returned (.iface 31 (.int .i64 2)) ∧ w = w' := by
  have HN := Lib.hid (dname_any k w hk)
  rw [h] at HN
  obtain ⟨c0, _, _⟩ := hd.cells
  have hl := hd.look k
  rw [hr] at hl
  simp only [Option.map_none, Option.getD_none] at hl
  have hlen := hd.lenMap
  obtain ⟨q, hq⟩ : ∃ q, Hid (s.L.length = q) := ⟨_, rfl⟩
  rw [hq.out] at hlen hf
  have d : decide ((q : Int) ≥ 64) = false := by rw [decide_eq_false_iff_not]; omega
  have d1 : decide ((n : Int) > 1048576) = true := by rw [decide_eq_true_iff]; omega
  clear h hd hr hf
  go_enter Tryd.func7, Tryd.ntmps7
  go_wp2_with (go_at_call 19; refine HN.out.mono ?_; rintro e w' ⟨rfl, rfl⟩)
  go_ret
  exact ⟨rfl, rfl⟩

theorem append_long (base : Nat) (s : St) (k : ByteArray) (r : FRec) (A : Option Addr) (n c : Nat) (w : World) (hd : DiskAt base w s) (hk : k.size ≤ 4611686018427387904) (h : nmB k = true) (hr : s.R k = some r) (hn : 1048576 < n ∨ (¬ 1048576 < n ∧ 1048576 < r.data.length + n)) : Calls Tryd.prog 7 #[.pointer (some ⟨s.B, 0, none⟩), .string k, .slice A n c] w fun e w' => e = .returned (.iface 31 (.int .i64 2)) ∧ w = w' := by
  have HN := Lib.hid (dname_any k w hk)
  rw [h] at HN
  obtain ⟨c0, _, _⟩ := hd.cells
  have hl := hd.look k
  rw [hr] at hl
  simp only [Option.map_some, Option.getD_some, ptrF] at hl
  have hrec := hd.recs k r hr
  obtain ⟨f0, _, _⟩ := hrec.cells
  obtain ⟨Ad, cd, hdv, _⟩ := hrec.data.slice
  rw [hdv] at f0
  have hfew := hrec.few
  obtain ⟨dl, hdl⟩ : ∃ q, Hid (r.data.length = q) := ⟨_, rfl⟩
  rw [hdl.out] at f0 hn hfew
  rcases hn with hn | ⟨hn, hn2⟩
  · have d1 : decide ((n : Int) > 1048576) = true := by rw [decide_eq_true_iff]; omega
    clear h hd hr hrec hn
    go_enter Tryd.func7, Tryd.ntmps7
    go_wp2_with (go_at_call 19; refine HN.out.mono ?_; rintro e w' ⟨rfl, rfl⟩)
    go_ret
    exact ⟨rfl, rfl⟩
  · have d1 : decide ((n : Int) > 1048576) = false := by rw [decide_eq_false_iff_not]; omega
    have hw : IntKind.i64.wrap ((dl : Int) + n) = ((dl + n : Nat) : Int) := by rw [IntKind.wrap_i64]; omega
    have d2 : decide (((dl + n : Nat) : Int) > 1048576) = true := by rw [decide_eq_true_iff]; omega
    have d3 : 1048576 < (dl : Int) + n := by omega
    clear h hd hr hrec hn hn2
    go_enter Tryd.func7, Tryd.ntmps7
    go_wp2_with (go_at_call 19; refine HN.out.mono ?_; rintro e w' ⟨rfl, rfl⟩)
    go_ret
    exact ⟨rfl, rfl⟩
end Go.Proofs.YtfhdcjfkngflbaaDoor
