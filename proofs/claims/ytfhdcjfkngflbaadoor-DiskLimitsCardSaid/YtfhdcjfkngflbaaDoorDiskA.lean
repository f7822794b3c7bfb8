/-
  disk: New, find, Read. Own work.
-/
import Derived.Test.YtfhdcjfkngflbaaDoorDiskRow
import Derived.Test.YtfhdcjfkngflbaaDoorDiskName
import Derived.Test.YtfhdcjfkngflbaaDoorNetClone
set_option linter.unusedSimpArgs false
set_option linter.unusedVariables false
namespace Go.Proofs.YtfhdcjfkngflbaaDoor
open Go Go.RowKit

def errV : Option Int → Value
  | none => .nilIface
  | some c => .iface 31 (.int .i64 c)

theorem newDisk_any (w : World) : Calls Tryd.prog 6 #[] w fun e w' => e = .returned (.pointer (some ⟨w.heap.size + 1, 0, none⟩)) ∧
    w' = (w.alloc (.map #[] 0)).alloc (.cells #[.map (some w.heap.size), .int .i64 0] 50) := by
  have hmm := @run_makeMap Tryd.prog
  go_enter Tryd.func6, Tryd.ntmps6
  go_wp2
  go_ret
  exact ⟨rfl, rfl⟩

theorem fileP_zero (w : World) : (zeroValue 52).run Tryd.prog w = .ok (.pointer none) w := by kernel_rfl

theorem DiskAt.look {base : Nat} {w : World} {s : St} (h : DiskAt base w s) (k : ByteArray) : (Instr.lookup 48 (.map (some s.M)) (.string k) false).run Tryd.prog w = .ok (((s.R k).map ptrF).getD (.pointer none)) w := by
  have := run_look str_keys Tryd.underlying48 fileP_zero h.map k
  rwa [h.lk] at this

theorem find_nil (k : ByteArray) (w : World) : Calls Tryd.prog 24 #[.pointer none, .string k] w fun e w' => e = .returned (.tuple #[.pointer none, .iface 31 (.int .i64 19)]) ∧ w = w' := by
  go_enter Tryd.func24, Tryd.ntmps24
  go_wp2
  go_ret2
  exact ⟨rfl, rfl⟩

theorem find_hit (base : Nat) (s : St) (k : ByteArray) (r : FRec) (w : World) (h : DiskAt base w s) (hr : s.R k = some r) : Calls Tryd.prog 24 #[.pointer (some ⟨s.B, 0, none⟩), .string k] w fun e w' => e = .returned (.tuple #[.pointer (some ⟨r.F, 0, none⟩), .nilIface]) ∧ w = w' := by
  obtain ⟨c0, _, _⟩ := h.cells
  have hl := h.look k
  rw [hr] at hl
  simp only [Option.map_some, Option.getD_some, ptrF] at hl
  clear h hr
  go_enter Tryd.func24, Tryd.ntmps24
  go_wp2
  go_ret2
  exact ⟨rfl, rfl⟩

theorem find_miss (base : Nat) (s : St) (k : ByteArray) (w : World) (h : DiskAt base w s) (hr : s.R k = none) : Calls Tryd.prog 24 #[.pointer (some ⟨s.B, 0, none⟩), .string k] w fun e w' => e = .returned (.tuple #[.pointer none, .iface 31 (.int .i64 10)]) ∧ w = w' := by
  obtain ⟨c0, _, _⟩ := h.cells
  have hl := h.look k
  rw [hr] at hl
  simp only [Option.map_none, Option.getD_none] at hl
  clear h hr
  go_enter Tryd.func24, Tryd.ntmps24
  go_wp2
  go_ret2
  exact ⟨rfl, rfl⟩

theorem DRow.slice {w : World} {v : Value} {bs : List UInt8} (h : DRow w v bs) : ∃ A c, v = .slice A bs.length c ∧ BytesAt w A bs ∧ (A = none → c = 0 ∧ bs = []) := by
  rcases h with ⟨rfl, rfl⟩ | ⟨g, cap, cur, rfl, h2, h3, h4, h5, h6⟩
  · exact ⟨none, 0, rfl, ⟨fun _ => rfl, fun ad e => by cases e⟩, fun _ => ⟨rfl, rfl⟩⟩
  · refine ⟨_, cap, rfl, ⟨fun e => (by cases e), fun ad e => ?_⟩, fun e => (by cases e)⟩
    cases e
    exact (DRow.cells (.inr ⟨g, cap, cur, rfl, h2, h3, h4, h5, h6⟩)).2
theorem own_slice {w : World} {base : Nat} {e : TypeId} {size n : Nat} {v : Value} {xs : List Value} (h : w.ownsRow base e size v n xs) : ∃ A c, v = .slice A n c := by
  rcases h.2 with ⟨rfl, hn⟩ | ⟨g, cap, cur, rfl, _⟩
  · exact ⟨none, 0, by rw [hn]⟩
  · exact ⟨_, _, rfl⟩
theorem DRow.of_own {w : World} {base : Nat} {v : Value} {bs : List UInt8} (h : w.ownsRow base 5 1 v bs.length (byteVs bs)) : DRow w v bs := by
  rcases h.2 with ⟨hv, hn⟩ | ⟨g, cap, cur, hv, hg, hh, h3, h4, h5, h6⟩
  · exact .inl ⟨hv, List.eq_nil_of_length_eq_zero hn⟩
  · exact .inr ⟨g, cap, cur, hv, hh, h3, by omega, h4, by simpa using h6⟩

/-- A row of the call's own: not the disk's. -/
theorem clone_bytes (v : Value) (bs : List UInt8) (w : World) (h : DRow w v bs) (hf : bs.length ≤ 1048576) :
    Calls Tryd.prog 25 #[v] w fun e w' => ∃ A c, e = .returned (.slice A bs.length c) ∧ Hid (w'.ownsRow w.heap.size 5 1 (.slice A bs.length c) bs.length (byteVs bs) ∧ Below w.heap.size w w') := by
  obtain ⟨A, c, rfl, hA, _⟩ := h.slice
  refine (cloneB_any A bs.length c (byteVs bs) w (by simp [byteVs]) (Nat.le_trans hf (by decide)) (by omega) (fun e => hA.1 e) (fun ad e => hA.2 ad e) (byteVs_one bs)).mono ?_
  rintro e w' ⟨v, rfl, h1, h2, _⟩
  obtain ⟨A', c', rfl⟩ := own_slice h1
  exact ⟨A', c', rfl, h1, h2⟩

theorem read_nil (k : ByteArray) (w : World) : Calls Tryd.prog 13 #[.pointer none, .string k] w fun e w' => e = .returned (.tuple #[.slice none 0 0, .iface 31 (.int .i64 19)]) ∧ w = w' := by
  go_enter Tryd.func13, Tryd.ntmps13
  go_wp2_with (go_at_call 24; refine (find_nil k _).mono ?_; rintro e w' ⟨rfl, rfl⟩)
  go_ret2
  exact ⟨rfl, rfl⟩
theorem read_miss (base : Nat) (s : St) (k : ByteArray) (w : World) (h : DiskAt base w s) (hr : s.R k = none) : Calls Tryd.prog 13 #[.pointer (some ⟨s.B, 0, none⟩), .string k] w fun e w' => e = .returned (.tuple #[.slice none 0 0, .iface 31 (.int .i64 10)]) ∧ w = w' := by
  have H := Lib.hid h
  clear h
  go_enter Tryd.func13, Tryd.ntmps13
  go_wp2_with (go_at_call 24; refine (find_miss base s k _ H.out hr).mono ?_; rintro e w' ⟨rfl, rfl⟩)
  go_ret2
  exact ⟨rfl, rfl⟩
theorem read_hit (base : Nat) (s : St) (k : ByteArray) (r : FRec) (w : World) (h : DiskAt base w s) (hr : s.R k = some r) : Calls Tryd.prog 13 #[.pointer (some ⟨s.B, 0, none⟩), .string k] w fun e w' => ∃ A c, e = .returned (.tuple #[.slice A r.data.length c, .nilIface]) ∧ Hid (w'.ownsRow w.heap.size 5 1 (.slice A r.data.length c) r.data.length (byteVs r.data) ∧ Below w.heap.size w w') := by
  have H := Lib.hid h
  have HR := Lib.hid (h.recs k r hr)
  have c0 := (h.recs k r hr).cells.1
  clear h
  go_enter Tryd.func13, Tryd.ntmps13
  go_wp2_with (first | (go_at_call 24; refine (find_hit base s k r _ H.out hr).mono ?_; rintro e w' ⟨rfl, rfl⟩) | (go_at_call 25; refine (clone_bytes r.dv r.data _ HR.out.data HR.out.few).mono ?_; rintro e w' ⟨A, c, rfl, H2⟩))
  go_ret2
  exact ⟨A, c, rfl, H2.out⟩
end Go.Proofs.YtfhdcjfkngflbaaDoor
