/-
  event.Check at every event: it returns an error or none, and writes nothing that was there. Own work.
-/
import Derived.Test.YthapeellcbeecaaDoorEvCheck
set_option linter.unusedSimpArgs false
set_option linter.unusedVariables false
namespace Go.Proofs.YthapeellcbeecaaDoor
open Go Go.RowKit

structure AttrD where
  name : ByteArray
  k : Int
  i : Int
  s : ByteArray
  b : Bool

/-- Slice (A, l.length) holds these attributes. -/
def Attrs (w : World) (A : Option Addr) (l : List AttrD) : Prop :=
  0 < l.length → ∃ g off, A = some ⟨g, off, none⟩ ∧ ∀ j a, l[j]? = some a →
    w.cell? ⟨g, off + j * 5, none⟩ = some (.string a.name) ∧ w.cell? ⟨g, off + j * 5 + 1, none⟩ = some (.int .i64 a.k) ∧ w.cell? ⟨g, off + j * 5 + 2, none⟩ = some (.int .i64 a.i) ∧
    w.cell? ⟨g, off + j * 5 + 3, none⟩ = some (.string a.s) ∧ w.cell? ⟨g, off + j * 5 + 4, none⟩ = some (.bool a.b)

def EChk (w : World) (n : Nat) (e : Ending) (w' : World) : Prop := ∃ r, e = .returned r ∧ ErrV r ∧ (n = 0 → r = .nilIface) ∧ (r = .nilIface → n ≤ 16) ∧ Below w.heap.size w w'

theorem echk_nil {w w' : World} {n : Nat} (h : Below w.heap.size w w') (hn : n ≤ 16) : EChk w n (.returned .nilIface) w' := ⟨_, rfl, .inl rfl, fun _ => rfl, fun _ => hn, h⟩
theorem echk_err {w w' : World} {n : Nat} {t : TypeId} {v : Value} (h : Below w.heap.size w w') (hn : 0 < n) : EChk w n (.returned (.iface t v)) w' := ⟨_, rfl, .inr ⟨_, _, rfl⟩, fun h => by omega, fun h => (by cases h), h⟩

theorem below_step {w a b : World} (h : Below w.heap.size w a) (k : Below a.heap.size a b) : Below w.heap.size w b := h.trans (k.mono h.size)

set_option maxHeartbeats 2000000 in
theorem echeck_any (A : Option Addr) (c : Nat) (l : List AttrD) (w : World) (hl : l.length ≤ 9223372036854775807) (hA : Attrs w A l) :
    Calls Tryd.prog 14 #[.slice A l.length c] w (EChk w l.length) := by
  by_cases hlen : 16 < l.length
  · go_enter Tryd.func14, Tryd.ntmps14
    go_wp2
    go_ret
    exact echk_err (Below.refl _ _) (by omega)
  · obtain ⟨n, hn⟩ : ∃ n, n = l.length := ⟨_, rfl⟩
    have hA' : Hid (Attrs w A l) := hA
    have HN : Hid (n = l.length) := hn
    have hn16 : n ≤ 16 := by omega
    rw [← hn]
    clear hA hl hn hlen
    go_enter Tryd.func14, Tryd.ntmps14
    go_wp2
    go_loopw [3, 13] (fun s i wr => ∃ (k : Nat) (ls : ByteArray), k ≤ n ∧ i = .int .i64 k ∧ s = .string ls ∧ Below w.heap.size w wr) (fun _ i _ => n - (intOf i).toNat)
    case atStart => exact ⟨0, _, Nat.zero_le _, rfl, rfl, Below.refl _ _⟩
    case round =>
      obtain ⟨k, ls, hk, rfl, rfl, hb⟩ := hrel
      by_cases hlt : k < n
      · obtain ⟨a, ha⟩ : ∃ a, l[k]? = some a := ⟨_, List.getElem?_eq_getElem (by have := HN.out; omega)⟩
        obtain ⟨g, off, rfl, hc⟩ := hA'.out (by have := HN.out; omega)
        obtain ⟨c0, c1, c2, c3, c4⟩ := hc k a ha
        have hg : g < w.heap.size := World.block_lt_of_cell? w _ c0
        have d0 := (hb.cell (p := ⟨g, off + k * 5, none⟩) hg).trans c0
        have d1 := (hb.cell (p := ⟨g, off + k * 5 + 1, none⟩) hg).trans c1
        have d2 := (hb.cell (p := ⟨g, off + k * 5 + 2, none⟩) hg).trans c2
        have d3 := (hb.cell (p := ⟨g, off + k * 5 + 3, none⟩) hg).trans c3
        have d4 := (hb.cell (p := ⟨g, off + k * 5 + 4, none⟩) hg).trans c4
        clear c0 c1 c2 c3 c4 hc ha
        obtain ⟨nm, ak, ai, as_, ab⟩ := a
        simp only at d0 d1 d2 d3 d4
        have hb2 : Below w.heap.size w (wr.alloc (.cells #[.string nm, .int .i64 ak, .int .i64 ai, .string as_, .bool ab] 59)) := hb.alloc hb.size _
        cases hnm : nameB nm with
        | false =>
          have HNM : Hid (nameB nm = false) := hnm
          clear hnm
          go_wp2_with (first | (go_at_call 20; refine (name_any _ _).mono ?_; rw [HNM.out]; rintro e w' ⟨rfl, rfl⟩) | (go_at_call 21; refine (at_err _ _ _ _ _).mono ?_; rintro e w' ⟨rfl, rfl⟩))
          go_ret
          exact echk_err (hb2.alloc hb2.size _) (by omega)
        | true =>
          have HNM : Hid (nameB nm = true) := hnm
          clear hnm
          go_wp2_with (first | (go_at_call 20; refine (name_any _ _).mono ?_; rw [HNM.out]; rintro e w' ⟨rfl, rfl⟩) | (go_at_call 21; refine (at_err _ _ _ _ _).mono ?_; rintro e w' ⟨rfl, rfl⟩))
          · go_ret
            exact echk_err (hb2.alloc hb2.size _) (by omega)
          · refine (vcheck_any _ _ _ _ _).mono ?_
            rintro e w' ⟨r, rfl, hr, hbv⟩
            have c5 : w'.cell? ⟨wr.heap.size, 0, none⟩ = some (.string nm) := (hbv.cell (p := ⟨wr.heap.size, 0, none⟩) (by simp)).trans (by simp)
            have hb3 := below_step hb2 hbv
            rcases hr with rfl | ⟨t, v, rfl⟩
            · go_wp2
              go_roundw
              case rel => exact ⟨k + 1, nm, by omega, by go_num, rfl, hb3⟩
              case measure => simp [intOf]; omega
            · go_wp2_with (go_at_call 21; refine (at_err _ _ _ _ _).mono ?_; rintro e w' ⟨rfl, rfl⟩)
              go_ret
              exact echk_err (hb3.alloc hb3.size _) (by omega)
      · go_wp2
        go_ret
        exact echk_nil hb hn16

end Go.Proofs.YthapeellcbeecaaDoor
