/-
  disk: Cut at a file, walked. Own work.
-/
import Derived.Test.YtfhdcjfkngflbaaDoorDiskCut3
set_option linter.unusedSimpArgs false
set_option linter.unusedVariables false
namespace Go.Proofs.YtfhdcjfkngflbaaDoor
open Go Go.RowKit
open Go.ChangeMaps (setBlock)

theorem cut_bad (base : Nat) (s : St) (k : ByteArray) (r : FRec) (n : Int) (w : World) (h : DiskAt base w s) (hr : s.R k = some r) (hn : n < 0 ∨ (r.data.length : Int) < n) : Calls Tryd.prog 15 #[.pointer (some ⟨s.B, 0, none⟩), .string k, .int .i64 n] w fun e w' => e = .returned (.iface 31 (.int .i64 1)) ∧ w = w' := by
  have H := Lib.hid h
  have hrec := h.recs k r hr
  obtain ⟨f0, _, _⟩ := hrec.cells
  obtain ⟨Ad, cd, hdv, _⟩ := hrec.data.slice
  rw [hdv] at f0
  obtain ⟨dl, hdl⟩ : ∃ q, Hid (r.data.length = q) := ⟨_, rfl⟩
  rw [hdl.out] at f0 hn
  have HR := Lib.hid hr
  clear h hrec hdv hr
  by_cases h0 : n < 0
  · clear hn
    go_enter Tryd.func15, Tryd.ntmps15
    go_wp2_with (go_at_call 24; refine (find_hit base s k r _ H.out HR.out).mono ?_; rintro e w' ⟨rfl, rfl⟩)
    go_ret
    exact ⟨rfl, rfl⟩
  · have h1 : (dl : Int) < n := by omega
    clear hn
    go_enter Tryd.func15, Tryd.ntmps15
    go_wp2_with (go_at_call 24; refine (find_hit base s k r _ H.out HR.out).mono ?_; rintro e w' ⟨rfl, rfl⟩)
    go_ret
    exact ⟨rfl, rfl⟩

theorem cut_ok (base : Nat) (s : St) (k : ByteArray) (r : FRec) (n : Nat) (w : World) (h : DiskAt base w s) (hlow : base ≤ w.heap.size) (hr : s.R k = some r) (hn : n ≤ r.data.length) : Calls Tryd.prog 15 #[.pointer (some ⟨s.B, 0, none⟩), .string k, .int .i64 n] w fun e w' => e = .returned .nilIface ∧
    ∃ dv lv, DiskAt base w' { s with R := updR s.R k (some (cutRec r n dv lv)) } ∧ Frame s { s with R := updR s.R k (some (cutRec r n dv lv)) } w w' := by
  have H := Lib.hid h
  have HL := Lib.hid hlow
  have hrec := h.recs k r hr
  obtain ⟨f0, _, _⟩ := hrec.cells
  obtain ⟨Ad, cd, hdv, _⟩ := hrec.data.slice
  obtain ⟨A, c, hlv⟩ := own_slice hrec.loose
  have hblk := hrec.blk
  have hloose := hrec.loose
  have hdr := hrec.data
  rw [hdv] at f0 hblk hdr
  rw [hlv] at hblk hloose
  have hcd : r.data.length ≤ cd := (hdr.cut r.data.length (Nat.le_refl _)).2
  have hlen : r.loose.length ≤ 1048576 := by
    have h1 := len_open r.loose hrec.pos
    have h2 := hrec.sum
    have h3 := hrec.few
    omega
  have hpos : ∀ p ∈ r.loose, 0 < p.2 ∧ p.2 ≤ 1048576 := fun p hp => by
    refine ⟨hrec.pos p hp, ?_⟩
    have h2 := hrec.sum
    have h3 := hrec.few
    obtain ⟨i, hi, hpi⟩ := List.mem_iff_getElem.1 hp
    have h4 := open_take_le r.loose hrec.pos i
    have h5 := open_take_le r.loose hrec.pos (i + 1)
    rw [← List.take_append_getElem hi, openOf_append] at h5
    have e : openOf [r.loose[i]] = p.2 := by rw [hpi]; simp [openOf]
    rw [e] at h5
    omega
  have HSH := Lib.hid (shorten_any w r.F r.data.length n Ad cd A c r.loose hblk hloose hpos hn hrec.few hcd hlen)
  have HDV := Lib.hid hdv
  have HLV := Lib.hid hlv
  have HR := Lib.hid hr
  have HNN := Lib.hid hn
  obtain ⟨dl, hdl⟩ : ∃ q, Hid (r.data.length = q) := ⟨_, rfl⟩
  rw [hdl.out] at f0 hn
  have h0 : ¬ ((n : Int) < 0) := by omega
  have h1 : ¬ ((dl : Int) < n) := by omega
  have h2 : ¬ (dl < n) := by omega
  clear h hlow hrec hdv hlv hblk hloose hdr hcd hlen hpos hr hn
  go_enter Tryd.func15, Tryd.ntmps15
  go_wp2_with (first | (go_at_call 24; refine (find_hit base s k r _ H.out HR.out).mono ?_; rintro e w' ⟨rfl, rfl⟩) | (go_at_call 26; refine HSH.out.mono ?_; rintro e w' ⟨⟨v, rfl⟩, g, cur, hend, hs⟩; have HC := Lib.hid (H.out.cut HL.out HR.out HDV.out HLV.out HNN.out hend hs); clear hend hs))
  go_ret
  exact ⟨rfl, _, _, HC.out⟩
end Go.Proofs.YtfhdcjfkngflbaaDoor
