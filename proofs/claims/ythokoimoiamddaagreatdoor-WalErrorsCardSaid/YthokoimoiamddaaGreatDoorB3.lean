/-
  disk: Cut. Own work.
  disk: Cut at a file, walked. Own work.
-/
import Derived.Test.YthokoimoiamddaaGreatDoorDiskCut2
set_option linter.unusedSimpArgs false
set_option linter.unusedVariables false
namespace Go.Proofs.YthokoimoiamddaaGreatDoor
open Go Go.RowKit
open Go.ChangeMaps (setBlock)

theorem openOf_append (a b : List (Int × Int)) : openOf (a ++ b) = openOf a + openOf b := by simp [openOf]
theorem openOf_reverse (l : List (Int × Int)) : openOf l.reverse = openOf l := by
  induction l with
  | nil => rfl
  | cons p l ih =>
    rw [List.reverse_cons, openOf_append, ih]
    simp [openOf]; omega
theorem openOf_nonneg (l : List (Int × Int)) (h : ∀ p ∈ l, 0 < p.2) : 0 ≤ openOf l := by have := len_open l h; omega
theorem shortR_open (l : List (Int × Int)) (g : Int) (hg : 0 ≤ g) (h : ∀ p ∈ l, 0 < p.2) : openOf (shortR l g) ≤ max 0 (openOf l - g) := by
  induction l generalizing g with
  | nil => simp [shortR, openOf]; omega
  | cons p l ih =>
    have hp := h p (by simp)
    have hl := openOf_nonneg l fun q hq => h q (by simp [hq])
    have e : openOf (p :: l) = p.2 + openOf l := by simp [openOf]
    unfold shortR
    split
    · rw [e]; omega
    · split
      · have := ih (g - p.2) (by omega) (fun q hq => h q (by simp [hq]))
        rw [e]; omega
      · have e2 : openOf ((p.1, p.2 - g) :: l) = p.2 - g + openOf l := by simp [openOf]
        rw [e, e2]; omega
theorem shortR_fst (l : List (Int × Int)) (g : Int) : ∃ t, l.map (·.1) = t ++ (shortR l g).map (·.1) := by
  induction l generalizing g with
  | nil => exact ⟨[], rfl⟩
  | cons p l ih =>
    unfold shortR
    split
    · exact ⟨[], rfl⟩
    · split
      · obtain ⟨t, ht⟩ := ih (g - p.2)
        exact ⟨p.1 :: t, by simp [ht]⟩
      · exact ⟨[], rfl⟩
theorem shortL_open (l : List (Int × Int)) (g : Int) (hg : 0 ≤ g) (h : ∀ p ∈ l, 0 < p.2) : openOf (shortL l g) ≤ max 0 (openOf l - g) := by
  unfold shortL
  rw [openOf_reverse]
  have := shortR_open l.reverse g hg (fun p hp => h p (by simpa using hp))
  rwa [openOf_reverse] at this
theorem shortL_fst (l : List (Int × Int)) (g : Int) : ∃ t, l.map (·.1) = (shortL l g).map (·.1) ++ t := by
  obtain ⟨t, ht⟩ := shortR_fst l.reverse g
  refine ⟨t.reverse, ?_⟩
  unfold shortL
  have := congrArg List.reverse ht
  simpa [List.map_reverse] using this
theorem shortL_at (l : List (Int × Int)) (g : Int) (i : Nat) (p : Int × Int) (h : (shortL l g)[i]? = some p) : ∃ q, l[i]? = some q ∧ q.1 = p.1 := by
  obtain ⟨t, ht⟩ := shortL_fst l g
  have h1 : (l.map (·.1))[i]? = some p.1 := by
    rw [ht, List.getElem?_append_left (by simpa using (List.getElem?_eq_some_iff.1 h).1)]
    simp [h]
  rw [List.getElem?_map] at h1
  cases hq : l[i]? with
  | none => rw [hq] at h1; cases h1
  | some q => rw [hq] at h1; exact ⟨q, rfl, by simpa using h1⟩

def cutRec (r : FRec) (n : Nat) (dv lv : Value) : FRec := { r with dv := dv, lv := lv, data := r.data.take n, loose := shortL r.loose ((r.data.length : Int) - n) }

theorem DiskAt.cut {base : Nat} {w w' : World} {s : St} (h : DiskAt base w s) (hlow : base ≤ w.heap.size) {k : ByteArray} {r : FRec} (hr : s.R k = some r) {n : Nat} {Ad A : Option Addr} {cd c : Nat} (hdv : r.dv = .slice Ad r.data.length cd) (hlv : r.lv = .slice A r.loose.length c) (hn : n ≤ r.data.length)
    {g : Int} {cur : List (Int × Int)} (hend : g ≤ 0 ∨ cur = []) (hs : ShortAt w r.F (.slice Ad n n) r.loose ((r.data.length : Int) - n) A c w' g cur) :
    DiskAt base w' { s with R := updR s.R k (some (cutRec r n (.slice Ad n n) (.slice A cur.length c))) } ∧ Frame s { s with R := updR s.R k (some (cutRec r n (.slice Ad n n) (.slice A cur.length c))) } w w' := by
  have hrec := h.recs k r hr
  obtain ⟨ha1, ha2, ha3⟩ := hrec.apart
  have hcur : cur = shortL r.loose ((r.data.length : Int) - n) := by
    rw [← hs.eqv]
    rcases hend with hg | hc
    · exact (shortL_zero cur g hg).symm
    · rw [hc]; exact (shortL_nil g).symm
  have hlb : ∀ m, (Value.slice A m c).ownBlock = r.lv.ownBlock := fun m => by rw [hlv]; exact ownBlock_len A m _ c
  have hdb : ∀ m q, (Value.slice Ad m q).ownBlock = r.dv.ownBlock := fun m q => by rw [hdv]; cases Ad <;> rfl
  have hk : ∀ x, ¬ r.blocks x → w'.heap[x]? = w.heap[x]? := fun x hx => hs.keep x (fun e => hx (.inl e)) (fun e => hx (.inr (.inr (by rw [← hlb 0]; exact e))))
  have hblk : ∀ x, (cutRec r n (.slice Ad n n) (.slice A cur.length c)).blocks x → r.blocks x ∨ w.heap.size ≤ x := fun x hx => by
    rcases hx with hx | hx | hx
    · exact .inl (.inl hx)
    · exact .inl (.inr (.inl (by rw [← hdb n n]; exact hx)))
    · exact .inl (.inr (.inr (by rw [← hlb cur.length]; exact hx)))
  have hdr := hrec.data
  rw [hdv] at hdr
  have hdc := (hdr.cut n hn).1
  have hin : ∀ (i : Nat) (p : Int × Int), (cutRec r n (.slice Ad n n) (.slice A cur.length c)).loose[i]? = some p → ∃ q, r.loose[i]? = some q ∧ q.1 = p.1 := fun i p hp => shortL_at _ _ i p hp
  refine ⟨h.change hr _ rfl ⟨hs.blk, ?_, ?_, ?_, fun p hp => ?_, ?_⟩ (fun x _ hx => hk x hx) hblk hlow (fun p hp => ?_) (fun k' r2 i j p p' hne hr2 hp hp' e => ?_) (fun i j p p' hp hp' e => ?_), hs.same.1, hs.same.2.1, hs.same.2.2, by rw [hs.size]; exact Nat.le_refl _, fun x _ ho => hk x fun hb => ho (.inr (.inr ⟨k, r, hr, hb⟩)), St.own_upd (t := s.turn) hr hblk⟩
  · refine DRow.keep (w := w) hdc fun x hx => hs.keep x (ha1 x (by rw [← hdb n n]; exact hx)) (fun e => ?_)
    exact ha3 x (by rw [← hdb n n]; exact hx) (by rw [← hlb 0]; exact e)
  · show w'.ownsRow 0 _ 2 (.slice A cur.length c) (shortL r.loose _).length (pieceCells (shortL r.loose _))
    rw [← hcur]; exact hs.row
  · show (r.data.take n).length ≤ _
    have := hrec.few
    simp; omega
  · exact (hs.pos p (by rw [hcur]; exact hp)).1
  · show openOf (shortL r.loose ((r.data.length : Int) - n)) ≤ (r.data.take n).length
    have h1 := shortL_open r.loose ((r.data.length : Int) - n) (by omega) hrec.pos
    have h2 := hrec.sum
    rw [List.length_take, Nat.min_eq_left hn]
    omega
  · obtain ⟨i, hi, hpi⟩ := List.mem_iff_getElem.1 hp
    obtain ⟨q, hq, hqe⟩ := hin i p (by rw [← hpi]; exact List.getElem?_eq_getElem hi)
    rw [← hqe]
    exact h.turns k r q hr (List.mem_of_getElem? hq)
  · obtain ⟨q, hq, hqe⟩ := hin i p hp
    exact hne (h.uniq k k' r r2 i j q p' hr hr2 hq hp' (hqe.trans e)).1.symm
  · obtain ⟨q, hq, hqe⟩ := hin i p hp
    obtain ⟨q', hq', hqe'⟩ := hin j p' hp'
    exact (h.uniq k k r r i j q q' hr hr hq hq' ((hqe.trans e).trans hqe'.symm)).2

theorem cut_nil (k : ByteArray) (n : Int) (w : World) : Calls Tryz.prog 44 #[.pointer none, .string k, .int .i64 n] w fun e w' => e = .returned (.iface 42 (.int .i64 19)) ∧ w = w' := by
  go_enter Tryz.func44, Tryz.ntmps44
  go_wp2_with (go_at_call 49; refine (find_nil k _).mono ?_; rintro e w' ⟨rfl, rfl⟩)
  go_ret
  exact ⟨rfl, rfl⟩
theorem cut_miss (base : Nat) (s : St) (k : ByteArray) (n : Int) (w : World) (h : DiskAt base w s) (hr : s.R k = none) : Calls Tryz.prog 44 #[.pointer (some ⟨s.B, 0, none⟩), .string k, .int .i64 n] w fun e w' => e = .returned (.iface 42 (.int .i64 10)) ∧ w = w' := by
  have H := Lib.hid h
  clear h
  go_enter Tryz.func44, Tryz.ntmps44
  go_wp2_with (go_at_call 49; refine (find_miss base s k _ H.out hr).mono ?_; rintro e w' ⟨rfl, rfl⟩)
  go_ret
  exact ⟨rfl, rfl⟩
end Go.Proofs.YthokoimoiamddaaGreatDoor
set_option linter.unusedSimpArgs false
set_option linter.unusedVariables false
namespace Go.Proofs.YthokoimoiamddaaGreatDoor
open Go Go.RowKit
open Go.ChangeMaps (setBlock)

theorem cut_bad (base : Nat) (s : St) (k : ByteArray) (r : FRec) (n : Int) (w : World) (h : DiskAt base w s) (hr : s.R k = some r) (hn : n < 0 ∨ (r.data.length : Int) < n) : Calls Tryz.prog 44 #[.pointer (some ⟨s.B, 0, none⟩), .string k, .int .i64 n] w fun e w' => e = .returned (.iface 42 (.int .i64 1)) ∧ w = w' := by
  have H := Lib.hid h
  have hrec := h.recs k r hr
  obtain ⟨f0, _, _⟩ := hrec.cells
  obtain ⟨Ad, cd, hdv, _⟩ := hrec.data.slice
  rw [hdv] at f0
  obtain ⟨dl, hdl⟩ : ∃ q, Hid (r.data.length = q) := ⟨_, rfl⟩
  rw [hdl.out] at f0 hn
  have HR := Lib.hid hr
  clear h hrec hdv hr
  by_cases h0 : n < 0
  · clear hn
    go_enter Tryz.func44, Tryz.ntmps44
    go_wp2_with (go_at_call 49; refine (find_hit base s k r _ H.out HR.out).mono ?_; rintro e w' ⟨rfl, rfl⟩)
    go_ret
    exact ⟨rfl, rfl⟩
  · have h1 : (dl : Int) < n := by omega
    clear hn
    go_enter Tryz.func44, Tryz.ntmps44
    go_wp2_with (go_at_call 49; refine (find_hit base s k r _ H.out HR.out).mono ?_; rintro e w' ⟨rfl, rfl⟩)
    go_ret
    exact ⟨rfl, rfl⟩

theorem cut_ok (base : Nat) (s : St) (k : ByteArray) (r : FRec) (n : Nat) (w : World) (h : DiskAt base w s) (hlow : base ≤ w.heap.size) (hr : s.R k = some r) (hn : n ≤ r.data.length) : Calls Tryz.prog 44 #[.pointer (some ⟨s.B, 0, none⟩), .string k, .int .i64 n] w fun e w' => e = .returned .nilIface ∧
    ∃ dv lv, DiskAt base w' { s with R := updR s.R k (some (cutRec r n dv lv)) } ∧ Frame s { s with R := updR s.R k (some (cutRec r n dv lv)) } w w' := by
  have H := Lib.hid h
  have HL := Lib.hid hlow
  have hrec := h.recs k r hr
  obtain ⟨f0, _, _⟩ := hrec.cells
  obtain ⟨Ad, cd, hdv, _⟩ := hrec.data.slice
  obtain ⟨A, c, hlv⟩ := own_slice hrec.loose
  have hblk := hrec.blk
  have hloose := hrec.loose
  have hdr := hrec.data
  rw [hdv] at f0 hblk hdr
  rw [hlv] at hblk hloose
  have hcd : r.data.length ≤ cd := (hdr.cut r.data.length (Nat.le_refl _)).2
  have hlen : r.loose.length ≤ 1048576 := by
    have h1 := len_open r.loose hrec.pos
    have h2 := hrec.sum
    have h3 := hrec.few
    omega
  have hpos : ∀ p ∈ r.loose, 0 < p.2 ∧ p.2 ≤ 1048576 := fun p hp => by
    refine ⟨hrec.pos p hp, ?_⟩
    have h2 := hrec.sum
    have h3 := hrec.few
    obtain ⟨i, hi, hpi⟩ := List.mem_iff_getElem.1 hp
    have h4 := open_take_le r.loose hrec.pos i
    have h5 := open_take_le r.loose hrec.pos (i + 1)
    rw [← List.take_append_getElem hi, openOf_append] at h5
    have e : openOf [r.loose[i]] = p.2 := by rw [hpi]; simp [openOf]
    rw [e] at h5
    omega
  have HSH := Lib.hid (shorten_any w r.F r.data.length n Ad cd A c r.loose hblk hloose hpos hn hrec.few hcd hlen)
  have HDV := Lib.hid hdv
  have HLV := Lib.hid hlv
  have HR := Lib.hid hr
  have HNN := Lib.hid hn
  obtain ⟨dl, hdl⟩ : ∃ q, Hid (r.data.length = q) := ⟨_, rfl⟩
  rw [hdl.out] at f0 hn
  have h0 : ¬ ((n : Int) < 0) := by omega
  have h1 : ¬ ((dl : Int) < n) := by omega
  have h2 : ¬ (dl < n) := by omega
  clear h hlow hrec hdv hlv hblk hloose hdr hcd hlen hpos hr hn
  go_enter Tryz.func44, Tryz.ntmps44
  go_wp2_with (first | (go_at_call 49; refine (find_hit base s k r _ H.out HR.out).mono ?_; rintro e w' ⟨rfl, rfl⟩) | (go_at_call 65; refine HSH.out.mono ?_; rintro e w' ⟨⟨v, rfl⟩, g, cur, hend, hs⟩; have HC := Lib.hid (H.out.cut HL.out HR.out HDV.out HLV.out HNN.out hend hs); clear hend hs))
  go_ret
  exact ⟨rfl, _, _, HC.out⟩
end Go.Proofs.YthokoimoiamddaaGreatDoor
