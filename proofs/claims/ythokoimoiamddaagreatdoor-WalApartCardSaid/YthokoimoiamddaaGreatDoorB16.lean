/-
  wal: two logs on one disk, plainly. Own work.
  wal: the law WalApart. Own work.
-/
import Derived.Test.YthokoimoiamddaaGreatDoorB13
import Derived.Test.YthokoimoiamddaaGreatDoorB15
set_option linter.unusedSimpArgs false
set_option linter.unusedVariables false
namespace Go.Proofs.YthokoimoiamddaaGreatDoor
open Go Go.RowKit

theorem fore_logs (n : Nat) : Foreign kLog (pathB kLogs n) := by
  refine ⟨?_, ?_, ?_⟩
  · rw [pathB_list]; rfl
  · rw [pathB_list]; rfl
  · rw [path_size]; decide
theorem fore_log (n : Nat) : Foreign kLogs (pathB kLog n) := by
  refine ⟨?_, ?_, ?_⟩
  · rw [pathB_list]; rfl
  · rw [pathB_list]; rfl
  · rw [path_size]; decide
section
variable {base B g j q safe n : Nat} {w w' : World} {s s' : St} {vo v : Vw} {ko : List ByteArray} {f : Fnd} {nm : ByteArray} {t : Int} {ns : List Nat} {sa : List Fr}
/-- A log all of whose records are safe: nothing of it is loose. -/
theorem Lg.still (h : Lg base w g B nm s vo ko f f.recs.length j q) : ∃ v t n ns sa, Dk base w B v t n s ∧ Lay sumB (pathB nm) v vo ns sa [] t ∧ fndL (sa.map (·.2)) = f ∧ n = ns.length + ko.length ∧ n ≤ 64 ∧ (∀ x ∈ ns, x ≤ j) ∧ t ≤ 100 + j ∧ ErrS w ∧ 1 < base := by
  obtain ⟨seg, file, size, v, t, n, ns, sa, lo, h, hl⟩ := h
  have h1 := hl.hf
  rw [List.map_append, fndL_append, fold_recs lo _ hl.recs] at h1
  have h2 := hl.hsafe
  have h3 : lo = [] := by
    have h4 := congrArg (fun x => x.recs.length) h1
    simp only [List.length_append, List.length_map] at h4
    exact List.eq_nil_of_length_eq_zero (by omega)
  subst h3
  exact ⟨v, t, n, ns, sa, h.dk, hl.lay, by simpa using hl.hf, hl.hn, hl.few, hl.le, hl.tj, h.err, h.ten⟩
/-- The other log's files, as this one sees them. -/
theorem oth_logs (h : Lay sumB (pathB kLogs) v (fun _ => none) ns sa [] t) : Oth kLog v (ns.map (pathB kLogs)) := by
  have hk : ∀ k, (v k).isSome = true → ∃ m ∈ ns, k = pathB kLogs m := fun k hk => by
    by_cases hc : ∃ m ∈ ns, k = pathB kLogs m
    · exact hc
    · rw [h.other k fun m hm e => hc ⟨m, hm, e⟩] at hk
      cases hk
  refine ⟨fun k p hp => ?_, fun k hs => ?_, ?_, fun k => ⟨fun hm => ?_, fun hs => ?_⟩⟩
  · obtain ⟨m, hm, rfl⟩ := hk k (by rw [hp]; rfl)
    rw [h.key m hm] at hp
    cases hp
    rfl
  · obtain ⟨m, hm, rfl⟩ := hk k hs
    exact fore_logs m
  · rw [List.nodup_iff_pairwise_ne, List.pairwise_map]
    exact h.inc.imp_of_mem fun {a b} ha hb hab e => by have := path_inj kLogs a b (h.bnd a ha) (h.bnd b hb) e; omega
  · obtain ⟨x, hx, rfl⟩ := List.mem_map.1 hm
    rw [h.key x hx]; rfl
  · obtain ⟨m, hm, rfl⟩ := hk k hs
    exact List.mem_map.2 ⟨m, hm, rfl⟩
/-- .. this one has none as yet. -/
theorem lgD_beside (hd : Dk base w B v t n s) (hn : n = ns.length) (h64 : n ≤ 64) (hE : ErrS w) (hten : 1 < base) (j : Nat) (ht : t ≤ 100 + j) : LgD base w B kLog s v (ns.map (pathB kLogs)) fnd0 j :=
  ⟨v, t, n, [], [], 0, [], hd, ⟨by simp, fun _ _ => rfl, .nil, by simp, by simp, .nil, by simp, tornP_nil, .inl rfl⟩, rfl, hE, hten, by simp [hn], h64, by simp, ht, by simp [fnd0]⟩
open Classical in
/-- The first log behind the second one's calls. -/
theorem lgD_back {v0 : Vw} {t0 : Int} {f2 : Fnd} (h0 : Lay sumB (pathB kLogs) v0 (fun _ => none) ns sa [] t0) (hf : fndL (sa.map (·.2)) = f) (hc : f.recs.length ≤ j) (hx : ∀ x ∈ ns, x ≤ j) (h : Lg base w g B kLog s v0 (ns.map (pathB kLogs)) f2 safe j q) :
    ∃ vo2 ko2, (∀ k, (vo2 k).isSome = true → Foreign kLogs k) ∧ LgD base w B kLogs s vo2 ko2 f j := by
  obtain ⟨seg, file, size, v, t, n, ns2, sa2, lo2, hk, hl⟩ := h
  refine ⟨fun k => if ∃ m ∈ ns, k = pathB kLogs m then none else v k, ns2.map (pathB kLog), fun k hs => ?_, v, t, n, ns, sa, 0, [], hk.dk, ⟨fun m hm => ?_, fun k hn => ?_, h0.inc, h0.bnd, by simpa using h0.mem, by simpa using h0.ord, by simpa using h0.pay, tornP_nil, .inl rfl⟩, hf, hk.err, hk.ten, ?_, hl.few, hx, hl.tj, hc⟩
  · by_cases h1 : ∃ m ∈ ns, k = pathB kLogs m
    · simp only [if_pos h1] at hs
      cases hs
    · simp only [if_neg h1] at hs
      by_cases h2 : ∃ m ∈ ns2, k = pathB kLog m
      · obtain ⟨m, hm, rfl⟩ := h2
        exact fore_log m
      · rw [hl.lay.other k fun m hm e => h2 ⟨m, hm, e⟩, h0.other k fun m hm e => h1 ⟨m, hm, e⟩] at hs
        cases hs
  · have h2 := h0.key m hm
    rw [hl.lay.other (pathB kLogs m) fun x hx e => foreign_path (fore_logs m) x e, h2]
    simp [pcs]
  · have h3 : ¬ ∃ m ∈ ns, k = pathB kLogs m := fun ⟨m, hm, e⟩ => hn m hm e
    simp only [if_neg h3]
  · have := hl.hn
    simp only [List.length_map] at this ⊢
    omega
end
end Go.Proofs.YthokoimoiamddaaGreatDoor
set_option linter.unusedSimpArgs false
set_option linter.unusedVariables false
namespace Go.Proofs.YthokoimoiamddaaGreatDoor
open Go Go.RowKit

theorem lg_open2F {base B j : Nat} {w : World} {nm : ByteArray} {s : St} {vo : Vw} {ko : List ByteArray} {f : Fnd} (h : LgD base w B nm s vo ko f j) (hfo : ∀ k, (vo k).isSome = true → Foreign nm k) (hp : PathOK nm) (seg : Nat) (hr : rightB nm seg = true) (q : Nat) :
    Calls Tryz.prog 9 #[.pointer (some ⟨B, 0, none⟩), .string nm, .int .i64 seg] w fun e w' => ∃ (sA : Option Addr) (sc : Nat) (A : Option Addr) (k c : Nat) (vs : List Value) (s' : St) (b g : Nat), e = .returned (.tuple #[.pointer (some ⟨g, 0, none⟩), .agg #[.bool f.whole, .slice sA f.shot.length sc, .slice A k c], .nilIface]) ∧
      FndAt w' s' w.heap.size b f (.slice sA f.shot.length sc) A k c vs ∧ Frame s s' w w' := by
  refine (lg_openF h hfo hp seg hr q).mono ?_
  rintro e w' ⟨SV, A, k, c, vs, s', b, g, rfl, h1, h2, h3, h4, h5⟩
  obtain ⟨sA, sc, rfl, h6⟩ := h3.shotS
  exact ⟨sA, sc, A, k, c, vs, s', b, g, rfl, h3, h5⟩
theorem logs_cut (m : Nat) (W : World) : (Instr.slice 9 (.string (pathB kLogs m)) none (some (.int .i64 5)) none).run Tryz.prog W = .ok (.string ⟨#[108, 111, 103, 115, 46]⟩) W := by
  have hs : (pathB kLogs m).size = 14 := by rw [path_size]; rfl
  have h := run_slice_string_h (P := Tryz.prog) W 9 (pathB kLogs m) Tryz.underlying9 .i64 5 (by decide) (by rw [hs]; decide)
  have e : (pathB kLogs m).extract 0 5 = ⟨#[108, 111, 103, 115, 46]⟩ := by
    apply ByteArray.ext
    apply Array.ext'
    rw [ByteArray.data_extract, Array.toList_extract, pathB_list]
    rfl
  rw [h, show (Int.toNat 5) = 5 from rfl, e]
/-- The law's box for what was found. -/
def FBox (b : Nat) (x y z : Value) (W : World) : Prop := W.heap[b]? = some (.cells #[x, y, z] 29 (0, 0))

set_option maxRecDepth 20000 in
set_option maxHeartbeats 4000000 in
theorem apart_any (A : Option Addr) (c : Nat) (l : List WOp) (D : Option Addr) (d : Nat) (xs : List (List UInt8)) (w : World) (hA : WOps w A l) (hl : l.length ≤ 140737488351232) (hD : SlicesAt w D xs) (hE : ErrS w) (hT : ErrT w) :
    Calls Tryz.prog 6 #[.slice A l.length c, .slice D xs.length d] w fun e w' => e = .returned (.bool true) ∧ Below w.heap.size w w' := by
  have HA := Lib.hid hA
  have HD := Lib.hid hD
  have HE := Lib.hid hE
  have HT : Hid (ErrT w ∧ 0 < w.heap.size) := ⟨hT, World.block_lt_of_cell? w ⟨0, 0, none⟩ hT⟩
  have HF : Hid (∀ W, Below w.heap.size w W → Calls Tryz.prog 20 #[.slice A l.length c] W fun e w' => e = .returned (.bool (fewW l)) ∧ Below W.heap.size W w') := fun W hW => wfew_any A c l W (hA.below hW) hl
  obtain ⟨n, hn⟩ : ∃ n, l.length = n := ⟨_, rfl⟩
  obtain ⟨m, hm⟩ : ∃ m, xs.length = m := ⟨_, rfl⟩
  have HN := Lib.hid hn
  have HM := Lib.hid hm
  rw [hn] at HF ⊢
  rw [hm]
  clear hA hl hE hT hn hD hm
  cases hf : fewW l with
  | false =>
    rw [hf] at HF
    clear hf
    go_enter Tryz.func6, Tryz.ntmps6
    go_wp2_with fail
    refine (awake_any _ HE.out).mono ?_
    rintro e w1 ⟨rfl, hb1⟩
    have HB1 := Lib.hid hb1
    clear hb1
    go_wp2_with fail
    refine (HF.out _ HB1.out).mono ?_
    rintro e w2 ⟨rfl, hb2⟩
    have HB2 : Hid (Below w.heap.size w w2) := HB1.out.trans (hb2.mono HB1.out.size)
    clear hb2
    go_wp2_with fail
    go_ret
    exact ⟨rfl, HB2.out⟩
  | true =>
    rw [hf] at HF
    have HFW := Lib.hid (wfew_is hf)
    clear hf
    by_cases h10 : 10 < m
    · have h10' : decide ((m : Int) > 10) = true := decide_eq_true (by omega)
      go_enter Tryz.func6, Tryz.ntmps6
      go_wp2_with fail
      refine (awake_any _ HE.out).mono ?_
      rintro e w1 ⟨rfl, hb1⟩
      have HB1 := Lib.hid hb1
      clear hb1
      go_wp2_with fail
      refine (HF.out _ HB1.out).mono ?_
      rintro e w2 ⟨rfl, hb2⟩
      have HB2 : Hid (Below w.heap.size w w2) := HB1.out.trans (hb2.mono HB1.out.size)
      clear hb2
      go_wp2_with fail
      go_ret
      exact ⟨rfl, HB2.out⟩
    have h10' : decide ((m : Int) > 10) = false := decide_eq_false (by omega)
    have HM10 : Hid (m ≤ 10) := by unfold Hid; omega
    go_enter Tryz.func6, Tryz.ntmps6
    go_wp2_with fail
    refine (awake_any _ HE.out).mono ?_
    rintro e w1 ⟨rfl, hb1⟩
    have HB1 := Lib.hid hb1
    clear hb1
    go_wp2_with fail
    refine (HF.out _ HB1.out).mono ?_
    rintro e w2 ⟨rfl, hb2⟩
    have HB2 : Hid (Below w.heap.size w w2) := HB1.out.trans (hb2.mono HB1.out.size)
    clear hb2
    go_wp2_with fail
    refine (newDisk_any _).mono ?_
    rintro e w' ⟨rfl, rfl⟩
    clear h10' h10
    obtain ⟨w3, hw3⟩ : ∃ w3, w3 = (w2.alloc (.map #[] 0)).alloc (.cells #[.map (some w2.heap.size), .int .i64 0] 60) := ⟨_, rfl⟩
    obtain ⟨Bd, hBd⟩ : ∃ Bd, Bd = w2.heap.size + 1 := ⟨_, rfl⟩
    have HB3 : Hid (Below w2.heap.size w2 w3) := by rw [hw3]; exact ((Below.refl _ _).alloc (Nat.le_refl _) _).alloc (by simp) _
    have HB4 : Hid (Below w.heap.size w w3) := HB2.out.trans (HB3.out.mono HB2.out.size)
    have HD3 : Hid (LgD w2.heap.size w3 Bd kLogs (newSt w2) (fun _ => none) [] fnd0 0) := by
      have h9 := HE.out.below HB4.out
      rw [hw3] at h9 ⊢
      rw [hBd]
      exact lgD_new (dk_new w2) h9 (HE.out.below HB2.out).one (by decide) kLogs 0
    have HS2 : Hid (w.heap.size ≤ w2.heap.size) := HB2.out.size
    rw [← hw3, ← hBd]
    clear hw3 hBd HB1 HB2
    go_wp2_with fail
    refine (lg_open2 HD3.out (oth_none kLogs) (pathOK_of nm_logs) 500 (right_of nm_logs 500 (by decide) (by decide)) 400).mono ?_
    rintro e w4 ⟨sA, sc, A4, k, c4, vs, s4, b, g, he, hlg, hld, hfn, hsb, hge, hfr⟩
    have hk0 : k = 0 := hfn.len.symm
    subst hk0
    have he2 : e = .returned (.tuple #[.pointer (some ⟨g, 0, none⟩), .agg #[.bool false, .slice sA 0 sc, .slice A4 0 c4], .nilIface]) := he
    subst he2
    clear he
    have hb4 : Below w.heap.size w w4 := HB4.out.trans ((HD3.out.below_of hfr).mono HS2.out)
    obtain ⟨W5, hW5, hbox, hbW⟩ := box_new w4 (.bool false) (.slice sA 0 sc) (.slice A4 0 c4)
    have HW5 := Lib.hid hW5
    have HL5 : Hid (Lg w2.heap.size W5 g Bd kLogs s4 (fun _ => none) [] fnd0 0 0 400) := hlg.below hbW
    have HB5 : Hid (Below w.heap.size w W5) := hb4.trans (hbW.mono hb4.size)
    obtain ⟨b7, hb7⟩ : ∃ b7, b7 = w4.heap.size := ⟨_, rfl⟩
    have HX5 : Hid (FBox b7 (.bool false) (.slice sA 0 sc) (.slice A4 0 c4) W5) := by rw [hb7]; exact hbox
    have HB7 : Hid (b7 = w4.heap.size ∧ w2.heap.size ≤ b7) := ⟨hb7, by rw [hb7]; exact Nat.le_trans HB3.out.size hfr.size⟩
    clear hlg hld hfn hsb hge hfr hbox hbW hW5 hb4 hb7 HB4 HD3 HB3
    go_upto_region 7 with fail
    rw [← HW5.out, ← HB7.out.1]
    clear HW5
    obtain ⟨q0, q1, q2, qf⟩ := found_cells HX5.out
    go_upto_region 10 with fail
    clear q0 q1 q2 qf
    go_loopw [40] (fun i wr => ∃ (j : Nat), j ≤ m ∧ i = .int .i64 j ∧ Hid (Below w.heap.size w wr ∧ FBox b7 (.bool false) (.slice sA 0 sc) (.slice A4 0 c4) wr ∧ ∃ s, Lg w2.heap.size wr g Bd kLogs s (fun _ => none) [] ⟨false, [], xs.take j⟩ 0 j 400)) (fun i _ => m - (intOf i).toNat)
    case atStart => exact ⟨0, Nat.zero_le _, rfl, HB5.out, HX5.out, s4, HL5.out⟩
    case round =>
    obtain ⟨j, hj, rfl, HS⟩ := hrel
    by_cases hlt : j < m
    · obtain ⟨x, hx⟩ : ∃ x, Hid (xs[j]? = some x) := ⟨_, List.getElem?_eq_getElem (by have := HM.out; omega)⟩
      obtain ⟨mx, hmx⟩ : ∃ mx, Hid (x.length = mx) := ⟨_, Lib.hid rfl⟩
      obtain ⟨gr, off, Ax, cx, rfl, q0, r0⟩ := HD.out j x hx.out
      have q0' := (HS.out.1.cell (p := ⟨gr, off + j, none⟩) (World.block_lt_of_cell? w _ q0)).trans q0
      rw [hmx.out] at q0'
      have HX := Lib.hid r0
      clear q0 r0
      have hj0 : ((0 : Int) ≤ j) := by omega
      have hj1 : ((j : Nat) : Int) < m := by omega
      have hw1 : IntKind.i64.wrap ((j : Int) + 1) = ((j + 1 : Nat) : Int) := by have := HM10.out; rw [IntKind.wrap_i64]; omega
      by_cases h3 : 300 < mx
      · have h3' : decide ((mx : Int) > 300) = true := decide_eq_true (by omega)
        go_wp2_with fail
        go_ret
        exact ⟨rfl, HS.out.1⟩
      · have h3' : decide ((mx : Int) > 300) = false := decide_eq_false (by omega)
        obtain ⟨s6, HL6⟩ := HS.out.2.2
        have HLL := Lib.hid HL6
        have HBX := Lib.hid (HX.out.below HS.out.1)
        clear HL6
        go_wp2_with fail
        refine (lg_append HLL.out (pathOK_of nm_logs) (oth_none kLogs) Ax mx cx x hmx.out HBX.out (by omega) (by omega) (by have := HM10.out; omega) (by decide)).mono ?_
        rintro e w8 (⟨rfl, s8, hl8, hf8⟩ | ⟨_, _, h, _⟩)
        rotate_left 1
        · have := HM10.out; simp at h; omega
        have hxj : xs.take j ++ [x] = xs.take (j + 1) := by rw [List.take_add_one, hx.out]; rfl
        have HL8 : Hid (Lg w2.heap.size w8 g Bd kLogs s8 (fun _ => none) [] ⟨false, [], xs.take (j + 1)⟩ 0 (j + 1) 400) := by rw [← hxj]; exact hl8
        have HB8 : Hid (Below w.heap.size w w8) := HS.out.1.trans ((HLL.out.below_of hf8).mono HS2.out)
        have HX8 : Hid (FBox b7 (.bool false) (.slice sA 0 sc) (.slice A4 0 c4) w8) := hf8.stays HLL.out HS.out.2.1 (by decide) (by decide) (by decide) (by decide) (by decide)
        clear hl8 hf8 hxj HLL HBX
        go_wp2_with fail
        exact ⟨⟨j + 1, hlt, by go_num, HB8.out, HX8.out, s8, HL8.out⟩, by simp [intOf]; omega⟩
    have hjn : j = m := by omega
    subst hjn
    obtain ⟨s6, HL6⟩ := HS.out.2.2
    have hln : xs.take j = xs := List.take_of_length_le (by have := HM.out; omega)
    rw [hln] at HL6
    have HLL := Lib.hid HL6
    clear HL6 hln
    go_wp2_with fail
    refine (lg_sync HLL.out (oth_none kLogs)).mono ?_
    rintro e w9 ⟨rfl, s9, hl9, hf9⟩
    have HB9 : Hid (Below w.heap.size w w9) := HS.out.1.trans ((HLL.out.below_of hf9).mono HS2.out)
    have HX9 : Hid (FBox b7 (.bool false) (.slice sA 0 sc) (.slice A4 0 c4) w9) := hf9.stays HLL.out HS.out.2.1 (by decide) (by decide) (by decide) (by decide) (by decide)
    obtain ⟨v, t, n9, ns, sa, hd9, hlay, hfs, hnn, h64, hxs, ht9, hE9, hten⟩ := hl9.still
    have HST : Hid (Dk w2.heap.size w9 Bd v t n9 s9 ∧ n9 = ns.length ∧ n9 ≤ 64 ∧ t ≤ 120 ∧ ErrS w9 ∧ 1 < w2.heap.size) := ⟨hd9, by simpa using hnn, h64, by have := HM10.out; omega, hE9, hten⟩
    have HLY : Hid (Lay sumB (pathB kLogs) v (fun _ => none) ns sa [] t ∧ fndL (sa.map (·.2)) = ⟨false, [], xs⟩ ∧ (∀ x ∈ ns, x ≤ 20) ∧ ns.length < 64) := ⟨hlay, hfs, fun x hx => by have := hxs x hx; have := HM10.out; omega, by
      have h1 := inc_len ns 0 j hlay.inc fun x hx => ⟨Nat.zero_le _, hxs x hx⟩
      have := HM10.out
      omega⟩
    clear hl9 hf9 hd9 hlay hfs hnn h64 hxs ht9 hE9 hten HLL hlt HS HL5 HX5 HB5
    go_wp2_with fail
    refine (dk_names HST.out.1).mono ?_
    rintro e wa ⟨Ak, ck, ks, rfl, hkl, hknd, hkm, hkr, _, hba⟩
    have HBA := Lib.hid hba
    have HKR : Hid (wa.ownsRow w9.heap.size 9 1 (.slice Ak n9 ck) n9 (ks.map Value.string)) := hkr
    have HKM : Hid (∀ k ∈ ks, ∃ x ∈ ns, k = pathB kLogs x) := fun k hk => by
      have h1 := (hkm k).1 hk
      by_cases hc : ∃ x ∈ ns, k = pathB kLogs x
      · exact hc
      · rw [HLY.out.1.other k fun x hx e => hc ⟨x, hx, e⟩] at h1
        cases h1
    have HKL : Hid (ks.length = n9) := hkl
    clear hkl hknd hkm hkr hba
    go_upto_region 18 with fail
    go_loopw [63] (fun i wr => ∃ (y : Nat), y ≤ n9 ∧ i = .int .i64 y ∧ Hid (Below wa.heap.size wa wr)) (fun i _ => n9 - (intOf i).toNat)
    case atStart => exact ⟨0, Nat.zero_le _, rfl, Below.refl _ _⟩
    case round =>
    obtain ⟨y, hy, rfl, HY⟩ := hrel
    by_cases hyl : y < n9
    · obtain ⟨kk, hkk⟩ : ∃ kk, Hid (ks[y]? = some kk) := ⟨_, List.getElem?_eq_getElem (by have := HKL.out; omega)⟩
      obtain ⟨gk, rfl, _, dk, _, hgl⟩ := own_cell HKR.out (i := y) (v := .string kk) (by rw [List.getElem?_map, hkk.out]; rfl)
      replace dk := (HY.out.cell (p := ⟨gk, y, none⟩) hgl).trans dk
      obtain ⟨x, hx, rfl⟩ := HKM.out kk (List.mem_of_getElem? hkk.out)
      have hcut := fun W => logs_cut x W
      obtain ⟨K, hK⟩ : ∃ K, K = pathB kLogs x := ⟨_, rfl⟩
      have hsz : K.size = 14 := by rw [hK, path_size]; rfl
      rw [← hK] at dk hcut
      have h5 : decide ((K.size : Int) < 5) = false := decide_eq_false (by rw [hsz]; decide)
      have hy0 : ((0 : Int) ≤ y) := by omega
      have hy1 : ((y : Nat) : Int) < n9 := by omega
      have hw2 : IntKind.i64.wrap ((y : Int) + 1) = ((y + 1 : Nat) : Int) := by have := HST.out.2.2.1; rw [IntKind.wrap_i64]; omega
      clear hx hK hgl hsz
      go_wp2_with fail
      exact ⟨⟨y + 1, hyl, by go_num, HY.out⟩, by simp [intOf]; omega⟩
    have hyn : y = n9 := by omega
    subst hyn
    have HBY : Hid (Below w9.heap.size w9 wr) := HBA.out.trans (HY.out.mono HBA.out.size)
    have HBW : Hid (Below w.heap.size w wr) := HB9.out.trans (HBY.out.mono HB9.out.size)
    have HXY : Hid (FBox b7 (.bool false) (.slice sA 0 sc) (.slice A4 0 c4) wr) := (HBY.out.block b7 (Array.getElem?_eq_some_iff.1 HX9.out).1).trans HX9.out
    have HLD : Hid (LgD w2.heap.size wr Bd kLog s9 v (ns.map (pathB kLogs)) fnd0 20) := lgD_beside (HST.out.1.below HBY.out) HST.out.2.1 HST.out.2.2.1 (HST.out.2.2.2.2.1.below HBY.out) HST.out.2.2.2.2.2 20 (by have := HST.out.2.2.2.1; omega)
    clear hyl HY
    go_wp2_with fail
    refine (play_any HLD.out (oth_logs HLY.out.1) (HT.out.1.below HBW.out) (by have := HT.out.2; have := HS2.out; omega) A n c l HN.out HA.out HBW.out HS2.out HFW.out.1 (by rw [← HN.out]; exact HFW.out.2) (by decide) (by rw [List.length_map]; exact HLY.out.2.2.2)).mono ?_
    rintro e wb ⟨g2, whole, sA2, m2, sc2, rA2, n2, rc2, safe2, rfl, H4⟩
    obtain ⟨s2, f2, j2, hj2, hj3, hl2, hfr2⟩ := H4.out
    have hxb := hfr2.stays HLD.out HXY.out (by decide) (by decide) (by decide) (by decide)
    have hbb : Below w.heap.size w wb := HBW.out.trans ((HLD.out.below_of hfr2).mono HS2.out)
    obtain ⟨wd, hwd⟩ : ∃ wd, wd = wb.alloc (.cells #[.pointer (some ⟨Bd, 0, none⟩), .pointer (some ⟨g2, 0, none⟩), .bool whole, .slice sA2 m2 sc2, .slice rA2 n2 rc2, .int .i64 safe2] 51) := ⟨_, rfl⟩
    have hbd : Below wb.heap.size wb wd := by rw [hwd]; exact (Below.refl _ _).alloc (Nat.le_refl _) _
    obtain ⟨vo2, ko2, hfo2, hld2⟩ := lgD_back HLY.out.1 HLY.out.2.1 (j := j2) (by have := HM.out; have := HM10.out; show xs.length ≤ j2; omega) (fun x hx => by have := HLY.out.2.2.1 x hx; omega) hl2
    have HLD2 : Hid (LgD w2.heap.size wd Bd kLogs s2 vo2 ko2 ⟨false, [], xs⟩ j2 ∧ ∀ k, (vo2 k).isSome = true → Foreign kLogs k) := ⟨hld2.below hbd, hfo2⟩
    have HXD : Hid (FBox b7 (.bool false) (.slice sA 0 sc) (.slice A4 0 c4) wd) := (hbd.block b7 (Array.getElem?_eq_some_iff.1 hxb).1).trans hxb
    have HBD : Hid (Below w.heap.size w wd) := hbb.trans (hbd.mono hbb.size)
    have HWD := Lib.hid hwd
    clear H4 hl2 hfr2 hxb hbb hbd hld2 hfo2 hj2 hj3 hwd HLD
    go_upto_region 24 with fail
    rw [← HWD.out]
    clear HWD
    go_wp2_with fail
    refine (lg_open2F HLD2.out.1 HLD2.out.2 (pathOK_of nm_logs) 99 (right_of nm_logs 99 (by decide) (by decide)) 400).mono ?_
    rintro e we ⟨sA5, sc5, A5, k5, c5, vs5, s5, b5, g5, he, hfn, hfr⟩
    have hk5 : k5 = j := hfn.len.symm.trans HM.out
    subst hk5
    have he2 : e = .returned (.tuple #[.pointer (some ⟨g5, 0, none⟩), .agg #[.bool false, .slice sA5 0 sc5, .slice A5 k5 c5], .nilIface]) := he
    subst he2
    clear he
    have hxe := hfr.stays HLD2.out.1 HXD.out (by decide) (by decide) (by decide) (by decide)
    have hbe : Below w.heap.size w we := HBD.out.trans ((HLD2.out.1.below_of hfr).mono HS2.out)
    obtain ⟨t1, t2⟩ := three_set (x' := .bool false) (y' := .slice sA5 0 sc5) (z' := .slice A5 k5 c5) hxe
    obtain ⟨wf, hwf⟩ : ∃ wf, wf = ((we.setCell ⟨b7, 0, none⟩ (.bool false)).setCell ⟨b7, 1, none⟩ (.slice sA5 0 sc5)).setCell ⟨b7, 2, none⟩ (.slice A5 k5 c5) := ⟨_, rfl⟩
    rw [← hwf] at t1 t2
    have hfnF := hfn.other hxe (fun e => by have := hfn.blo; have := (Array.getElem?_eq_some_iff.1 HXD.out).1; omega) t2
    have HSL : Hid (SlicesAt wf A5 xs) := hfnF.heldR.slices
    have HBF : Hid (Below w.heap.size w wf) := hbe.trans (t2.below fun x e => by cases e; exact Nat.le_trans HS2.out HB7.out.2)
    have HWF := Lib.hid hwf
    have HT1 := Lib.hid t1
    obtain ⟨q0, q1, q2, qf⟩ := found_cells hxe
    clear hfn hfr hxe hbe t1 t2 hwf hfnF HXD HLD2 HBD
    go_upto_region 27 with fail
    rw [← HWF.out]
    clear q0 q1 q2 qf HWF
    obtain ⟨q0, q1, q2, qf⟩ := found_cells HT1.out
    go_wp2_with fail
    refine (lists_same A5 D k5 c5 d xs wf HM.out (by have := HM10.out; omega) HSL.out (HD.out.below HBF.out)).mono ?_
    rintro e wg ⟨rfl, hbg⟩
    have HBG : Hid (Below w.heap.size w wg) := HBF.out.trans (hbg.mono HBF.out.size)
    clear hbg
    go_wp2_with fail
    go_ret
    exact ⟨rfl, HBG.out⟩
end Go.Proofs.YthokoimoiamddaaGreatDoor
