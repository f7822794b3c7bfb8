/-
  wal: find, walked. Own work.
-/
import Derived.Test.YthokoimoiamddaaGreatDoorB10
import Derived.Laws.Rows
set_option linter.unusedSimpArgs false
set_option linter.unusedVariables false
namespace Go.Proofs.YthokoimoiamddaaGreatDoor
open Go Go.RowKit

theorem is_nil (w : World) : Calls Tryz.prog 42 #[.nilIface, .iface 42 (.int .i64 10)] w fun e w' => e = .returned (.bool false) ∧ w = w' := by
  have heq : Sem.run Tryz.prog (binOp .eql 31 .nilIface (.iface 42 (.int .i64 10))) w = .ok (.bool false) w := by kernel_rfl
  go_enter Tryz.func42, Tryz.ntmps42
  go_wp2_with fail
  go_ret
  exact ⟨rfl, rfl⟩
/-- One file as it lies on the disk. -/
def FileOK (v : Vw) (nm : ByteArray) (x : FileD) : Prop := (∃ lo, v (pathB nm x.1) = some (framesP sumB x.2.1 ++ x.2.2, lo)) ∧ tornP x.2.2 ∧ ∀ p ∈ x.2.1, p ≠ [] ∧ p.length ≤ 1048576
theorem dk_few {base B n : Nat} {w : World} {v : Vw} {t : Int} {s : St} (h : Dk base w B v t n s) {k : ByteArray} {p : List UInt8 × List (Int × Int)} (hp : v k = some p) : p.1.length ≤ 1048576 := by
  rw [← h.view] at hp
  obtain ⟨r, hr, h1, h2⟩ := view_is hp
  rw [← h1]
  exact (h.at_.recs k r hr).few
theorem fold_brk {sm : List UInt8 → Nat} {pt : Nat → ByteArray} (l : List FileD) (s : FSt) (h : (l.foldl (stepF sm pt) s).brk = false) : s.brk = false ∧ (l.foldl (stepF sm pt) s).v = s.v := by
  induction l generalizing s with
  | nil => exact ⟨h, rfl⟩
  | cons x l ih =>
    obtain ⟨h1, h2⟩ := ih _ h
    rw [List.foldl_cons, h2]
    unfold stepF at h1 ⊢
    by_cases hb : s.brk = true
    · rw [if_pos hb] at h1; exact absurd h1 (by simp [hb])
    · rw [if_neg hb] at h1 ⊢
      simp only [decide_eq_false_iff_not, Decidable.not_not] at h1
      simp only [h1, if_true]
      exact ⟨by simpa using hb, trivial⟩

theorem fnd_len (l : List (List UInt8)) (f : Fnd) : (l.foldl fnd1 f).recs.length ≤ f.recs.length + l.length := by
  induction l generalizing f with
  | nil => simp
  | cons p l ih =>
    have h1 := ih (fnd1 f p)
    have h2 : (fnd1 f p).recs.length ≤ f.recs.length + 1 := by
      cases p with
      | nil => simp [fnd1]
      | cons c q => simp only [fnd1]; split <;> simp
    rw [List.foldl_cons, List.length_cons]
    omega
theorem fold_len {sm : List UInt8 → Nat} {pt : Nat → ByteArray} (M : Nat) (l : List FileD) (s : FSt) (h : ∀ y ∈ l, y.2.1.length ≤ M) : (l.foldl (stepF sm pt) s).f.recs.length ≤ s.f.recs.length + M * l.length := by
  induction l generalizing s with
  | nil => simp
  | cons y l ih =>
    have h1 := ih (stepF sm pt s y) fun z hz => h z (by simp [hz])
    have h2 : (stepF sm pt s y).f.recs.length ≤ s.f.recs.length + M := by
      unfold stepF
      split
      · simp
      · have := fnd_len y.2.1 s.f; have := h y (by simp); simp only; omega
    rw [List.foldl_cons, List.length_cons, Nat.mul_succ]
    omega

set_option maxRecDepth 20000 in
set_option maxHeartbeats 8000000 in
theorem find_any (base g B seg n : Nat) (nm : ByteArray) (v : Vw) (t : Int) (s : St) (fl : List FileD) (ns : List Nat) (w : World) (h : Wk base w g B nm seg 0 0 0 0 v t n s) (hn64 : n ≤ 64) (hnm : NmAt (fun k => (v k).isSome) nm ns) (hp : PathOK nm) (hfl : fl.map (·.1) = ns) (hfd : ∀ x ∈ fl, FileOK v nm x) :
    Calls Tryz.prog 25 #[.pointer (some ⟨g, 0, none⟩)] w fun e w' => ∃ (SV : Value) (A : Option Addr) (k c : Nat) (vs : List Value) (s' : St) (b : Nat), e = .returned (.agg #[.bool (fl.foldl (stepF sumB (pathB nm)) (startF v n)).f.whole, SV, .slice A k c]) ∧
      Wk base w' g B nm seg (fl.foldl (stepF sumB (pathB nm)) (startF v n)).file (fl.foldl (stepF sumB (pathB nm)) (startF v n)).size (fl.foldl (stepF sumB (pathB nm)) (startF v n)).f.recs.length (fl.foldl (stepF sumB (pathB nm)) (startF v n)).f.recs.length (fl.foldl (stepF sumB (pathB nm)) (startF v n)).v t (fl.foldl (stepF sumB (pathB nm)) (startF v n)).cnt s' ∧
      FndAt w' s' w.heap.size b (fl.foldl (stepF sumB (pathB nm)) (startF v n)).f SV A k c vs ∧ WFr g s s' w w' := by
  obtain ⟨G, hG⟩ : ∃ G : Nat → FSt, Hid (∀ j, G j = (fl.take j).foldl (stepF sumB (pathB nm)) (startF v n)) := ⟨_, fun _ => rfl⟩
  obtain ⟨N, hN⟩ : ∃ N, Hid (ns.length = N) := ⟨_, rfl⟩
  have hflN : Hid (fl.length = N) := by have := congrArg List.length hfl; rw [List.length_map, hN.out] at this; exact this
  have hall : fl.foldl (stepF sumB (pathB nm)) (startF v n) = G N := by rw [hG.out N, List.take_of_length_le (by have := hflN.out; omega)]
  rw [hall]
  have HK := Lib.hid h
  have HP := Lib.hid hp
  have HNM := Lib.hid hnm
  have HFD := Lib.hid hfd
  have HFL := Lib.hid hfl
  have HN64 := Lib.hid hn64
  have HNU : Hid (∀ W, Below w.heap.size w W → Calls Tryz.prog 26 #[.pointer (some ⟨g, 0, none⟩)] W fun e w' => ∃ (A : Option Addr) (c : Nat), e = .returned (.slice A N c) ∧ w'.ownsRow W.heap.size 3 1 (.slice A N c) N (natVs ns) ∧ Below W.heap.size W w') := fun W hW => by
    rw [← hN.out]
    have h1 := h.below hW
    exact numbers_any base g B seg 0 0 0 0 nm v t n s ns W h1.dk h1.lg hnm hp.1 h1.err hn64
  clear h hp hnm hfd hfl hall hn64
  obtain ⟨W0, hW0⟩ : ∃ W0, Hid (W0 = (w.alloc (.cells #[.bool false, .slice none 0 0, .slice none 0 0] 29)).alloc (.cells #[.bool false, .slice none 0 0, .slice none 0 0] 29)) := ⟨_, rfl⟩
  have HB0 : Hid (Below w.heap.size w W0 ∧ W0.heap.size = w.heap.size + 2) := by
    rw [hW0.out]
    exact ⟨((Below.refl _ w).alloc (Nat.le_refl _) _).alloc (by simp) _, by simp⟩
  have HF0 : Hid (W0.heap[w.heap.size]? = some (.cells #[.bool false, .slice none 0 0, .slice none 0 0] 29 (0, 0)) ∧ W0.heap[w.heap.size + 1]? = some (.cells #[.bool false, .slice none 0 0, .slice none 0 0] 29 (0, 0))) := by
    rw [hW0.out]
    refine ⟨?_, ?_⟩
    · rw [Below.heap_alloc _ _ _ (by simp)]; exact heap_alloc_new w _
    · have := heap_alloc_new (w.alloc (.cells #[.bool false, .slice none 0 0, .slice none 0 0] 29)) (.cells #[.bool false, .slice none 0 0, .slice none 0 0] 29)
      simpa using this
  go_enter Tryz.func25, Tryz.ntmps25
  go_wp2_with (go_at_call 26; rw [← hW0.out]; refine (HNU.out W0 HB0.out.1).mono ?_; rintro e w1 ⟨An, cn, rfl, r1, b1⟩; refine Hid.out ?_)
  have HB1 : Hid (Below w.heap.size w w1 ∧ w.heap.size + 2 ≤ w1.heap.size) := ⟨HB0.out.1.trans (b1.mono HB0.out.1.size), by have := b1.size; have := HB0.out.2; omega⟩
  have HF1 : Hid (w1.heap[w.heap.size]? = some (.cells #[.bool false, .slice none 0 0, .slice none 0 0] 29 (0, 0)) ∧ w1.heap[w.heap.size + 1]? = some (.cells #[.bool false, .slice none 0 0, .slice none 0 0] 29 (0, 0))) := by
    have h2 := HB0.out.2
    exact ⟨(b1.block _ (by omega)).trans HF0.out.1, (b1.block _ (by omega)).trans HF0.out.2⟩
  have HR1 : Hid (w1.ownsRow w.heap.size 3 1 (.slice An N cn) N (natVs ns)) := ownsRow_down r1 (by have := HB0.out.2; omega)
  have HK1 : Hid (Wk base w1 g B nm seg 0 0 0 0 v t n s) := HK.out.below HB1.out.1
  have HM1 : Hid (FndM w1 s w.heap.size (w.heap.size + 1) fnd0) := ⟨.slice none 0 0, none, 0, 0, [], HF1.out.2, rfl, World.ownsRow_nil _ _ _ _, fun k hk => (by cases hk), .inl ⟨rfl, rfl⟩, fun i v p h1 _ => (by simp at h1), fun ho => by have := HK.out.dk.at_.lt ho; omega, by omega⟩
  clear r1 b1 HNU HF0 HB0 hW0
  refine Lib.hid ?_
  go_wp2_with fail
  go_loopw [4, 16] (fun bk i wr => ∃ (j : Nat), j ≤ N ∧ i = .int .i64 j ∧ bk = .bool (G j).brk ∧ Hid (∃ sr, FK base g B nm seg (G j).file (G j).size 0 0 (G j).v t (G j).cnt s w An N cn ns (G j).f wr sr)) (fun _ i _ => N - (intOf i).toNat)
  case atStart =>
    have e0 : G 0 = startF v n := by rw [hG.out 0]; rfl
    refine ⟨0, Nat.zero_le _, rfl, by rw [e0]; rfl, s, ?_⟩
    rw [e0]
    refine ⟨HK1.out, WFr.of_below HB1.out.1, HR1.out, fun k hk => ?_, HF1.out.1, HM1.out, HK.out.lg.lt⟩
    have h2 := (own_block HR1.out hk).choose_spec.2.1
    refine ⟨fun ho => ?_, fun e => ?_⟩
    · have := HK.out.dk.at_.lt ho; omega
    · have := HK.out.lg.lt; omega
  case round =>
    obtain ⟨j, hj, rfl, rfl, HS⟩ := hrel
    obtain ⟨sr, hs0⟩ := HS.out
    have HF := Lib.hid hs0
    clear hs0 HS
    rcases Nat.lt_or_ge j N with hlt | hge
    · obtain ⟨y, hy⟩ : ∃ y, fl[j]? = some y := ⟨_, List.getElem?_eq_getElem (by have := hflN.out; omega)⟩
      obtain ⟨x, ps, tr⟩ := y
      have hym : (x, ps, tr) ∈ fl := List.mem_of_getElem? hy
      obtain ⟨⟨lo, hfv⟩, hft, hfp⟩ := HFD.out _ hym
      simp only at hfv hft hfp
      have hnx : ns[j]? = some x := by rw [← HFL.out, List.getElem?_map, hy]; rfl
      have hxm : x ∈ ns := List.mem_of_getElem? hnx
      have hx100 : x < 100 := HNM.out.bnd x hxm
      have hw1 : IntKind.i64.wrap ((j : Int) + 1) = ((j + 1 : Nat) : Int) := by
        have h9 := HNM.out.inc
        have h8 : ns.length ≤ 100 := by
          have := (List.nodup_iff_pairwise_ne.2 (h9.imp fun hab => by omega) : ns.Nodup)
          have := this.length_le_of_subset (l₂ := List.range 100) fun y hy => List.mem_range.2 (HNM.out.bnd y hy)
          simpa using this
        have := hN.out
        rw [IntKind.wrap_i64]; omega
      have hGs : Hid (G (j + 1) = stepF sumB (pathB nm) (G j) (x, ps, tr)) := by
        obtain ⟨h7, h8⟩ := List.getElem?_eq_some_iff.1 hy
        rw [Hid, hG.out, hG.out, ← h8, ← List.take_append_getElem h7, List.foldl_append]; rfl
      have hvx : Hid ((G j).v (pathB nm x) = some (framesP sumB ps ++ tr, lo)) := by
        rw [Hid, hG.out j, foldF_other _ _ _ fun y hy2 e => ?_]
        · exact hfv
        · obtain ⟨i, hi, rfl⟩ := List.mem_iff_getElem.1 hy2
          rw [List.length_take] at hi
          have e2 : (fl.take j)[i]'(by rw [List.length_take]; exact hi) = fl[i] := List.getElem_take
          rw [e2] at e
          have h5 : ns[i]? = some (fl[i]).1 := by rw [← HFL.out, List.getElem?_map, List.getElem?_eq_getElem (by omega)]; rfl
          have h6 := path_inj nm _ _ hx100 (HNM.out.bnd _ (List.mem_of_getElem? h5)) e
          obtain ⟨a1, a2⟩ := List.getElem?_eq_some_iff.1 h5
          obtain ⟨b1, b2⟩ := List.getElem?_eq_some_iff.1 hnx
          have h7 := List.pairwise_iff_getElem.1 HNM.out.inc i j a1 b1 (by omega)
          omega
      obtain ⟨P, hP⟩ : ∃ P : ByteArray, Hid (pathB nm x = P) := ⟨_, rfl⟩
      obtain ⟨ga, rfl, _, hcell, _, _⟩ := own_cell HF.out.row (i := j) (v := .int .i64 (x : Int)) (by rw [natVs, List.getElem?_map, hnx]; rfl)
      obtain ⟨k0, k1, k2, k3, k4, k5, k6, kf⟩ := HF.out.wk.lg.cells
      have HX : Hid (x < 100 ∧ tornP tr ∧ ∀ p ∈ ps, p ≠ [] ∧ p.length ≤ 1048576) := ⟨hx100, hft, hfp⟩
      clear hy hym hfv hft hfp hnx hxm hx100
      have HPA : Hid (∀ (W1 W : World) (v1 : Vw) (c1 f1 z1 : Nat) (ff : Fnd) (s1 : St), FK base g B nm seg f1 z1 0 0 v1 t c1 s w (some ⟨ga, 0, none⟩) N cn ns ff W1 s1 → Below W1.heap.size W1 W → Calls Tryz.prog 30 #[.pointer (some ⟨g, 0, none⟩), .int .i64 x] W fun e w' => e = .returned (.string P) ∧ w'.cell? ⟨g, 0, none⟩ = some (.pointer (some ⟨B, 0, none⟩)) ∧ Below W1.heap.size W1 w') := fun W1 W v1 c1 f1 z1 ff s1 hF1 hW => by
        have h1 := hF1.wk.below hW
        refine (path_any g nm x HX.out.1 W h1.lg.cells.2.1 (Nat.le_trans HP.out.1 (by decide))).mono ?_
        rintro e w' ⟨rfl, hb⟩
        have h2 := h1.below hb
        exact ⟨by rw [hP.out], h2.lg.cells.1, hW.trans (hb.mono hW.size)⟩
      cases hbk : (G j).brk with
      | true =>
        have hst : Hid (G (j + 1) = { G j with v := dropV (G j).v P, cnt := (G j).cnt - 1 }) := by rw [Hid, hGs.out, ← hP.out]; unfold stepF; rw [if_pos hbk]
        have HDE : Hid (∀ W, Below wr.heap.size wr W → Calls Tryz.prog 29 #[.pointer (some ⟨B, 0, none⟩), .string P] W fun e w' => e = .returned .nilIface ∧ w'.cell? ⟨g, 0, none⟩ = some (.pointer (some ⟨B, 0, none⟩)) ∧ Hid (∃ s', FK base g B nm seg (G j).file (G j).size 0 0 (dropV (G j).v P) t ((G j).cnt - 1) s w (some ⟨ga, 0, none⟩) N cn ns (G j).f w' s')) := fun W hW => by
          have h1 := HF.out.below hW
          refine (dk_delete h1.wk.dk (by rw [← hP.out]; exact hvx.out)).mono ?_
          rintro e w' ⟨rfl, s', d1, d2, d3⟩
          have h2 := h1.disk d1 d2
          exact ⟨rfl, h2.wk.lg.cells.1, s', h2⟩
        have HP1 : Hid (∀ W, Below wr.heap.size wr W → Calls Tryz.prog 30 #[.pointer (some ⟨g, 0, none⟩), .int .i64 x] W fun e w' => e = .returned (.string P) ∧ w'.cell? ⟨g, 0, none⟩ = some (.pointer (some ⟨B, 0, none⟩)) ∧ Below wr.heap.size wr w') := fun W hW => HPA.out wr W _ _ _ _ _ sr HF.out hW
        go_wp2_with fail
        go_region_held_law (fun W => W.cell? ⟨g, 0, none⟩ = some (.pointer (some ⟨B, 0, none⟩))) (first | assumption | exact k0)
          (first
            | (go_at_call 30; refine (HP1.out _ (by first | exact Below.refl _ _ | exact (Below.refl _ _).drew | exact bdrewN (Below.refl _ _) _)).mono ?_; rintro e w4 ⟨rfl, hS4, hb4⟩)
            | (go_at_call 29; refine (HDE.out _ hb4).mono ?_; rintro e w5 ⟨rfl, hS5, h5⟩)
            | fail)
        have H5 := h5
        have HBK := Lib.hid hbk
        clear h5 hS5 hS4 hb4 k0 k1 k2 k3 k4 k5 k6 kf HPA HP1 HDE hbk hcell
        go_wp2_with fail
        exact ⟨⟨j + 1, hlt, by go_num, by rw [hst.out]; simp [HBK.out], by rw [hst.out]; exact H5.out⟩, by simp [intOf]; omega⟩
      | false =>
        obtain ⟨D, hD⟩ : ∃ D, Hid (framesP sumB ps ++ tr = D) := ⟨_, rfl⟩
        obtain ⟨L, hL⟩ : ∃ L, Hid (D.length = L) := ⟨_, rfl⟩
        have hvP : (G j).v P = some (D, lo) := by rw [← hP.out, ← hD.out]; exact hvx.out
        have hLm : L ≤ 1048576 := by rw [← hL.out]; exact dk_few HF.out.wk.dk hvP
        have HVP := Lib.hid hvP
        have HLM := Lib.hid hLm
        have HOL : Hid (∀ k, sr.own k → k < wr.heap.size) := fun k hk => HF.out.wk.dk.at_.lt hk
        have HRE : Hid (∀ W, Below wr.heap.size wr W → Calls Tryz.prog 41 #[.pointer (some ⟨B, 0, none⟩), .string P] W fun e w' => ∃ (A : Option Addr) (c : Nat), e = .returned (.tuple #[.slice A L c, .nilIface]) ∧ w'.cell? ⟨g, 0, none⟩ = some (.pointer (some ⟨B, 0, none⟩)) ∧ Hid (w'.ownsRow wr.heap.size 5 1 (.slice A L c) L (byteVs D) ∧ Below wr.heap.size wr w')) := fun W hW => by
          have h1 := HF.out.below hW
          have h2 := dk_read h1.wk.dk HVP.out
          simp only [hL.out] at h2
          refine h2.mono ?_
          rintro e w' ⟨A, c, rfl, r1, b1⟩
          have h3 := h1.below b1
          exact ⟨A, c, rfl, h3.wk.lg.cells.1, ownsRow_down r1 hW.size, hW.trans (b1.mono hW.size)⟩
        have HP1 : Hid (∀ W, Below wr.heap.size wr W → Calls Tryz.prog 30 #[.pointer (some ⟨g, 0, none⟩), .int .i64 x] W fun e w' => e = .returned (.string P) ∧ w'.cell? ⟨g, 0, none⟩ = some (.pointer (some ⟨B, 0, none⟩)) ∧ Below wr.heap.size wr w') := fun W hW => HPA.out wr W _ _ _ _ _ sr HF.out hW
        clear hvP hLm
        go_wp2_with fail
        go_region_held_law (fun W => W.cell? ⟨g, 0, none⟩ = some (.pointer (some ⟨B, 0, none⟩))) (first | assumption | exact k0)
          (first
            | (go_at_call 30; refine (HP1.out _ (by first | exact Below.refl _ _ | exact (Below.refl _ _).drew | exact bdrewN (Below.refl _ _) _)).mono ?_; rintro e w4 ⟨rfl, hS4, hb4⟩)
            | (go_at_call 41; refine (HRE.out _ hb4).mono ?_; rintro e w5 ⟨A5, c5, rfl, hS5, h5⟩)
            | fail)
        have HF5 : Hid (FK base g B nm seg (G j).file (G j).size 0 0 (G j).v t (G j).cnt s w (some ⟨ga, 0, none⟩) N cn ns (G j).f w5 sr) := HF.out.below h5.out.2
        have HR5 : Hid (w5.ownsRow wr.heap.size 5 1 (.slice A5 L c5) L (byteVs D)) := h5.out.1
        have HZ5 : Hid (wr.heap.size ≤ w5.heap.size) := h5.out.2.size
        have HBK := Lib.hid hbk
        clear h5 hS5 hS4 hb4 k0 k1 k2 k3 k4 k5 k6 kf HP1 HRE hbk hcell
        obtain ⟨PK, hPK⟩ : ∃ PK, Hid (ps.length = PK) := ⟨_, rfl⟩
        have HSC : Hid (Calls Tryz.prog 43 #[.slice A5 L c5] w5 fun e w' => ∃ (A6 : Option Addr) (c6 : Nat) (vs : List Value), e = .returned (.tuple #[.slice A6 PK c6, .int .i64 (framesP sumB ps).length]) ∧ FrRow w' w5.heap.size (.slice A6 PK c6) ps vs ∧ Below w5.heap.size w5 w') := by
          have h1 := own_row_cap HR5.out
          have h2 := scan_any A5 L c5 ps tr (by rw [hD.out, hL.out]) w5 (by rw [hD.out]; exact BytesAt.of_own HR5.out) h1.2 (by have := HLM.out; omega) h1.1 HX.out.2.2 HX.out.2.1
          refine h2.mono ?_
          rintro e w' ⟨V, vs, rfl, f1, b1⟩
          obtain ⟨A6, c6, rfl⟩ := own_slice f1.row
          rw [hPK.out] at f1 ⊢
          exact ⟨A6, c6, vs, rfl, f1, b1⟩
        go_wp2_with (first | (go_at_call 42; refine (is_nil _).mono ?_; rintro e w9 ⟨rfl, rfl⟩) | (go_at_call 43; refine HSC.out.mono ?_; rintro e w6 ⟨A6, c6, vs, rfl, f6, b6⟩; refine Hid.out ?_))
        have HF6 : Hid (FK base g B nm seg (G j).file (G j).size 0 0 (G j).v t (G j).cnt s w (some ⟨ga, 0, none⟩) N cn ns (G j).f w6 sr) := HF5.out.below b6
        have HR6 : Hid (FrRow w6 w5.heap.size (.slice A6 PK c6) ps vs) := f6
        have HZ6 : Hid (w5.heap.size ≤ w6.heap.size) := b6.size
        have HFA6 : Hid (∃ SV A n2 c2 vr, FndAt w6 sr w.heap.size (w.heap.size + 1) (G j).f SV A n2 c2 vr ∧ ∀ kk, (Value.slice A n2 c2).ownBlock = some kk → (Value.slice A6 PK c6).ownBlock ≠ some kk) := by
          obtain ⟨SV, A, n2, c2, vr, hfa⟩ := HF5.out.fm
          refine ⟨SV, A, n2, c2, vr, hfa.stay (Stay.of_below b6), fun kk h1 h2 => ?_⟩
          have h3 := (own_block hfa.row h1).choose_spec.2.2
          have h4 := f6.row
          rw [hPK.out] at h4
          have h5 := (own_block h4 h2).choose_spec.2.1
          omega
        clear f6 b6 HSC HR5
        refine Lib.hid ?_
        go_wp2_with fail
        have HRB : Hid (∀ k, k ≤ PK → ((ps.take k).foldl fnd1 (G j).f).recs.length ≤ 20000000) := fun k hk => by
          have h1 := fnd_len (ps.take k) (G j).f
          have h2 : (G j).f.recs.length ≤ 0 + 131072 * (fl.take j).length := by
            rw [hG.out j]
            exact fold_len (sm := sumB) (pt := pathB nm) 131072 (fl.take j) (startF v n) fun y hy => by
              obtain ⟨⟨lo2, h3⟩, _⟩ := HFD.out y (List.mem_of_mem_take hy)
              have h4 := dk_few HK.out.dk h3
              simp only [List.length_append, sumLen_frames] at h4
              have h5 := sumLen_ge y.2.1
              omega
          have h6 : N ≤ 100 := by
            have h9 := HNM.out.inc
            have := (List.nodup_iff_pairwise_ne.2 (h9.imp fun hab => by omega) : ns.Nodup)
            have := this.length_le_of_subset (l₂ := List.range 100) fun y hy => List.mem_range.2 (HNM.out.bnd y hy)
            rw [hN.out] at this
            simpa using this
          have h7 : 8 * PK ≤ L := by
            have h8 := sumLen_ge ps
            rw [← sumLen_frames (sm := sumB), hPK.out] at h8
            have h9 := congrArg List.length hD.out
            rw [List.length_append, hL.out] at h9
            omega
          have h8 := HLM.out
          rw [List.length_take] at h1 h2
          omega
        obtain ⟨wo, rfl⟩ : ∃ x, x = wr := ⟨_, rfl⟩
        go_loopw [50] (fun i wr2 => ∃ (k : Nat), k ≤ PK ∧ i = .int .i64 k ∧ Hid (∃ SV A n2 c2 vr, FK base g B nm seg (G j).file (G j).size 0 0 (G j).v t (G j).cnt s w (some ⟨ga, 0, none⟩) N cn ns ((ps.take k).foldl fnd1 (G j).f) wr2 sr ∧ FndAt wr2 sr w.heap.size (w.heap.size + 1) ((ps.take k).foldl fnd1 (G j).f) SV A n2 c2 vr ∧ (∀ kk, (Value.slice A n2 c2).ownBlock = some kk → (Value.slice A6 PK c6).ownBlock ≠ some kk) ∧ FrRow wr2 w5.heap.size (.slice A6 PK c6) ps vs ∧ w6.heap.size ≤ wr2.heap.size)) (fun i _ => PK - (intOf i).toNat)
        case atStart =>
          obtain ⟨SV, A, n2, c2, vr, h1, h2⟩ := HFA6.out
          exact ⟨0, Nat.zero_le _, rfl, SV, A, n2, c2, vr, HF6.out, h1, h2, HR6.out, Nat.le_refl _⟩
        case round =>
          obtain ⟨k, hk, rfl, HSI⟩ := hrel
          obtain ⟨SV, A7, n2, c2, vr, i1, i2, i3, i4, i5⟩ := HSI.out
          have HI1 := Lib.hid i1
          have HI2 := Lib.hid i2
          have HI3 := Lib.hid i3
          have HI4 := Lib.hid i4
          have HI5 := Lib.hid i5
          clear HSI i1 i2 i3 i4 i5
          obtain ⟨fk, hfk⟩ : ∃ fk, Hid ((ps.take k).foldl fnd1 (G j).f = fk) := ⟨_, rfl⟩
          rw [hfk.out] at HI1 HI2
          rcases Nat.lt_or_ge k PK with hltk | hgek
          · obtain ⟨p, hp⟩ : ∃ p, ps[k]? = some p := ⟨_, List.getElem?_eq_getElem (by have := hPK.out; omega)⟩
            have hpm : p ∈ ps := List.mem_of_getElem? hp
            have hp0 := (HX.out.2.2 p hpm).1
            obtain ⟨c0, q, rfl⟩ : ∃ c0 q, p = c0 :: q := by
              cases p with
              | nil => exact absurd rfl hp0
              | cons c0 q => exact ⟨c0, q, rfl⟩
            have htk : Hid ((ps.take (k + 1)).foldl fnd1 (G j).f = fnd1 fk (c0 :: q)) := by
              obtain ⟨h7, h8⟩ := List.getElem?_eq_some_iff.1 hp
              rw [Hid, ← hfk.out, ← h8, ← List.take_append_getElem h7, List.foldl_append]; rfl
            have hrow := HI4.out.row
            rw [hPK.out] at hrow
            have hvl : vs.length = PK := by have := hrow.1; simpa using this
            obtain ⟨vk, hvk⟩ : ∃ vk, vs[k]? = some vk := ⟨_, List.getElem?_eq_getElem (by omega)⟩
            obtain ⟨gV, rfl, _, hcv, _, _⟩ := own_cell hrow hvk
            have hel := HI4.out.each k vk _ hvk hp
            obtain ⟨KL, hKL⟩ : ∃ KL, Hid ((c0 :: q).length = KL) := ⟨_, rfl⟩
            have hKq : Hid (q.length + 1 = KL ∧ q.length = KL - 1) := by have := hKL.out; simp at this; exact ⟨this, by omega⟩
            rw [hKL.out] at hel
            have hKL1 : 1 ≤ KL := by have := hKq.out; omega
            rcases hel.2 with ⟨_, h0⟩ | ⟨a, cap, cur, rfl, halo, hah, hcap, hcm, hcs, htake⟩
            · omega
            have hb0 : cur[0]? = some (byteV c0) := by
              have e : (cur.toList.take (KL * 1))[0]? = some (byteV c0) := by rw [htake]; rfl
              rw [List.getElem?_take, if_pos (by omega)] at e
              simpa using e
            have hcell0 : wr.cell? ⟨a, 0, none⟩ = some (.int .u8 c0.toNat) := by simp [World.cell?, hah, hb0, byteV]
            have hoff : ¬ sr.own a := fun ho => by have := HOL.out a ho; have := HZ5.out; omega
            have hwa : w.heap.size ≤ a := by have := HF.out.wfr.size; have := HZ5.out; omega
            have hrest : ∀ i b, q[i]? = some b → cur[1 + i]? = some (byteV b) := by
              intro i b hib
              have hi : i < q.length := (List.getElem?_eq_some_iff.1 hib).1
              have e : (cur.toList.take (KL * 1))[1 + i]? = some (byteV b) := by
                rw [htake, byteVs, List.getElem?_map, Nat.add_comm 1 i, List.getElem?_cons_succ, hib]; rfl
              rw [List.getElem?_take, if_pos (by have := hKq.out; omega)] at e
              simpa using e
            obtain ⟨z, hz⟩ : ∃ z : Int, Hid ((c0.toNat : Int) = z) := ⟨_, rfl⟩
            rw [hz.out] at hcell0
            have hcapK : 1 ≤ cap := by omega
            have hblk := HI2.out.blk
            have m0 : wr.cell? ⟨w.heap.size + 1, 0, none⟩ = some (.bool fk.whole) := by simp [World.cell?, hblk]
            have m1 : wr.cell? ⟨w.heap.size + 1, 1, none⟩ = some SV := by simp [World.cell?, hblk]
            have m2 : wr.cell? ⟨w.heap.size + 1, 2, none⟩ = some (.slice A7 n2 c2) := by simp [World.cell?, hblk]
            have mf : ∀ i, wr.frozen? ⟨w.heap.size + 1, i, none⟩ = false := fun i => by simp [World.frozen?, hblk]
            have HBLK := Lib.hid hblk
            clear hblk
            by_cases hc1 : cap = 1
            · subst hc1
              have hel2 : Hid (RecM wr sr w.heap.size (.slice (some ⟨a, 0, none⟩) (KL - 1) 0) q) := by
                rw [← hKq.out.2]
                refine ⟨a, 0, 0, cur, rfl, hoff, hwa, hah, fun i b hib => ?_⟩
                have := (List.getElem?_eq_some_iff.1 hib).1
                have := hKq.out
                omega
              have hKL0 : (0 : Int) < (KL : Int) := by omega
              have hHAH := Lib.hid hah
              clear hah hrest hb0 hcs htake hcm hcap hoff hel hvk hrow hp hpm
              have hkw : wrap64 ((k : Int) + 1) = ((k + 1 : Nat) : Int) := by
                have h8 := sumLen_ge ps
                rw [← sumLen_frames (sm := sumB), hPK.out] at h8
                have h9 := congrArg List.length hD.out
                rw [List.length_append, hL.out] at h9
                have := HLM.out
                unfold wrap64; omega
              have HKW := Lib.hid hkw
              clear hkw
              by_cases hz1 : z = 1
              · have hc01 : c0 = 1 := UInt8.toNat_inj.1 (by have h9 := hz.out; rw [hz1] at h9; show c0.toNat = 1; omega)
                have HC0 := Lib.hid hc01
                clear hc01
                go_wp2_with fail
                obtain ⟨g1, g2⟩ := three_set (x' := .bool true) (y' := .slice (some ⟨a, 0, none⟩) (KL - 1) 0) (z' := .slice none 0 0) HBLK.out
                refine ⟨⟨k + 1, hltk, by rw [HKW.out], ?_⟩, by rw [HKW.out]; simp [intOf]; omega⟩
                rw [htk.out]
                exact ⟨_, none, 0, 0, [], HI1.out.shot HC0.out hel2.out g2 g1, HI2.out.shot HC0.out hel2.out g2 g1, fun kk h => (by cases h), HI4.out.touchB HBLK.out g2, by rw [g2.size]; exact HI5.out⟩
              · have hc01 : c0 ≠ 1 := fun e => hz1 (by have := hz.out; rw [e] at this; simpa using this.symm)
                have HC0 := Lib.hid hc01
                clear hc01
                have hn2 : Hid (n2 = fk.recs.length) := HI2.out.len.symm
                have hn2s : n2 ≤ 20000000 := by rw [hn2.out, ← hfk.out]; exact HRB.out k hk
                have hm1 : Hid (n2 + 1 ≤ maxLen) := Nat.le_trans (show n2 + 1 ≤ 20000001 by omega) (by decide)
                have hm2 : Hid ((n2 + 1) * 24 ≤ 140737488355328) := by simp only [Hid]; omega
                have hb3 : w.heap.size + 1 < wr.heap.size := (Array.getElem?_eq_some_iff.1 HBLK.out).1
                have c1 : wr.drew.cell? ⟨w.heap.size + 1, 2, none⟩ = some (.slice A7 n2 c2) := m2
                have c1a : ∀ o, (wr.alloc o).drew.cell? ⟨w.heap.size + 1, 2, none⟩ = some (.slice A7 n2 c2) := fun o => (World.cell?_alloc_lt wr o ⟨w.heap.size + 1, 2, none⟩ hb3).trans m2
                have HROW : Hid (∀ o, (wr.alloc o).drew.ownsRow w.heap.size 23 1 (.slice A7 n2 c2) n2 vr) := fun o => ownsRow_keep HI2.out.row fun g hg => Below.heap_alloc wr o g (own_block HI2.out.row hg).choose_spec.2.2
                have HGR : Hid (∀ o w5, (wr.alloc o).drew.grownBy w5 (Value.slice A7 n2 c2).ownBlock → w5.cell? ⟨w.heap.size + 1, 2, none⟩ = some (.slice A7 n2 c2) ∧ (∀ i, w5.frozen? ⟨w.heap.size + 1, i, none⟩ = false) ∧ wr.grownBy w5 (Value.slice A7 n2 c2).ownBlock) := fun o w5 hg => by
                  have hFg : w5.heap[w.heap.size + 1]? = wr.heap[w.heap.size + 1]? := (hg.block _ (by simp; omega) (fun e => by
                    obtain ⟨cur, hcc, _⟩ := own_block HI2.out.row e.symm
                    rw [HBLK.out] at hcc; injection hcc with e; injection e with _ e2 _; exact absurd e2 (by decide))).trans (Below.heap_alloc wr o _ hb3)
                  refine ⟨(World.cell?_of_block (w := wr) (a := ⟨w.heap.size + 1, 2, none⟩) hFg).trans m2, fun i => (World.frozen?_of_block (w := wr) (a := ⟨w.heap.size + 1, i, none⟩) hFg).trans (mf i), hg.os, hg.tape, hg.output, Nat.le_trans (by simp) hg.size, fun g hlt hne => (hg.block g (by simp; omega) hne).trans (Below.heap_alloc wr o g hlt)⟩
                obtain ⟨iU, hU, hU0, hU1, hU2⟩ := info_parts lst_info
                clear hn2s
                have hKLi : (1 : Int) ≤ (KL : Int) := by omega
                go_wp2_with fail
                go_region_law
                  ((refine step_append_lies _ (by rfl) _ _ _ (by rfl) w.heap.size 23 iU _ 1 24 Tryz.underlying22 hU hU0 hU1 hU2 rfl (by decide) (.slice A7 n2 c2) n2 vr (by rfl) (HROW.out _) ⟨wr.heap.size, 0, none⟩ 1 1 [.slice (some ⟨a, 0, none⟩) (KL - 1) 0] (by rfl) (by rfl) (fun j u hu => new_one wr _ _ j u hu) (by simp [Value.oneCell']) (by decide) hm1.out hm2.out (by simp; omega) _ rfl ?_; intro g5 cap5 w5 hown5 hgrow5 hat5 hlt5; obtain ⟨c5', ff5, hg5⟩ := HGR.out _ _ hgrow5))
                all_goals
                  have HST := Lib.hid (HI1.out.stepRec HI2.out HC0.out hel2.out hown5 hg5 (by rcases hat5 with h | h; exact .inl h; right; simp at h; omega) HI3.out HI4.out HI5.out)
                  clear hown5 hgrow5 hat5 hlt5 c5' ff5 hg5 HGR HROW c1 c1a
                  go_wp2_with fail
                  refine ⟨⟨k + 1, hltk, by rw [HKW.out], ?_⟩, by rw [HKW.out]; simp [intOf]; omega⟩
                  rw [htk.out]
                  exact HST.out
            · have hel2 : Hid (RecM wr sr w.heap.size (.slice (some ⟨a, 1, none⟩) (KL - 1) (cap - 1)) q) := by
                rw [← hKq.out.2]
                exact ⟨a, 1, cap - 1, cur, rfl, hoff, hwa, hah, hrest⟩
              have hc2 : ¬ cap - 1 = 0 := by omega
              have hKL0 : (0 : Int) < (KL : Int) := by omega
              have hHAH := Lib.hid hah
              clear hah hrest hb0 hcs htake hcm hcap hoff hel hvk hrow hp hpm
              have hkw : wrap64 ((k : Int) + 1) = ((k + 1 : Nat) : Int) := by
                have h8 := sumLen_ge ps
                rw [← sumLen_frames (sm := sumB), hPK.out] at h8
                have h9 := congrArg List.length hD.out
                rw [List.length_append, hL.out] at h9
                have := HLM.out
                unfold wrap64; omega
              have HKW := Lib.hid hkw
              clear hkw
              by_cases hz1 : z = 1
              · have hc01 : c0 = 1 := UInt8.toNat_inj.1 (by have h9 := hz.out; rw [hz1] at h9; show c0.toNat = 1; omega)
                have HC0 := Lib.hid hc01
                clear hc01
                go_wp2_with fail
                obtain ⟨g1, g2⟩ := three_set (x' := .bool true) (y' := .slice (some ⟨a, 1, none⟩) (KL - 1) (cap - 1)) (z' := .slice none 0 0) HBLK.out
                refine ⟨⟨k + 1, hltk, by rw [HKW.out], ?_⟩, by rw [HKW.out]; simp [intOf]; omega⟩
                rw [htk.out]
                exact ⟨_, none, 0, 0, [], HI1.out.shot HC0.out hel2.out g2 g1, HI2.out.shot HC0.out hel2.out g2 g1, fun kk h => (by cases h), HI4.out.touchB HBLK.out g2, by rw [g2.size]; exact HI5.out⟩
              · have hc01 : c0 ≠ 1 := fun e => hz1 (by have := hz.out; rw [e] at this; simpa using this.symm)
                have HC0 := Lib.hid hc01
                clear hc01
                have hn2 : Hid (n2 = fk.recs.length) := HI2.out.len.symm
                have hn2s : n2 ≤ 20000000 := by rw [hn2.out, ← hfk.out]; exact HRB.out k hk
                have hm1 : Hid (n2 + 1 ≤ maxLen) := Nat.le_trans (show n2 + 1 ≤ 20000001 by omega) (by decide)
                have hm2 : Hid ((n2 + 1) * 24 ≤ 140737488355328) := by simp only [Hid]; omega
                have hb3 : w.heap.size + 1 < wr.heap.size := (Array.getElem?_eq_some_iff.1 HBLK.out).1
                have c1 : wr.drew.cell? ⟨w.heap.size + 1, 2, none⟩ = some (.slice A7 n2 c2) := m2
                have c1a : ∀ o, (wr.alloc o).drew.cell? ⟨w.heap.size + 1, 2, none⟩ = some (.slice A7 n2 c2) := fun o => (World.cell?_alloc_lt wr o ⟨w.heap.size + 1, 2, none⟩ hb3).trans m2
                have HROW : Hid (∀ o, (wr.alloc o).drew.ownsRow w.heap.size 23 1 (.slice A7 n2 c2) n2 vr) := fun o => ownsRow_keep HI2.out.row fun g hg => Below.heap_alloc wr o g (own_block HI2.out.row hg).choose_spec.2.2
                have HGR : Hid (∀ o w5, (wr.alloc o).drew.grownBy w5 (Value.slice A7 n2 c2).ownBlock → w5.cell? ⟨w.heap.size + 1, 2, none⟩ = some (.slice A7 n2 c2) ∧ (∀ i, w5.frozen? ⟨w.heap.size + 1, i, none⟩ = false) ∧ wr.grownBy w5 (Value.slice A7 n2 c2).ownBlock) := fun o w5 hg => by
                  have hFg : w5.heap[w.heap.size + 1]? = wr.heap[w.heap.size + 1]? := (hg.block _ (by simp; omega) (fun e => by
                    obtain ⟨cur, hcc, _⟩ := own_block HI2.out.row e.symm
                    rw [HBLK.out] at hcc; injection hcc with e; injection e with _ e2 _; exact absurd e2 (by decide))).trans (Below.heap_alloc wr o _ hb3)
                  refine ⟨(World.cell?_of_block (w := wr) (a := ⟨w.heap.size + 1, 2, none⟩) hFg).trans m2, fun i => (World.frozen?_of_block (w := wr) (a := ⟨w.heap.size + 1, i, none⟩) hFg).trans (mf i), hg.os, hg.tape, hg.output, Nat.le_trans (by simp) hg.size, fun g hlt hne => (hg.block g (by simp; omega) hne).trans (Below.heap_alloc wr o g hlt)⟩
                obtain ⟨iU, hU, hU0, hU1, hU2⟩ := info_parts lst_info
                clear hn2s
                have hKLi : (1 : Int) ≤ (KL : Int) := by omega
                go_wp2_with fail
                go_region_law
                  ((refine step_append_lies _ (by rfl) _ _ _ (by rfl) w.heap.size 23 iU _ 1 24 Tryz.underlying22 hU hU0 hU1 hU2 rfl (by decide) (.slice A7 n2 c2) n2 vr (by rfl) (HROW.out _) ⟨wr.heap.size, 0, none⟩ 1 1 [.slice (some ⟨a, 1, none⟩) (KL - 1) (cap - 1)] (by rfl) (by rfl) (fun j u hu => new_one wr _ _ j u hu) (by simp [Value.oneCell']) (by decide) hm1.out hm2.out (by simp; omega) _ rfl ?_; intro g5 cap5 w5 hown5 hgrow5 hat5 hlt5; obtain ⟨c5', ff5, hg5⟩ := HGR.out _ _ hgrow5))
                all_goals
                  have HST := Lib.hid (HI1.out.stepRec HI2.out HC0.out hel2.out hown5 hg5 (by rcases hat5 with h | h; exact .inl h; right; simp at h; omega) HI3.out HI4.out HI5.out)
                  clear hown5 hgrow5 hat5 hlt5 c5' ff5 hg5 HGR HROW c1 c1a
                  go_wp2_with fail
                  refine ⟨⟨k + 1, hltk, by rw [HKW.out], ?_⟩, by rw [HKW.out]; simp [intOf]; omega⟩
                  rw [htk.out]
                  exact HST.out
          · have hkk : k = PK := by omega
            have htk : ps.take k = ps := List.take_of_length_le (by have := hPK.out; omega)
            have HFK : Hid (ps.foldl fnd1 (G j).f = fk) := by rw [Hid, ← hfk.out, htk]
            obtain ⟨gd, hgd⟩ : ∃ gd, Hid ((framesP sumB ps).length = gd) := ⟨_, rfl⟩
            rw [hgd.out]
            have hLg : gd + tr.length = L := by
              have h9 := congrArg List.length hD.out
              rw [List.length_append, hL.out, hgd.out] at h9
              exact h9
            have hst : Hid (G (j + 1) = { brk := decide (tr ≠ []), f := fk, file := x, size := gd, v := if tr = [] then (G j).v else cutVw (G j).v P gd, cnt := (G j).cnt }) := by
              rw [Hid, hGs.out]
              unfold stepF
              rw [if_neg (by rw [HBK.out]; decide)]
              simp only [HFK.out, hgd.out, hP.out]
            have HGD : Hid (gd ≤ L ∧ L ≤ 1048576) := ⟨by omega, HLM.out⟩
            obtain ⟨k0, k1, k2, k3, k4, k5, k6, kf⟩ := HI1.out.wk.lg.cells
            by_cases htr : tr = []
            · have hlt1 : ¬ ((gd : Int) < (L : Int)) := by rw [htr] at hLg; simp at hLg; omega
              have hst2 : Hid (G (j + 1) = { brk := false, f := fk, file := x, size := gd, v := (G j).v, cnt := (G j).cnt }) := by rw [Hid, hst.out]; simp [htr]
              clear hLg htr hst
              go_wp2_with fail
              refine ⟨⟨j + 1, hlt, by go_num, by rw [hst2.out], ?_⟩, by simp [intOf]; omega⟩
              rw [hst2.out]
              exact ⟨sr, (HI1.out.set3 x).set4 gd⟩
            · have hlt1 : ((gd : Int) < (L : Int)) := by
                have : 0 < tr.length := List.length_pos_iff.2 htr
                omega
              have hst2 : Hid (G (j + 1) = { brk := true, f := fk, file := x, size := gd, v := cutVw (G j).v P gd, cnt := (G j).cnt }) := by rw [Hid, hst.out]; simp [htr]
              have HCU : Hid (∀ W, Below wr.heap.size wr W → Calls Tryz.prog 44 #[.pointer (some ⟨B, 0, none⟩), .string P, .int .i64 gd] W fun e w' => e = .returned .nilIface ∧ w'.cell? ⟨g, 0, none⟩ = some (.pointer (some ⟨B, 0, none⟩)) ∧ Hid (∃ s', FK base g B nm seg (G j).file (G j).size 0 0 (cutVw (G j).v P gd) t (G j).cnt s w (some ⟨ga, 0, none⟩) N cn ns fk w' s')) := fun W hW => by
                have h1 := HI1.out.below hW
                refine (dk_cut h1.wk.dk gd HVP.out (by simp only; have := HGD.out; have := hL.out; omega)).mono ?_
                rintro e w' ⟨rfl, s', d1, d2, d3⟩
                have h2 := h1.disk d1 d2
                exact ⟨rfl, h2.wk.lg.cells.1, s', h2⟩
              have HP1 : Hid (∀ W, Below wr.heap.size wr W → Calls Tryz.prog 30 #[.pointer (some ⟨g, 0, none⟩), .int .i64 x] W fun e w' => e = .returned (.string P) ∧ w'.cell? ⟨g, 0, none⟩ = some (.pointer (some ⟨B, 0, none⟩)) ∧ Below wr.heap.size wr w') := fun W hW => HPA.out wr W _ _ _ _ _ sr HI1.out hW
              clear hLg htr hst
              go_wp2_with fail
              go_region_held_law (fun W => W.cell? ⟨g, 0, none⟩ = some (.pointer (some ⟨B, 0, none⟩))) (first | assumption | exact k0)
                (first
                  | (go_at_call 30; refine (HP1.out _ (by first | exact Below.refl _ _ | exact (Below.refl _ _).drew | exact bdrewN (Below.refl _ _) _)).mono ?_; rintro e w7 ⟨rfl, hS7, hb7⟩)
                  | (go_at_call 44; refine (HCU.out _ hb7).mono ?_; rintro e w8 ⟨rfl, hS8, h8⟩)
                  | fail)
              obtain ⟨s8, hF8⟩ := h8.out
              have HF8 := Lib.hid hF8
              clear h8 hF8 hS8 hS7 hb7 k0 k1 k2 k3 k4 k5 k6 kf HP1 HCU
              obtain ⟨k0, k1, k2, k3, k4, k5, k6, kf⟩ := HF8.out.wk.lg.cells
              go_wp2_with fail
              refine ⟨⟨j + 1, hlt, by go_num, by rw [hst2.out], ?_⟩, by simp [intOf]; omega⟩
              rw [hst2.out]
              exact ⟨s8, (HF8.out.set3 x).set4 gd⟩
    · have hjN : j = N := by omega
      subst hjN
      obtain ⟨fj, hfj⟩ : ∃ fj, Hid ((G j).f = fj) := ⟨_, rfl⟩
      rw [hfj.out] at HF
      obtain ⟨SV, A7, n2, c2, vr, hfa⟩ := HF.out.fm
      have HFA := Lib.hid hfa
      have hn2 : Hid (fj.recs.length = n2) := hfa.len
      have hblk := hfa.blk
      have hb2 := HF.out.b2
      have m0 : wr.cell? ⟨w.heap.size + 1, 0, none⟩ = some (.bool fj.whole) := by simp [World.cell?, hblk]
      have m1 : wr.cell? ⟨w.heap.size + 1, 1, none⟩ = some SV := by simp [World.cell?, hblk]
      have m2 : wr.cell? ⟨w.heap.size + 1, 2, none⟩ = some (.slice A7 n2 c2) := by simp [World.cell?, hblk]
      obtain ⟨k0, k1, k2, k3, k4, k5, k6, kf⟩ := HF.out.wk.lg.cells
      have hgb : w.heap.size + 1 ≠ g := by have := HF.out.glo; omega
      have HKS : Hid (∀ (W : World) (i : Nat) (u : Value), W.cell? ⟨w.heap.size + 1, 2, none⟩ = some (.slice A7 n2 c2) → (W.setCell ⟨g, i, none⟩ u).cell? ⟨w.heap.size + 1, 2, none⟩ = some (.slice A7 n2 c2)) := fun W i u h => (World.cell?_of_block (w := W) (a := ⟨w.heap.size + 1, 2, none⟩) (Below.heap_setCell W ⟨g, i, none⟩ u (w.heap.size + 1) hgb)).trans h
      clear hfa hblk hb2
      have kd5 : wr.drew.cell? ⟨g, 5, none⟩ = some (.int .i64 0) := k5
      have kd6 : wr.drew.cell? ⟨g, 6, none⟩ = some (.int .i64 0) := k6
      have kdf : ∀ i, wr.drew.frozen? ⟨g, i, none⟩ = false := kf
      go_wp2_with fail
      go_region_held_law (fun W => W.cell? ⟨w.heap.size + 1, 2, none⟩ = some (.slice A7 n2 c2)) (first | with_reducible assumption | exact m2 | exact HKS.out _ _ _ (by first | assumption | exact m2 | exact HKS.out _ _ _ m2)) (fail)
      obtain ⟨W9, hW9⟩ : ∃ W9, Hid (W9 = ((wr.setCell ⟨g, 5, none⟩ (.int .i64 n2)).setCell ⟨g, 6, none⟩ (.int .i64 n2)).drew) := ⟨_, rfl⟩
      have HF9 : Hid (FK base g B nm seg (G j).file (G j).size n2 n2 (G j).v t (G j).cnt s w An j cn ns fj W9 sr) := by rw [hW9.out]; exact ((HF.out.set5 n2).set6 n2).below (Below.refl _ _).drew
      have HFA9 : Hid (FndAt W9 sr w.heap.size (w.heap.size + 1) fj SV A7 n2 c2 vr) := by
        rw [hW9.out]
        exact (HFA.out.stay (Stay.of_wfr (WFr.of_touch ((Touch.set _ _ _ _).trans (Touch.set _ _ _ _))) HF.out.wk.lg)).stay (Stay.of_below (Below.refl _ _).drew)
      rw [← hW9.out]
      clear k0 k1 k2 k3 k4 k5 k6 kf kd5 kd6 kdf m0 m1 m2 HKS hW9
      have hblk := HFA9.out.blk
      have hb2 := HF9.out.b2
      have m0 : W9.cell? ⟨w.heap.size + 1, 0, none⟩ = some (.bool fj.whole) := by simp [World.cell?, hblk]
      have m1 : W9.cell? ⟨w.heap.size + 1, 1, none⟩ = some SV := by simp [World.cell?, hblk]
      have m2 : W9.cell? ⟨w.heap.size + 1, 2, none⟩ = some (.slice A7 n2 c2) := by simp [World.cell?, hblk]
      have r0 : W9.cell? ⟨w.heap.size, 0, none⟩ = some (.bool false) := by simp [World.cell?, hb2]
      have r1 : W9.cell? ⟨w.heap.size, 1, none⟩ = some (.slice none 0 0) := by simp [World.cell?, hb2]
      have r2 : W9.cell? ⟨w.heap.size, 2, none⟩ = some (.slice none 0 0) := by simp [World.cell?, hb2]
      have rf : ∀ i, W9.frozen? ⟨w.heap.size, i, none⟩ = false := fun i => by simp [World.frozen?, hb2]
      have HSV : Hid (∃ (b : Bool) (X : Option Addr) (y z : Nat), fj.whole = b ∧ SV = .slice X y z) := by
        rcases HFA9.out.snap with ⟨e, _⟩ | ⟨a, off, cap, cur, e, _⟩
        · exact ⟨_, _, _, _, rfl, e⟩
        · exact ⟨_, _, _, _, rfl, e⟩
      obtain ⟨wb, X, y, z, hwb, rfl⟩ := HSV.out
      have HWB := Lib.hid hwb
      rw [hwb] at m0
      clear hblk hb2 HSV hwb
      go_wp2_with fail
      obtain ⟨g1, g2⟩ := three_set (x' := .bool wb) (y' := .slice X y z) (z' := .slice A7 n2 c2) HF9.out.b2
      obtain ⟨l1, l2, l3⟩ := HF9.out.last HFA9.out g2
      refine bodyPost_ret (results_cell_row rfl _ _ w.heap.size 29 #[.bool wb, .slice X y z, .slice A7 n2 c2] (0, 0) _ rfl g1 Tryz.underlying29 rfl (by kernel_rfl)) rfl ?_
      rw [hfj.out, HWB.out, hn2.out]
      exact ⟨.slice X y z, A7, n2, c2, vr, sr, w.heap.size + 1, rfl, l1, l2, l3⟩
end Go.Proofs.YthokoimoiamddaaGreatDoor
