/-
  wal: Open. Own work.
  wal: Open, where it opens. Own work.
  wal: a log as the law sees it: what it holds, how much of it is safe; what each call makes of it. Own work.
  wal: Sync and Checkpoint as the law sees them. Own work.
  wal: a crash, and Open, as the law sees them. Own work.
  wal: Open as the law sees it. Own work.
  wal: a log's name makes names of files. Own work.
  wal: the document's example ('awake'). Own work.
-/
import Derived.Test.YthokoimoiamddaaGreatDoorWalFindW
import Derived.Test.YthokoimoiamddaaGreatDoorB8
set_option linter.unusedSimpArgs false
set_option linter.unusedVariables false
namespace Go.Proofs.YthokoimoiamddaaGreatDoor
open Go Go.RowKit

section
variable {w w' : World} {s : St} {f : Fnd}
/-- Another block of what was found is written. -/
theorem FndAt.other {lo b x0 : Nat} {cs : Array Value} {SV : Value} {A : Option Addr} {n c : Nat} {vs : List Value} (h : FndAt w s lo b f SV A n c vs) (hx : w.heap[x0]? = some (.cells cs 29 (0, 0))) (hne : x0 ≠ b) (ht : Touch (some x0) w w') : FndAt w' s lo b f SV A n c vs := by
  have hty : ∀ (x : Nat) (cur : Array Value) (ty : TypeId), w.heap[x]? = some (.cells cur ty (0, 0)) → ty ≠ 29 → w'.heap[x]? = w.heap[x]? := fun x cur ty hx2 hne2 => ht.block x fun e => by
    cases e
    rw [hx] at hx2; injection hx2 with e; injection e with _ e2 _; exact hne2 e2.symm
  refine ⟨(ht.block b fun e => hne (Option.some.inj e)).trans h.blk, h.len, ownsRow_keep h.row fun k hk => ?_, h.off, ?_, fun i v p h1 h2 => ?_, h.boff, h.blo⟩
  · obtain ⟨cur, hcc, _⟩ := own_block h.row hk
    exact hty k cur _ hcc (by decide)
  · rcases h.snap with h1 | ⟨a, off, cap, cur, h1, h2, h3, h4, h5⟩
    · exact .inl h1
    · exact .inr ⟨a, off, cap, cur, h1, h2, h3, (hty a cur _ h4 (by decide)).trans h4, h5⟩
  · obtain ⟨a, off, cap, cur, h1, h2, h3, h4, h5⟩ := h.each i v p h1 h2
    exact ⟨a, off, cap, cur, h1, h2, h3, (hty a cur _ h4 (by decide)).trans h4, h5⟩
theorem FndAt.down {lo lo2 b : Nat} {SV : Value} {A : Option Addr} {n c : Nat} {vs : List Value} (h : FndAt w s lo b f SV A n c vs) (hl : lo2 ≤ lo) : FndAt w s lo2 b f SV A n c vs := by
  have hr : ∀ v p, RecM w s lo v p → RecM w s lo2 v p := fun v p ⟨a, off, cap, cur, h1, h2, h3, h4, h5⟩ => ⟨a, off, cap, cur, h1, h2, Nat.le_trans hl h3, h4, h5⟩
  exact ⟨h.blk, h.len, ownsRow_down h.row hl, h.off, h.snap.imp id (hr _ _), fun i v p h1 h2 => hr _ _ (h.each i v p h1 h2), h.boff, Nat.le_trans hl h.blo⟩
end
theorem results_tct {fn : Func} {a b p : Tmp} {ty : TypeId} (h : fn.results = #[.tmp a, .cell p ty, .tmp b]) (tmps : Array Value) (w : World) (g : Nat) (cs : Array Value)
    (hp : tmps.getD p undef = .pointer (some ⟨g, 0, none⟩)) (hL : (loadVar ty ⟨g, 0, none⟩).run Tryz.prog w = .ok (.agg cs) w) :
    (results fn tmps).run Tryz.prog w = .ok (.tuple #[tmps.getD a undef, .agg cs, tmps.getD b undef]) w := by
  have hp' : tmps[p]?.getD undef = .pointer (some ⟨g, 0, none⟩) := by simpa using hp
  simp [results, h, hp', asAddr, hL]
theorem load_found (w : World) (g : Nat) (x y z : Value) (hg : w.heap[g]? = some (.cells #[x, y, z] 29 (0, 0))) : (loadVar 29 ⟨g, 0, none⟩).run Tryz.prog w = .ok (.agg #[x, y, z]) w :=
  run_loadVar_row w g 29 29 #[x, y, z] (0, 0) _ hg Tryz.underlying29 rfl (by kernel_rfl)

theorem open_nil (name : ByteArray) (seg : Int) (w : World) : Calls Tryz.prog 9 #[.pointer none, .string name, .int .i64 seg] w fun e w' => e = .returned (.tuple #[.pointer none, .agg #[.bool false, .slice none 0 0, .slice none 0 0], .iface 42 (.int .i64 19)]) ∧ Below w.heap.size w w' := by
  have hh := heap_alloc_new w (.cells #[.bool false, .slice none 0 0, .slice none 0 0] 29)
  obtain ⟨W, hW⟩ : ∃ W, Hid (W = w.alloc (.cells #[.bool false, .slice none 0 0, .slice none 0 0] 29)) := ⟨_, rfl⟩
  have hb : Hid (Below w.heap.size w W) := by rw [hW.out]; exact (Below.refl _ _).alloc (Nat.le_refl _) _
  rw [← hW.out] at hh
  have HH := Lib.hid hh
  have c0 : W.cell? ⟨w.heap.size, 0, none⟩ = some (.bool false) := by simp [World.cell?, hh]
  have c1 : W.cell? ⟨w.heap.size, 1, none⟩ = some (.slice none 0 0) := by simp [World.cell?, hh]
  have c2 : W.cell? ⟨w.heap.size, 2, none⟩ = some (.slice none 0 0) := by simp [World.cell?, hh]
  have cf : ∀ i, W.frozen? ⟨w.heap.size, i, none⟩ = false := fun i => by simp [World.frozen?, hh]
  clear hh
  go_enter Tryz.func9, Tryz.ntmps9
  go_upto_region 1 with fail
  rw [← hW.out]
  go_wp2_with fail
  obtain ⟨g1, g2⟩ := three_set (x' := .bool false) (y' := .slice none 0 0) (z' := .slice none 0 0) HH.out
  refine bodyPost_ret (results_tct rfl _ _ w.heap.size #[.bool false, .slice none 0 0, .slice none 0 0] rfl (load_found _ _ _ _ _ g1)) rfl ?_
  exact ⟨rfl, hb.out.trans (g2.below fun x e => by cases e; exact Nat.le_refl _)⟩
/-- Are a name and a segment's bytes such that a log may be opened? -/
def rightB (name : ByteArray) (seg : Int) : Bool := nameB name && decide (16 ≤ seg) && decide (seg ≤ 1048576)
theorem open_bad (B : Nat) (name : ByteArray) (seg : Int) (w : World) (h : rightB name seg = false) : Calls Tryz.prog 9 #[.pointer (some ⟨B, 0, none⟩), .string name, .int .i64 seg] w fun e w' => e = .returned (.tuple #[.pointer none, .agg #[.bool false, .slice none 0 0, .slice none 0 0], .iface 42 (.int .i64 1)]) ∧ Below w.heap.size w w' := by
  have hh := heap_alloc_new w (.cells #[.bool false, .slice none 0 0, .slice none 0 0] 29)
  obtain ⟨W, hW⟩ : ∃ W, Hid (W = w.alloc (.cells #[.bool false, .slice none 0 0, .slice none 0 0] 29)) := ⟨_, rfl⟩
  have hb : Hid (Below w.heap.size w W ∧ W.heap.size = w.heap.size + 1) := by rw [hW.out]; exact ⟨(Below.refl _ _).alloc (Nat.le_refl _) _, by simp⟩
  rw [← hW.out] at hh
  have HH := Lib.hid hh
  have c0 : W.cell? ⟨w.heap.size, 0, none⟩ = some (.bool false) := by simp [World.cell?, hh]
  have c1 : W.cell? ⟨w.heap.size, 1, none⟩ = some (.slice none 0 0) := by simp [World.cell?, hh]
  have c2 : W.cell? ⟨w.heap.size, 2, none⟩ = some (.slice none 0 0) := by simp [World.cell?, hh]
  have cf : ∀ i, W.frozen? ⟨w.heap.size, i, none⟩ = false := fun i => by simp [World.frozen?, hh]
  clear hh
  obtain ⟨b, hn⟩ : ∃ b, nameB name = b := ⟨_, rfl⟩
  have HN := Lib.hid hn
  unfold rightB at h
  rw [hn] at h
  clear hn
  cases b with
  | false =>
    clear h
    go_enter Tryz.func9, Tryz.ntmps9
    go_upto_region 1 with fail
    rw [← hW.out]
    go_wp2_with (go_at_call 24; refine (name_any name _).mono ?_; rw [HN.out]; rintro e w1 ⟨rfl, rfl⟩)
    obtain ⟨g1, g2⟩ := three_set (x' := .bool false) (y' := .slice none 0 0) (z' := .slice none 0 0) HH.out
    refine bodyPost_ret (results_tct rfl _ _ w.heap.size #[.bool false, .slice none 0 0, .slice none 0 0] rfl (load_found _ _ _ _ _ g1)) rfl ?_
    exact ⟨rfl, hb.out.1.trans (g2.below fun x e => by cases e; exact Nat.le_refl _)⟩
  | true =>
    by_cases h1 : seg < 16
    ·
      clear h
      go_enter Tryz.func9, Tryz.ntmps9
      go_upto_region 1 with fail
      rw [← hW.out]
      go_wp2_with (go_at_call 24; refine (name_any name _).mono ?_; rw [HN.out]; rintro e w1 ⟨rfl, rfl⟩)
      obtain ⟨g1, g2⟩ := three_set (x' := .bool false) (y' := .slice none 0 0) (z' := .slice none 0 0) HH.out
      refine bodyPost_ret (results_tct rfl _ _ w.heap.size #[.bool false, .slice none 0 0, .slice none 0 0] rfl (load_found _ _ _ _ _ g1)) rfl ?_
      exact ⟨rfl, hb.out.1.trans (g2.below fun x e => by cases e; exact Nat.le_refl _)⟩
    · have h2 : 1048576 < seg := by
        simp only [Bool.true_and, Bool.and_eq_false_iff, decide_eq_false_iff_not] at h
        omega
      clear h
      go_enter Tryz.func9, Tryz.ntmps9
      go_upto_region 1 with fail
      rw [← hW.out]
      go_wp2_with (go_at_call 24; refine (name_any name _).mono ?_; rw [HN.out]; rintro e w1 ⟨rfl, rfl⟩)
      obtain ⟨g1, g2⟩ := three_set (x' := .bool false) (y' := .slice none 0 0) (z' := .slice none 0 0) HH.out
      refine bodyPost_ret (results_tct rfl _ _ w.heap.size #[.bool false, .slice none 0 0, .slice none 0 0] rfl (load_found _ _ _ _ _ g1)) rfl ?_
      exact ⟨rfl, hb.out.1.trans (g2.below fun x e => by cases e; exact Nat.le_refl _)⟩

end Go.Proofs.YthokoimoiamddaaGreatDoor
set_option linter.unusedSimpArgs false
set_option linter.unusedVariables false
namespace Go.Proofs.YthokoimoiamddaaGreatDoor
open Go Go.RowKit

set_option maxHeartbeats 4000000 in
theorem open_ok (base B n : Nat) (name : ByteArray) (seg : Nat) (v : Vw) (t : Int) (s : St) (fl : List FileD) (ns : List Nat) (w : World) (hd : Dk base w B v t n s) (hE : ErrS w) (hten : 1 < base) (hr : rightB name seg = true) (hn64 : n ≤ 64) (hnm : NmAt (fun k => (v k).isSome) name ns) (hp : PathOK name) (hfl : fl.map (·.1) = ns) (hfd : ∀ x ∈ fl, FileOK v name x) (S : FSt) (hS : fl.foldl (stepF sumB (pathB name)) (startF v n) = S) :
    Calls Tryz.prog 9 #[.pointer (some ⟨B, 0, none⟩), .string name, .int .i64 seg] w fun e w' => ∃ (SV : Value) (A : Option Addr) (k c : Nat) (vs : List Value) (s' : St) (b g : Nat), e = .returned (.tuple #[.pointer (some ⟨g, 0, none⟩), .agg #[.bool S.f.whole, SV, .slice A k c], .nilIface]) ∧
      Wk base w' g B name seg S.file S.size S.f.recs.length S.f.recs.length S.v t S.cnt s' ∧ FndAt w' s' w.heap.size b S.f SV A k c vs ∧ w.heap.size ≤ g ∧ Frame s s' w w' := by
  have hh := heap_alloc_new w (.cells #[.bool false, .slice none 0 0, .slice none 0 0] 29)
  obtain ⟨W, hW⟩ : ∃ W, Hid (W = w.alloc (.cells #[.bool false, .slice none 0 0, .slice none 0 0] 29)) := ⟨_, rfl⟩
  have hb : Hid (Below w.heap.size w W ∧ W.heap.size = w.heap.size + 1) := by rw [hW.out]; exact ⟨(Below.refl _ _).alloc (Nat.le_refl _) _, by simp⟩
  rw [← hW.out] at hh
  have HH := Lib.hid hh
  have c0 : W.cell? ⟨w.heap.size, 0, none⟩ = some (.bool false) := by simp [World.cell?, hh]
  have c1 : W.cell? ⟨w.heap.size, 1, none⟩ = some (.slice none 0 0) := by simp [World.cell?, hh]
  have c2 : W.cell? ⟨w.heap.size, 2, none⟩ = some (.slice none 0 0) := by simp [World.cell?, hh]
  have cf : ∀ i, W.frozen? ⟨w.heap.size, i, none⟩ = false := fun i => by simp [World.frozen?, hh]
  clear hh
  have HD := Lib.hid hd
  have HE := Lib.hid hE
  have HN : Hid (nameB name = true ∧ (16 : Int) ≤ seg ∧ (seg : Int) ≤ 1048576) := by
    unfold rightB at hr
    simp only [Bool.and_eq_true, decide_eq_true_eq] at hr
    exact ⟨hr.1.1, hr.1.2, hr.2⟩
  obtain ⟨W2, hW2⟩ : ∃ W2, Hid (W2 = W.alloc (.cells #[.pointer (some ⟨B, 0, none⟩), .string name, .int .i64 seg, .int .i64 0, .int .i64 0, .int .i64 0, .int .i64 0] 63)) := ⟨_, rfl⟩
  have hb2 : Hid (Below w.heap.size w W2 ∧ W2.heap.size = w.heap.size + 2) := by
    rw [hW2.out]
    exact ⟨hb.out.1.trans ((Below.refl _ _).alloc hb.out.1.size _), by have := hb.out.2; simp; omega⟩
  have HLG : Hid (LogAt W2 (w.heap.size + 1) B name seg 0 0 0 0) := by
    rw [hW2.out]
    have h := heap_alloc_new W (.cells #[.pointer (some ⟨B, 0, none⟩), .string name, .int .i64 seg, .int .i64 0, .int .i64 0, .int .i64 0, .int .i64 0] 63)
    rw [hb.out.2] at h
    exact h
  have HH2 : Hid (W2.heap[w.heap.size]? = some (.cells #[.bool false, .slice none 0 0, .slice none 0 0] 29 (0, 0))) := by
    rw [hW2.out, Hid, Below.heap_alloc _ _ _ (by have := hb.out.2; omega)]
    exact HH.out
  have HK : Hid (Wk base W2 (w.heap.size + 1) B name seg 0 0 0 0 v t n s) := ⟨hd.below hb2.out.1, HLG.out, fun ho => by have := hd.at_.lt ho; omega, by have := hd.low; omega, hE.below hb2.out.1, hten⟩
  have HFI := Lib.hid (find_any base (w.heap.size + 1) B seg n name v t s fl ns W2 HK.out hn64 hnm hp hfl hfd)
  rw [hS] at HFI
  have h1 : ¬ (seg : Int) < 16 := by have := HN.out; omega
  have h2 : ¬ (1048576 : Int) < seg := by have := HN.out; omega
  clear hd hE hr hnm hp hfl hfd hn64 hS
  go_enter Tryz.func9, Tryz.ntmps9
  go_upto_region 1 with fail
  rw [← hW.out]
  go_upto_region 5 with (go_at_call 24; refine (name_any name _).mono ?_; rw [HN.out.1]; rintro e w1 ⟨rfl, rfl⟩)
  go_upto_region 6 with fail
  rw [← hW2.out]
  rw [hb.out.2]
  clear c0 c1 c2 cf h1 h2
  go_wp2_with (go_at_call 25; refine HFI.out.mono ?_; rintro e w3 ⟨SV, A, k, c, vs, s', b, rfl, d1, d2, d3⟩; refine Hid.out ?_)
  have HK3 := Lib.hid d1
  have HA3 : Hid (FndAt w3 s' w.heap.size b S.f SV A k c vs) := FndAt.down d2 (Nat.le_trans (Nat.le_add_right _ 2) (Nat.le_of_eq hb2.out.2.symm))
  have HW3 := Lib.hid d3
  have hb3 : b ≠ w.heap.size := by have := d2.blo; have := hb2.out.2; omega
  have HH3 : Hid (w3.heap[w.heap.size]? = some (.cells #[.bool false, .slice none 0 0, .slice none 0 0] 29 (0, 0))) := (d3.block _ (by have := hb2.out.2; omega) (fun ho => by have := HD.out.at_.lt ho; omega) (by omega)).trans HH2.out
  have hh := HH3.out
  have c0 : w3.cell? ⟨w.heap.size, 0, none⟩ = some (.bool false) := by simp [World.cell?, hh]
  have c1 : w3.cell? ⟨w.heap.size, 1, none⟩ = some (.slice none 0 0) := by simp [World.cell?, hh]
  have c2 : w3.cell? ⟨w.heap.size, 2, none⟩ = some (.slice none 0 0) := by simp [World.cell?, hh]
  have cf : ∀ i, w3.frozen? ⟨w.heap.size, i, none⟩ = false := fun i => by simp [World.frozen?, hh]
  have HSV : Hid (∃ (wb : Bool) (X : Option Addr) (y z : Nat), S.f.whole = wb ∧ SV = .slice X y z) := by
    rcases d2.snap with ⟨e, _⟩ | ⟨a, off, cap, cur, e, _⟩
    · exact ⟨_, _, _, _, rfl, e⟩
    · exact ⟨_, _, _, _, rfl, e⟩
  obtain ⟨wb, X, y, z, hwb, rfl⟩ := HSV.out
  have HWB := Lib.hid hwb
  rw [hwb]
  clear hh d1 d2 d3 HFI HSV hwb
  refine Lib.hid ?_
  go_wp2_with fail
  obtain ⟨g1, g2⟩ := three_set (x' := .bool wb) (y' := .slice X y z) (z' := .slice A k c) HH3.out
  refine bodyPost_ret (results_tct rfl _ _ w.heap.size #[.bool wb, .slice X y z, .slice A k c] rfl (load_found _ _ _ _ _ g1)) rfl ?_
  have hno := dk_not HK3.out.dk HH3.out (by decide) (by decide) (by decide) (by decide)
  have hgsz := hb2.out.2
  have hlowd := HD.out.low
  have hst : ∀ x, x ≠ w.heap.size → _ := fun x hx => g2.block x fun e => hx (Option.some.inj e).symm
  refine ⟨.slice X y z, A, k, c, vs, s', b, w.heap.size + 1, by rw [HWB.out]; rfl, ?_, ?_, by omega, ?_⟩
  · refine HK3.out.keepG (fun x hx hc => hst x fun e => ?_) (by rw [g2.size]; exact Nat.le_refl _)
    subst e
    rcases hc with hc | hc | hc
    · exact hno hc
    · omega
    · omega
  · exact HA3.out.other HH3.out (fun e => hb3 e.symm) g2
  · refine ⟨g2.os.trans (HW3.out.os.trans hb2.out.1.os), g2.tape.trans (HW3.out.tape.trans hb2.out.1.tape), g2.output.trans (HW3.out.output.trans hb2.out.1.output), ?_, fun x hx ho => ?_, fun x hx => ?_⟩
    · rw [g2.size]; exact Nat.le_trans hb2.out.1.size HW3.out.size
    · exact (hst x (by omega)).trans ((HW3.out.block x (by omega) ho (by omega)).trans (hb2.out.1.block x hx))
    · rcases HW3.out.own x hx with h1 | h1
      · exact .inl h1
      · right; omega
end Go.Proofs.YthokoimoiamddaaGreatDoor
set_option linter.unusedSimpArgs false
set_option linter.unusedVariables false
namespace Go.Proofs.YthokoimoiamddaaGreatDoor
open Go Go.RowKit

/-- The other log's files on the disk: all safe, none of them this log's. -/
structure Oth (nm : ByteArray) (vo : Vw) (ko : List ByteArray) : Prop where
  safe : ∀ k p, vo k = some p → p.2 = []
  fore : ∀ k, (vo k).isSome = true → Foreign nm k
  nodup : ko.Nodup
  mem : ∀ k, k ∈ ko ↔ (vo k).isSome = true
theorem Oth.path {nm : ByteArray} {vo : Vw} {ko : List ByteArray} (h : Oth nm vo ko) (n : Nat) : vo (pathB nm n) = none := by
  cases hv : vo (pathB nm n) with
  | none => rfl
  | some p => exact absurd rfl (foreign_path (h.fore _ (by rw [hv]; rfl)) n)
/-- Which file is written, and its bytes. -/
def FileIs (ns : List Nat) (file size : Nat) (fr : List Fr) : Prop := ((ns = [] ∧ file = 0 ∧ size = 0) ∨ (file ∈ ns ∧ ∀ m ∈ ns, m ≤ file)) ∧ size = (dataOf sumB fr file).length
/-- A log, plainly: j calls have been made, each of at most q bytes. -/
structure LgP (nm : ByteArray) (vo : Vw) (ko : List ByteArray) (f : Fnd) (safe j q : Nat) (seg file size : Nat) (v : Vw) (t : Int) (n : Nat) (ns : List Nat) (sa : List Fr) (lo : List Lf) : Prop where
  lay : Lay sumB (pathB nm) v vo ns sa lo t
  hf : fndL ((sa ++ lo.map Lf.fr).map (·.2)) = f
  hsafe : (fndL (sa.map (·.2))).recs.length = safe
  recs : ∀ x ∈ lo, ∃ p, x.2.1 = 0 :: p
  hfile : FileIs ns file size (sa ++ lo.map Lf.fr)
  hn : n = ns.length + ko.length
  few : n ≤ 64
  fj : file ≤ j
  tj : t ≤ 100 + j
  tot : totL lo ≤ q * j
  hseg : 16 ≤ seg ∧ seg ≤ 1048576
  hsize : size ≤ 1048576
  cnt : f.recs.length ≤ j
def Lg (base : Nat) (w : World) (g B : Nat) (nm : ByteArray) (s : St) (vo : Vw) (ko : List ByteArray) (f : Fnd) (safe j q : Nat) : Prop := ∃ seg file size v t n ns sa lo, Wk base w g B nm seg file size f.recs.length safe v t n s ∧ LgP nm vo ko f safe j q seg file size v t n ns sa lo

section
variable {base g B safe j q seg file size n : Nat} {w w' : World} {nm : ByteArray} {s s' : St} {vo v : Vw} {ko : List ByteArray} {f : Fnd} {t : Int} {ns : List Nat} {sa : List Fr} {lo : List Lf}
theorem LgP.names (h : LgP nm vo ko f safe j q seg file size v t n ns sa lo) (ho : Oth nm vo ko) : NmAt (fun k => (v k).isSome) nm ns := by
  refine ⟨fun k hk => ?_, fun m hm => by rw [h.lay.key m hm]; rfl, h.lay.inc, h.lay.bnd⟩
  by_cases hc : ∃ m ∈ ns, k = pathB nm m
  · exact .inl hc
  · right
    have h1 := h.lay.other k fun m hm e => hc ⟨m, hm, e⟩
    rw [h1] at hk
    exact ho.fore k hk
theorem inc_len : ∀ (ns : List Nat) (a b : Nat), ns.Pairwise (· < ·) → (∀ x ∈ ns, a ≤ x ∧ x ≤ b) → ns.length ≤ b + 1 - a
  | [], a, b, _, _ => by simp
  | x :: ns, a, b, h, hx => by
    have h1 := inc_len ns (x + 1) b (List.pairwise_cons.1 h).2 fun y hy => ⟨(List.pairwise_cons.1 h).1 y hy, (hx y (by simp [hy])).2⟩
    have h2 := hx x (by simp)
    simp only [List.length_cons]
    omega
/-- A disk that is full holds many files of the log. -/
theorem LgP.cap (h : LgP nm vo ko f safe j q seg file size v t n ns sa lo) (hn : n = 64) : 64 ≤ j + 1 + ko.length := by
  have h1 := inc_len ns 0 j h.lay.inc fun x hx => ⟨Nat.zero_le _, by
    have h2 := h.fj
    rcases h.hfile.1 with h3 | h3
    · rw [h3.1] at hx; simp at hx
    · have := h3.2 x hx; omega⟩
  have := h.hn
  omega
theorem Lg.below (h : Lg base w g B nm s vo ko f safe j q) (hb : Below w.heap.size w w') : Lg base w' g B nm s vo ko f safe j q := by
  obtain ⟨seg, file, size, v, t, n, ns, sa, lo, h, hp⟩ := h
  exact ⟨seg, file, size, v, t, n, ns, sa, lo, h.below hb, hp⟩
theorem appV_twice (v : Vw) (t : Int) (k : ByteArray) (bs : List UInt8) (h : v k = none) : appV (appV v t k []) t k bs = appV v t k bs := by
  funext k'
  unfold appV
  by_cases e : k' = k
  · subst e; simp [h]
  · simp [e]
theorem fndL_snoc (l : List (List UInt8)) (p : List UInt8) : fndL (l ++ [p]) = fnd1 (fndL l) p := by simp [fndL]
theorem path_small {nm : ByteArray} : ∀ a b, a < 100 → b < 100 → pathB nm a = pathB nm b → a = b := fun a b ha hb e => path_inj nm a b ha hb e
/-- One more record, in whatever file it goes. -/
theorem LgP.putAt (h : LgP nm vo ko f safe j q seg file size v t n ns sa lo) {v1 : Vw} {ns' : List Nat} {file' size0 n' : Nat} (hlay : Lay sumB (pathB nm) v1 vo ns' sa lo t) (p : List UInt8) (hpl : p.length ≤ 600000) (hq : p.length + 9 ≤ q)
    (hf : file' ∈ ns') (hmax : ∀ m ∈ ns', m ≤ file') (hdat : size0 = (dataOf sumB (sa ++ lo.map Lf.fr) file').length) (hn' : n' = ns'.length + ko.length) (hfew : n' ≤ 64) (hfj : file' ≤ j + 1) (hsz : size0 + (p.length + 9) ≤ 1048576) :
    LgP nm vo ko ⟨f.whole, f.shot, f.recs ++ [p]⟩ safe (j + 1) q seg file' (size0 + (p.length + 9)) (appV v1 t (pathB nm file') (frameP sumB (0 :: p))) (t + 1) n' ns' sa (lo ++ [(file', 0 :: p, t + 1)]) := by
  have e0 : sa ++ (lo ++ [(file', (0 : UInt8) :: p, t + 1)]).map Lf.fr = (sa ++ lo.map Lf.fr) ++ [(file', 0 :: p)] := by simp [Lf.fr]
  refine ⟨hlay.put path_small hf hmax (0 :: p) (by simp) (by simp; omega), ?_, h.hsafe, fun x hx => ?_, ⟨.inr ⟨hf, hmax⟩, ?_⟩, hn', hfew, hfj, by have := h.tj; push_cast; omega, ?_, h.hseg, hsz, by have := h.cnt; simp; omega⟩
  · rw [e0, List.map_append, List.map_cons, List.map_nil, fndL_snoc, h.hf]
    rfl
  · rcases List.mem_append.1 hx with hx | hx
    · exact h.recs x hx
    · simp only [List.mem_singleton] at hx; subst hx; exact ⟨p, rfl⟩
  · rw [e0, dataOf_snoc, List.length_append, ← hdat, frameP_length, List.length_cons]
  · rw [totL_append]
    have h1 : totL [(file', (0 : UInt8) :: p, t + 1)] = (p.length : Int) + 9 := by simp [totL, openOf, pc]; omega
    have h2 := h.tot
    rw [h1]
    have h3 : (q : Int) * ((j + 1 : Nat) : Int) = q * j + q := by push_cast; rw [Int.mul_add, Int.mul_one]
    omega
theorem Lay.new_none (h : Lay sumB (pathB nm) v vo ns sa lo t) (ho : Oth nm vo ko) (m : Nat) (hm : m < 100) (hn : m ∉ ns) : v (pathB nm m) = none := by
  rw [h.other _ fun x hx e => ?_, ho.path m]
  have := path_inj nm m x hm (h.bnd x hx) e
  subst this
  exact hn hx
theorem no_data {fr : List Fr} {m : Nat} (h : ∀ x ∈ fr, x.1 ≠ m) : dataOf sumB fr m = [] := by
  unfold dataOf
  rw [pays_none h]
  rfl

set_option maxHeartbeats 1000000 in
/-- Append: the record is there; or there is no room for a new file, and nothing has turned. -/
theorem lg_append (h : Lg base w g B nm s vo ko f safe j q) (hp : PathOK nm) (ho : Oth nm vo ko) (A : Option Addr) (m c : Nat) (p : List UInt8) (hpm : p.length = m) (hA : BytesAt w A p) (hm : m ≤ 65536) (hq : m + 9 ≤ q) (hj : j < 98) (hko : ko.length < 64) :
    Calls Tryz.prog 12 #[.pointer (some ⟨g, 0, none⟩), .slice A m c] w fun e w' =>
      (e = .returned .nilIface ∧ ∃ s', Lg base w' g B nm s' vo ko ⟨f.whole, f.shot, f.recs ++ [p]⟩ safe (j + 1) q ∧ WFr g s s' w w') ∨
      (e = .returned (.iface 42 (.int .i64 11)) ∧ Below w.heap.size w w' ∧ 64 ≤ j + 1 + ko.length ∧ ∃ v t, Dk base w B v t 64 s) := by
  obtain ⟨seg, file, size, v, t, n, ns, sa, lo, hk, hl⟩ := h
  have hfj := hl.fj
  have hcnt := hl.cnt
  have htj := hl.tj
  have hsz := hl.hsize
  have hsg := hl.hseg.2
  by_cases hroll : 0 < size ∧ seg < size + (m + 9)
  · have hin : file ∈ ns ∧ ∀ x ∈ ns, x ≤ file := by
      rcases hl.hfile.1 with h1 | h1
      · omega
      · exact h1
    have hnew : file + 1 ∉ ns := fun h1 => by have := hin.2 _ h1; omega
    have hv := hl.lay.new_none ho (file + 1) (by omega) hnew
    by_cases hn : n < 64
    · have hw := write_roll base g B seg file size f.recs.length safe n nm v t s 0 A m c p false hpm w hA (by omega) hk hp (by omega) hsz hsg (by omega) (.inr ⟨rfl, hroll⟩) hn hv
      refine (app_ok A m c hm (by omega) hw).mono ?_
      rintro e w' ⟨rfl, s', h1, h2⟩
      refine .inl ⟨rfl, s', ⟨seg, file + 1, m + 9, _, _, _, ns ++ [file + 1], sa, lo ++ [(file + 1, 0 :: p, t + 1)], by simpa using h1, ?_⟩, h2⟩
      have h3 := hl.putAt (hl.lay.fresh path_small (by omega) (fun x hx => by have := hin.2 x hx; omega) (ho.path (file + 1))) p (by omega) (by omega) (file' := file + 1) (size0 := 0) (n' := n + 1) (by simp) (fun x hx => by
        rcases List.mem_append.1 hx with hx | hx
        · have := hin.2 x hx; omega
        · simp at hx; omega) (by rw [no_data fun x hx e => ?_]; rfl; exact hnew (e ▸ hl.lay.mem x hx)) (by have := hl.hn; simp; omega) (by omega) (by omega) (by omega)
      rw [hpm, Nat.zero_add] at h3
      exact h3
    · have hn64 : n = 64 := by have := hl.few; omega
      have hw := write_full base g B seg file size f.recs.length safe n nm v t s 0 A m c p false hpm w hA (by omega) hk hp (by omega) hsz hsg (by omega) (.inr ⟨rfl, hroll⟩) (by omega) hv
      refine (app_full A m c hm hw).mono ?_
      rintro e w' ⟨rfl, hb⟩
      have hcp := hl.cap hn64
      subst hn64
      exact .inr ⟨rfl, hb, hcp, v, t, hk.dk⟩
  · have hst : size = 0 ∨ 0 < size ∧ size + (m + 9) ≤ seg := by omega
    rcases hl.hfile.1 with ⟨h1, h2, h3⟩ | ⟨h1, h2⟩
    · subst h1 h2 h3
      have hv := hl.lay.new_none ho 0 (by omega) (by simp)
      have hn0 : n = ko.length := by have := hl.hn; simpa using this
      have hw := write_stay base g B seg 0 0 f.recs.length safe n nm v t s 0 A m c p false hpm w hA (by omega) hk hp (by omega) hsz hsg (by omega) rfl hst ⟨fun q hq => (by rw [hv] at hq; cases hq), fun _ => by omega⟩
      refine (app_ok A m c hm (by omega) hw).mono ?_
      rintro e w' ⟨rfl, s', h4, h5⟩
      rw [hv] at h4
      refine .inl ⟨rfl, s', ⟨seg, 0, 0 + (m + 9), _, _, _, [0], sa, lo ++ [(0, 0 :: p, t + 1)], by simpa using h4, ?_⟩, h5⟩
      have h6 := hl.putAt (hl.lay.fresh path_small (n := 0) (by omega) (by simp) (ho.path 0)) p (by omega) (by omega) (file' := 0) (size0 := 0) (n' := n + 1) (by simp) (by simp) (by rw [no_data fun x hx _ => ?_]; rfl; exact absurd (hl.lay.mem x hx) (by simp)) (by simp; omega) (by omega) (by omega) (by omega)
      rw [appV_twice _ _ _ _ hv, hpm] at h6
      simpa using h6
    · have hvk := hl.lay.key file h1
      have hlen := hl.hfile.2
      have hw := write_stay base g B seg file size f.recs.length safe n nm v t s 0 A m c p false hpm w hA (by omega) hk hp (by omega) hsz hsg (by omega) rfl hst ⟨fun q hq => (by rw [hvk] at hq; cases hq; simp only; omega), fun h => (by rw [hvk] at h; cases h)⟩
      refine (app_ok A m c hm (by omega) hw).mono ?_
      rintro e w' ⟨rfl, s', h4, h5⟩
      rw [hvk] at h4
      refine .inl ⟨rfl, s', ⟨seg, file, size + (m + 9), _, _, _, ns, sa, lo ++ [(file, 0 :: p, t + 1)], by simpa using h4, ?_⟩, h5⟩
      have h6 := hl.putAt hl.lay p (by omega) (by omega) h1 h2 hlen hl.hn hl.few (by omega) (by omega)
      rw [hpm] at h6
      exact h6
end
end Go.Proofs.YthokoimoiamddaaGreatDoor
set_option linter.unusedSimpArgs false
set_option linter.unusedVariables false
namespace Go.Proofs.YthokoimoiamddaaGreatDoor
open Go Go.RowKit

section
variable {base g B safe j q seg file size n : Nat} {w w' : World} {nm : ByteArray} {s s' : St} {vo v : Vw} {ko : List ByteArray} {f : Fnd} {t : Int} {ns : List Nat} {sa : List Fr} {lo : List Lf}
theorem LgP.synced (h : LgP nm vo ko f safe j q seg file size v t n ns sa lo) (ho : Oth nm vo ko) : LgP nm vo ko f f.recs.length j q seg file size (syncV v) t n ns (sa ++ lo.map Lf.fr) [] :=
  ⟨h.lay.sync ho.safe, by simpa using h.hf, by rw [h.hf], by simp, by simpa using h.hfile, h.hn, h.few, h.fj, h.tj, by simp [totL, openOf]; exact Int.mul_nonneg (by omega) (by omega), h.hseg, h.hsize, h.cnt⟩
theorem lg_sync (h : Lg base w g B nm s vo ko f safe j q) (ho : Oth nm vo ko) :
    Calls Tryz.prog 13 #[.pointer (some ⟨g, 0, none⟩)] w fun e w' => e = .returned .nilIface ∧ ∃ s', Lg base w' g B nm s' vo ko f f.recs.length j q ∧ WFr g s s' w w' := by
  obtain ⟨seg, file, size, v, t, n, ns, sa, lo, hk, hl⟩ := h
  refine (wsync_any hk).mono ?_
  rintro e w' ⟨rfl, s', h1, h2⟩
  exact ⟨rfl, s', ⟨seg, file, size, _, _, _, ns, _, [], h1, hl.synced ho⟩, h2⟩
theorem lg_len (h : Lg base w g B nm s vo ko f safe j q) : Calls Tryz.prog 18 #[.pointer (some ⟨g, 0, none⟩)] w fun e w' => e = .returned (.int .i64 f.recs.length) ∧ w = w' := by
  obtain ⟨seg, file, size, v, t, n, ns, sa, lo, hk, hl⟩ := h
  exact len_any hk.lg
theorem lg_safe (h : Lg base w g B nm s vo ko f safe j q) : Calls Tryz.prog 19 #[.pointer (some ⟨g, 0, none⟩)] w fun e w' => e = .returned (.int .i64 safe) ∧ w = w' := by
  obtain ⟨seg, file, size, v, t, n, ns, sa, lo, hk, hl⟩ := h
  exact safe_any hk.lg
/-- Files that are gone. -/
theorem Lay.drops (h : Lay sumB (pathB nm) v vo ns sa [] t) (ho : Oth nm vo ko) (l : List Nat) (hl : ∀ x ∈ l, x < 100) : Lay sumB (pathB nm) (dropsV nm v l) vo (ns.filter fun m => decide (m ∉ l)) (sa.filter fun x => decide (x.1 ∉ l)) [] t := by
  induction l generalizing v ns sa with
  | nil =>
    have e1 : (ns.filter fun m => decide (m ∉ ([] : List Nat))) = ns := List.filter_eq_self.2 (by simp)
    have e2 : (sa.filter fun x => decide (x.1 ∉ ([] : List Nat))) = sa := List.filter_eq_self.2 (by simp)
    rw [e1, e2]
    exact h
  | cons x l ih =>
    have h1 := h.drop path_small (hl x (by simp)) (ho.path x)
    have h2 := ih h1 fun y hy => hl y (by simp [hy])
    have e1 : (ns.filter fun m => decide (m ≠ x)).filter (fun m => decide (m ∉ l)) = ns.filter fun m => decide (m ∉ x :: l) := by
      rw [List.filter_filter]
      refine List.filter_congr fun m _ => ?_
      by_cases a : m = x <;> by_cases b : m ∈ l <;> simp [a, b]
    have e2 : (sa.filter fun y => decide (y.1 ≠ x)).filter (fun y => decide (y.1 ∉ l)) = sa.filter fun y => decide (y.1 ∉ x :: l) := by
      rw [List.filter_filter]
      refine List.filter_congr fun y _ => ?_
      by_cases a : y.1 = x <;> by_cases b : y.1 ∈ l <;> simp [a, b]
    rw [e1, e2] at h2
    exact h2
set_option maxHeartbeats 1000000 in
/-- A snapshot in the place of all frames. -/
theorem LgP.checked (h : LgP nm vo ko f safe j q seg file size v t n ns sa lo) (ho : Oth nm vo ko) (p : List UInt8) (hpl : p.length ≤ 600000) (hj : j < 98) (hn : n < 64) (hin : ∀ x ∈ ns, x ≤ file) :
    LgP nm vo ko ⟨true, p, []⟩ 0 (j + 1) q seg (file + 1) (p.length + 9) (dropsV nm (syncV (appV (appV v t (pathB nm (file + 1)) []) t (pathB nm (file + 1)) (frameP sumB (1 :: p)))) ns) (t + 1) (n + 1 - ns.length) [file + 1] [(file + 1, 1 :: p)] [] := by
  have hfj := h.fj
  have h1 := h.lay.fresh path_small (n := file + 1) (by omega) (fun x hx => by have := hin x hx; omega) (ho.path (file + 1))
  have h2 := h1.put path_small (n := file + 1) (by simp) (fun x hx => by
    rcases List.mem_append.1 hx with hx | hx
    · have := hin x hx; omega
    · simp at hx; omega) (1 :: p) (by simp) (by simp; omega)
  have h3 := (h2.sync ho.safe).drops ho ns h.lay.bnd
  have e1 : (ns ++ [file + 1]).filter (fun m => decide (m ∉ ns)) = [file + 1] := by
    rw [List.filter_append, List.filter_eq_nil_iff.2 (fun x hx => by simp [hx]), List.nil_append]
    have : file + 1 ∉ ns := fun hx => by have := hin _ hx; omega
    simp [this]
  have e2 : (sa ++ (lo ++ [(file + 1, (1 : UInt8) :: p, t + 1)]).map Lf.fr).filter (fun x => decide (x.1 ∉ ns)) = [(file + 1, 1 :: p)] := by
    rw [List.map_append, ← List.append_assoc, List.filter_append, List.filter_eq_nil_iff.2 (fun x hx => by simp [h.lay.mem x hx]), List.nil_append]
    have : file + 1 ∉ ns := fun hx => by have := hin _ hx; omega
    simp [Lf.fr, this]
  rw [e1, e2] at h3
  have hnn := h.hn
  refine ⟨h3, rfl, rfl, by simp, ⟨.inr ⟨by simp, by simp⟩, ?_⟩, by simp; omega, by omega, by omega, by have := h.tj; push_cast; omega, by simp [totL, openOf]; exact Int.mul_nonneg (by omega) (by omega), h.hseg, by omega, by simp⟩
  show _ = (dataOf sumB [(file + 1, 1 :: p)] (file + 1)).length
  have := dataOf_snoc (sm := sumB) [] (file + 1) (1 :: p)
  rw [List.nil_append] at this
  rw [this, List.length_append, frameP_length]
  simp [dataOf, pays, framesP]
set_option maxHeartbeats 1000000 in
/-- Checkpoint: the snapshot stands alone; or there is no room for a new file, and nothing has turned. -/
theorem lg_check (h : Lg base w g B nm s vo ko f safe j q) (hp : PathOK nm) (ho : Oth nm vo ko) (A : Option Addr) (m c : Nat) (p : List UInt8) (hpm : p.length = m) (hA : BytesAt w A p) (hm : m ≤ 524288) (hj : j < 98) :
    Calls Tryz.prog 10 #[.pointer (some ⟨g, 0, none⟩), .slice A m c] w fun e w' =>
      (e = .returned .nilIface ∧ ∃ s', Lg base w' g B nm s' vo ko ⟨true, p, []⟩ 0 (j + 1) q ∧ WFr g s s' w w') ∨
      (e = .returned (.iface 42 (.int .i64 11)) ∧ Below w.heap.size w w' ∧ 64 ≤ j + 1 + ko.length ∧ ∃ v t, Dk base w B v t 64 s) := by
  obtain ⟨seg, file, size, v, t, n, ns, sa, lo, hk, hl⟩ := h
  have hfj := hl.fj
  have hcnt := hl.cnt
  have htj := hl.tj
  have hsz := hl.hsize
  have hsg := hl.hseg.2
  have hin : ∀ x ∈ ns, x ≤ file := by
    rcases hl.hfile.1 with h1 | h1
    · intro x hx; rw [h1.1] at hx; simp at hx
    · exact h1.2
  have hnew : file + 1 ∉ ns := fun h1 => by have := hin _ h1; omega
  have hv := hl.lay.new_none ho (file + 1) (by omega) hnew
  by_cases hn : n < 64
  · have hw : ∀ (W : World) (hW : Below w.heap.size w W), Calls Tryz.prog 27 #[.pointer (some ⟨g, 0, none⟩), .int .u8 1, .slice A m c, .bool true] W fun e w' => e = .returned .nilIface ∧ ∃ s', Wk base w' g B nm seg (file + 1) (m + 9) f.recs.length safe (appV (appV v t (pathB nm (file + 1)) []) t (pathB nm (file + 1)) (frameP sumB (1 :: p))) (t + 1) (n + 1) s' ∧ WFr g s s' W w' := fun W hW => write_roll base g B seg file size f.recs.length safe n nm v t s 1 A m c p true hpm W (hA.below hW) (by omega) (hk.below hW) hp (by omega) hsz hsg (by omega) (.inl rfl) hn hv
    have hsome : ∀ x ∈ ns, (appV (appV v t (pathB nm (file + 1)) []) t (pathB nm (file + 1)) (frameP sumB (1 :: p)) (pathB nm x)).isSome = true := fun x hx => by
      have hne : pathB nm x ≠ pathB nm (file + 1) := fun e => by
        have := path_inj nm x (file + 1) (hl.lay.bnd x hx) (by omega) e
        have := hin x hx; omega
      unfold appV
      rw [if_neg hne, if_neg hne, hl.lay.key x hx]
      rfl
    have hc := chk_ok base g B seg file size f.recs.length safe n _ _ _ nm v _ t _ s ns A m c w hk hm hl.few (hl.names ho) hp hw hsome
    refine hc.mono ?_
    rintro e w' ⟨rfl, s', h1, h2⟩
    have h3 := hl.checked ho p (by omega) hj hn hin
    rw [hpm] at h3
    exact .inl ⟨rfl, s', ⟨seg, file + 1, m + 9, _, _, _, [file + 1], _, [], h1, h3⟩, h2⟩
  · have hn64 : n = 64 := by have := hl.few; omega
    have hw : ∀ (W : World) (hW : Below w.heap.size w W), Calls Tryz.prog 27 #[.pointer (some ⟨g, 0, none⟩), .int .u8 1, .slice A m c, .bool true] W fun e w' => e = .returned (.iface 42 (.int .i64 11)) ∧ Below W.heap.size W w' := fun W hW => write_full base g B seg file size f.recs.length safe n nm v t s 1 A m c p true hpm W (hA.below hW) (by omega) (hk.below hW) hp (by omega) hsz hsg (by omega) (.inl rfl) (by omega) hv
    have hw2 : ∀ W, Below w.heap.size w W → Calls Tryz.prog 27 #[.pointer (some ⟨g, 0, none⟩), .int .u8 1, .slice A m c, .bool true] W fun e w' => e = .returned (.iface 42 (.int .i64 11)) ∧ Below w.heap.size w w' := fun W hW => (hw W hW).mono fun e w' ⟨h1, h2⟩ => ⟨h1, hW.trans (h2.mono hW.size)⟩
    refine (chk_full base g B seg file size f.recs.length safe n nm v t s ns A m c w hk hm hl.few (hl.names ho) hp hw2).mono ?_
    rintro e w' ⟨rfl, hb⟩
    have hcp := hl.cap hn64
    subst hn64
    exact .inr ⟨rfl, hb, hcp, v, t, hk.dk⟩
end
end Go.Proofs.YthokoimoiamddaaGreatDoor
set_option linter.unusedSimpArgs false
set_option linter.unusedVariables false
namespace Go.Proofs.YthokoimoiamddaaGreatDoor
open Go Go.RowKit

/-- A disk on which nothing of the log is loose: what an Open would find. -/
def LgD (base : Nat) (w : World) (B : Nat) (nm : ByteArray) (s : St) (vo : Vw) (ko : List ByteArray) (f : Fnd) (j : Nat) : Prop :=
  ∃ v t n ns sa nx tear, Dk base w B v t n s ∧ Torn sumB (pathB nm) v vo ns sa nx tear ∧ fndL (sa.map (·.2)) = f ∧ ErrS w ∧ 1 < base ∧ n = ns.length + ko.length ∧ n ≤ 64 ∧ (∀ x ∈ ns, x ≤ j) ∧ t ≤ 100 + j ∧ f.recs.length ≤ j
section
variable {base g B safe j q seg file size n : Nat} {w w' : World} {nm : ByteArray} {s s' : St} {vo v : Vw} {ko : List ByteArray} {f : Fnd} {t : Int} {ns : List Nat} {sa : List Fr} {lo : List Lf}
theorem LgD.below (h : LgD base w B nm s vo ko f j) (hb : Below w.heap.size w w') : LgD base w' B nm s vo ko f j := by
  obtain ⟨v, t, n, ns, sa, nx, tear, h1, h2, h3, h4, h5⟩ := h
  exact ⟨v, t, n, ns, sa, nx, tear, h1.below hb, h2, h3, h4.below hb, h5⟩
theorem LgP.le (h : LgP nm vo ko f safe j q seg file size v t n ns sa lo) : ∀ x ∈ ns, x ≤ j := by
  have h1 := h.fj
  rcases h.hfile.1 with h2 | h2
  · intro x hx; rw [h2.1] at hx; simp at hx
  · intro x hx; have := h2.2 x hx; omega
theorem LgP.rest (h : LgP nm vo ko f safe j q seg file size v t n ns sa []) (hk : Dk base w B v t n s) (hE : ErrS w) (hten : 1 < base) : LgD base w B nm s vo ko f j :=
  ⟨v, t, n, ns, sa, 0, [], hk, h.lay.still, by simpa using h.hf, hE, hten, h.hn, h.few, h.le, h.tj, h.cnt⟩
theorem lg_sync_d (h : Lg base w g B nm s vo ko f safe j q) (ho : Oth nm vo ko) :
    Calls Tryz.prog 13 #[.pointer (some ⟨g, 0, none⟩)] w fun e w' => e = .returned .nilIface ∧ ∃ s', Lg base w' g B nm s' vo ko f f.recs.length j q ∧ LgD base w' B nm s' vo ko f j ∧ WFr g s s' w w' := by
  obtain ⟨seg, file, size, v, t, n, ns, sa, lo, hk, hl⟩ := h
  refine (wsync_any hk).mono ?_
  rintro e w' ⟨rfl, s', h1, h2⟩
  exact ⟨rfl, s', ⟨seg, file, size, _, _, _, ns, _, [], h1, hl.synced ho⟩, (hl.synced ho).rest h1.dk h1.err h1.ten, h2⟩
/-- The names on the disk. -/
theorem all_keys (ho : Oth nm vo ko) (hk : ∀ k, (∀ n ∈ ns, k ≠ pathB nm n) → v k = vo k) (hs : ∀ n ∈ ns, (v (pathB nm n)).isSome = true) (hi : ns.Pairwise (· < ·)) (hb : ∀ n ∈ ns, n < 100) :
    (ns.map (pathB nm) ++ ko).Nodup ∧ ∀ k, k ∈ ns.map (pathB nm) ++ ko ↔ (v k).isSome = true := by
  refine ⟨?_, fun k => ?_⟩
  · rw [List.nodup_append]
    refine ⟨?_, ho.nodup, fun a ha b hb2 e => ?_⟩
    · rw [List.nodup_iff_pairwise_ne, List.pairwise_map]
      exact hi.imp_of_mem fun {a b} ha hb2 hab e => by have := path_inj nm a b (hb a ha) (hb b hb2) e; omega
    · obtain ⟨x, hx, rfl⟩ := List.mem_map.1 ha
      subst e
      have := (ho.mem _).1 hb2
      rw [ho.path x] at this
      cases this
  · rw [List.mem_append, List.mem_map]
    constructor
    · rintro (⟨x, hx, rfl⟩ | h)
      · exact hs x hx
      · rw [hk k fun n hn e => ?_]
        · exact (ho.mem k).1 h
        · subst e
          have := (ho.mem _).1 h
          rw [ho.path n] at this
          cases this
    · intro h
      by_cases hc : ∃ x ∈ ns, k = pathB nm x
      · obtain ⟨x, hx, e⟩ := hc
        exact .inl ⟨x, hx, e.symm⟩
      · right
        rw [hk k fun n hn e => hc ⟨n, hn, e⟩] at h
        exact (ho.mem k).2 h
theorem lo_sorted (h : Lay sumB (pathB nm) v vo ns sa lo t) : (∀ x ∈ lo, x.1 ∈ ns) ∧ (lo.map (·.1)).Pairwise (· ≤ ·) := by
  refine ⟨fun x hx => h.mem (Lf.fr x) (List.mem_append_right _ (List.mem_map.2 ⟨x, hx, rfl⟩)), ?_⟩
  have h1 := h.ord
  rw [List.map_append, List.pairwise_append] at h1
  have h2 := h1.2.1
  rw [List.map_map] at h2
  exact h2
theorem flat_other {α : Type} (l : List ByteArray) (F : ByteArray → List α) (h : ∀ k ∈ l, F k = []) : l.flatMap F = [] := by
  induction l with
  | nil => rfl
  | cons k l ih => rw [List.flatMap_cons, h k (by simp), ih fun x hx => h x (by simp [hx])]; rfl
theorem loose_all (ho : Oth nm vo ko) (h : Lay sumB (pathB nm) v vo ns sa lo t) : (ns.map (pathB nm) ++ ko).flatMap (looseV v) = lo.map pc := by
  have hko : ∀ k ∈ ko, looseV v k = [] := fun k hk => by
    have h1 := (ho.mem k).1 hk
    have h2 := h.other k fun n hn e => by subst e; rw [ho.path n] at h1; cases h1
    unfold looseV
    rw [h2]
    cases hv : vo k with
    | none => rfl
    | some p => exact ho.safe k p hv
  rw [List.flatMap_append, flat_other ko _ hko, List.append_nil, List.flatMap_map]
  have e : ns.flatMap (fun a => looseV v (pathB nm a)) = ns.flatMap (pcs lo) := by
    rw [List.flatMap_def, List.flatMap_def]
    congr 1
    refine List.map_congr_left fun n hn => ?_
    unfold looseV
    rw [h.key n hn]
  obtain ⟨h1, h2⟩ := lo_sorted h
  rw [e, flat_pcs ns h.inc lo h1 h2]
theorem open_all (ho : Oth nm vo ko) (h : Lay sumB (pathB nm) v vo ns sa lo t) : ((ns.map (pathB nm) ++ ko).map (openV v)).sum = totL lo := by
  have h1 := openOf_flat (ns.map (pathB nm) ++ ko) (looseV v)
  rw [loose_all ho h] at h1
  rw [totL, h1]
  congr 1
  exact List.map_congr_left fun k _ => (openV_loose v k).symm
theorem lg_loose (h : Lg base w g B nm s vo ko f safe j q) (ho : Oth nm vo ko) : ∃ z : Int, 0 ≤ z ∧ z ≤ q * j ∧ Calls Tryz.prog 54 #[.pointer (some ⟨B, 0, none⟩)] w (fun e w' => e = .returned (.int .i64 z) ∧ Below w.heap.size w w') ∧
    ∀ (W : World) (K : Int), Below w.heap.size w W → 0 ≤ K → K ≤ 9223372036854775807 → (q : Int) * j ≤ 1000000 → j ≤ 1000000 → Calls Tryz.prog 23 #[.pointer (some ⟨B, 0, none⟩), .int .i64 K] W fun e w' => e = .returned .nilIface ∧
      ∃ s' k, LgD base w' B nm s' vo ko ⟨f.whole, f.shot, f.recs.take k⟩ j ∧ Frame s s' W w' ∧ safe ≤ k ∧ k ≤ f.recs.length ∧ (z ≤ K → k = f.recs.length) ∧ (K = 0 → k = safe) := by
  obtain ⟨seg, file, size, v, t, n, ns, sa, lo, hk, hl⟩ := h
  obtain ⟨n1, n2⟩ := all_keys ho hl.lay.other (fun m hm => by rw [hl.lay.key m hm]; rfl) hl.lay.inc hl.lay.bnd
  have hop := open_all ho hl.lay
  refine ⟨totL lo, totL_nonneg lo, hl.tot, ?_, ?_⟩
  · have := dk_loose hk.dk n1 n2
    rw [hop] at this
    exact this
  · intro W K hW hK hK2 hqj hj
    have htj := hl.tj
    have htot := hl.tot
    refine (dk_crash (hk.below hW).dk K hK hK2 (by omega) n1 n2 (by rw [hop]; omega)).mono ?_
    rintro e w' ⟨rfl, l', s', hp, hpw, hd, hf, hb⟩
    have hl' : l' = lo.map pc := by
      rw [loose_all ho hl.lay] at hp
      exact sorted_one hp hpw (by rw [List.pairwise_map]; exact hl.lay.turns)
    subst hl'
    obtain ⟨l1, rest, nx, tear, e1, hT, hr1, hr2⟩ := hl.lay.crash ho.safe K hK
    have hrec : ∀ (l : List Lf) (f0 : Fnd), (∀ x ∈ l, ∃ p, x.2.1 = 0 :: p) → ((l.map Lf.fr).map (·.2)).foldl fnd1 f0 = ⟨f0.whole, f0.shot, f0.recs ++ l.map fun x => x.2.1.drop 1⟩ := by
      intro l
      induction l with
      | nil => intro f0 _; simp
      | cons x l ih =>
        intro f0 hx
        obtain ⟨p, hp⟩ := hx x (by simp)
        simp only [List.map_cons, List.foldl_cons]
        rw [ih _ fun y hy => hx y (by simp [hy])]
        have : fnd1 f0 (Lf.fr x).2 = ⟨f0.whole, f0.shot, f0.recs ++ [p]⟩ := by simp only [Lf.fr, hp]; rfl
        rw [this, hp]
        simp
    have h1 := hl.hf
    rw [List.map_append, fndL_append, hrec lo _ hl.recs] at h1
    have h2 : fndL ((sa ++ l1.map Lf.fr).map (·.2)) = ⟨f.whole, f.shot, f.recs.take (safe + l1.length)⟩ := by
      rw [List.map_append, fndL_append, hrec l1 _ fun x hx => hl.recs x (by rw [e1]; simp [hx]), ← h1]
      simp only [Fnd.mk.injEq, true_and]
      rw [e1, List.map_append, ← List.append_assoc]
      have h3 : ((fndL (sa.map (·.2))).recs ++ l1.map fun x => x.2.1.drop 1).length = safe + l1.length := by rw [List.length_append, hl.hsafe, List.length_map]
      rw [← h3, List.take_left' rfl]
    have hlen : f.recs.length = safe + lo.length := by
      rw [← h1, List.length_append, hl.hsafe, List.length_map]
    have hlo : lo.length = l1.length + rest.length := by rw [e1, List.length_append]
    have hten := hk.ten
    refine ⟨rfl, s', safe + l1.length, ⟨_, t, n, ns, _, nx, tear, hd, hT, h2, ?_, hten, hl.hn, hl.few, hl.le, hl.tj, ?_⟩, hf, by omega, by omega, fun h4 => ?_, fun h4 => ?_⟩
    · refine (hk.err.below hW).keep fun x hx hlt => hf.block x hlt fun hso => ?_
      have := hk.dk.at_.low x hso
      omega
    · simp only [List.length_take]
      have := hl.cnt
      omega
    · rw [hr1 h4] at hlo; simp at hlo; omega
    · rw [hr2 h4] at hlo ⊢; simp
end
end Go.Proofs.YthokoimoiamddaaGreatDoor
set_option linter.unusedSimpArgs false
set_option linter.unusedVariables false
namespace Go.Proofs.YthokoimoiamddaaGreatDoor
open Go Go.RowKit

theorem fore_path {nm : ByteArray} {vo : Vw} (h : ∀ k, (vo k).isSome = true → Foreign nm k) (n : Nat) : vo (pathB nm n) = none := by
  cases hv : vo (pathB nm n) with
  | none => rfl
  | some p => exact absurd rfl (foreign_path (h _ (by rw [hv]; rfl)) n)
section
variable {base g B safe j q n : Nat} {w w' : World} {nm : ByteArray} {s s' : St} {vo v : Vw} {ko : List ByteArray} {f : Fnd} {t : Int} {ns : List Nat} {sa : List Fr}
theorem lg_openF (h : LgD base w B nm s vo ko f j) (hfo : ∀ k, (vo k).isSome = true → Foreign nm k) (hp : PathOK nm) (seg : Nat) (hr : rightB nm seg = true) (q : Nat) :
    Calls Tryz.prog 9 #[.pointer (some ⟨B, 0, none⟩), .string nm, .int .i64 seg] w fun e w' => ∃ (SV : Value) (A : Option Addr) (k c : Nat) (vs : List Value) (s' : St) (b g : Nat), e = .returned (.tuple #[.pointer (some ⟨g, 0, none⟩), .agg #[.bool f.whole, SV, .slice A k c], .nilIface]) ∧
      Lg base w' g B nm s' vo ko f f.recs.length j q ∧ LgD base w' B nm s' vo ko f j ∧ FndAt w' s' w.heap.size b f SV A k c vs ∧ w.heap.size ≤ g ∧ Frame s s' w w' := by
  obtain ⟨v, t, n, ns, sa, nx, tear, hd, hT, hf, hE, hten, hn, hfew, hle, ht, hc⟩ := h
  have hnm : NmAt (fun k => (v k).isSome) nm ns := by
    refine ⟨fun k hk => ?_, fun m hm => by rw [hT.key m hm]; rfl, hT.inc, hT.bnd⟩
    by_cases hc : ∃ m ∈ ns, k = pathB nm m
    · exact .inl hc
    · right
      have h1 := hT.other k fun m hm e => hc ⟨m, hm, e⟩
      rw [h1] at hk
      exact hfo k hk
  have hfl : (filesD sa nx tear ns).map (·.1) = ns := by
    unfold filesD
    rw [List.map_map]
    exact List.map_id _
  have hfd : ∀ x ∈ filesD sa nx tear ns, FileOK v nm x := by
    intro x hx
    unfold filesD at hx
    obtain ⟨m, hm, rfl⟩ := List.mem_map.1 hx
    refine ⟨⟨[], hT.key m hm⟩, ?_, fun p hp => hT.pay _ (mem_pays hp)⟩
    simp only
    split
    · exact hT.torn
    · exact tornP_nil
  obtain ⟨ns', hfi⟩ := hT.find path_small (fun m _ => fore_path hfo m) t n (by omega)
  obtain ⟨S, hS⟩ : ∃ S, (filesD sa nx tear ns).foldl (stepF sumB (pathB nm)) (startF v n) = S := ⟨_, rfl⟩
  rw [hS] at hfi
  refine (open_ok base B n nm seg v t s _ ns w hd hE hten hr hfew hnm hp hfl hfd S hS).mono ?_
  rintro e w' ⟨SV, A, k, c, vs, s', b, g, rfl, h1, h2, h3, h4⟩
  have hff := hfi.f
  rw [hf] at hff
  rw [hff] at h1 h2 ⊢
  have hseg : 16 ≤ seg ∧ seg ≤ 1048576 := by
    unfold rightB at hr
    simp only [Bool.and_eq_true, decide_eq_true_eq] at hr
    omega
  have hP : LgP nm vo ko f f.recs.length j q seg S.file S.size S.v t S.cnt ns' sa [] := by
    refine ⟨hfi.lay, by simpa using hf, by rw [hf], by simp, ⟨hfi.file, by simpa using hfi.size⟩, by have := hfi.cnt; omega, by have := hfi.cnt; have := hfi.len; omega, ?_, ht, by simp [totL, openOf]; exact Int.mul_nonneg (by omega) (by omega), hseg, ?_, hc⟩
    · rcases hfi.file with h5 | h5
      · omega
      · exact hle _ (hfi.sub _ h5.1)
    · rcases hfi.file with h5 | h5
      · omega
      · have h6 := hfi.lay.key _ h5.1
        have h7 := dk_few h1.dk h6
        rw [hfi.size]
        simpa using h7
  exact ⟨SV, A, k, c, vs, s', b, g, rfl, ⟨seg, S.file, S.size, S.v, t, S.cnt, ns', sa, [], h1, hP⟩, hP.rest h1.dk h1.err h1.ten, h2, h3, h4⟩
theorem lg_open (h : LgD base w B nm s vo ko f j) (ho : Oth nm vo ko) (hp : PathOK nm) (seg : Nat) (hr : rightB nm seg = true) (q : Nat) :
    Calls Tryz.prog 9 #[.pointer (some ⟨B, 0, none⟩), .string nm, .int .i64 seg] w fun e w' => ∃ (SV : Value) (A : Option Addr) (k c : Nat) (vs : List Value) (s' : St) (b g : Nat), e = .returned (.tuple #[.pointer (some ⟨g, 0, none⟩), .agg #[.bool f.whole, SV, .slice A k c], .nilIface]) ∧
      Lg base w' g B nm s' vo ko f f.recs.length j q ∧ LgD base w' B nm s' vo ko f j ∧ FndAt w' s' w.heap.size b f SV A k c vs ∧ w.heap.size ≤ g ∧ Frame s s' w w' := lg_openF h ho.fore hp seg hr q
/-- A disk without files. -/
theorem lgD_new (hd : Dk base w B (fun _ => none) t 0 s) (hE : ErrS w) (hten : 1 < base) (ht : t ≤ 100) (nm : ByteArray) (j : Nat) : LgD base w B nm s (fun _ => none) [] fnd0 j :=
  ⟨_, t, 0, [], [], 0, [], hd, ⟨by simp, fun _ _ => rfl, .nil, by simp, by simp, .nil, by simp, tornP_nil, .inl rfl⟩, rfl, hE, hten, rfl, by decide, by simp, by omega, by simp [fnd0]⟩
theorem oth_none (nm : ByteArray) : Oth nm (fun _ => none) [] := ⟨by simp, by simp, .nil, by simp⟩
end
end Go.Proofs.YthokoimoiamddaaGreatDoor
set_option linter.unusedSimpArgs false
set_option linter.unusedVariables false
namespace Go.Proofs.YthokoimoiamddaaGreatDoor
open Go Go.RowKit

theorem tw_all {α : Type} (p : α → Bool) (l : List α) (b : α) (h : b ∈ l.takeWhile p) : p b = true := by
  induction l with
  | nil => simp at h
  | cons a l ih =>
    rw [List.takeWhile_cons] at h
    split at h
    · rename_i ha
      rcases List.mem_cons.1 h with rfl | h
      · exact ha
      · exact ih h
    · simp at h
theorem nameB_parts {s : ByteArray} (h : nameB s = true) : 1 ≤ s.size ∧ s.size ≤ 16 ∧ ∀ b ∈ s.data.toList, letB (b.toNat : Int) = true := by
  unfold nameB at h
  simp only [Bool.and_eq_true, decide_eq_true_eq] at h
  refine ⟨h.1.1.1, h.1.1.2, ?_⟩
  have h1 := h.2
  unfold runN at h1
  have h2 : s.data.toList.length = s.size := by simp
  rw [List.drop_zero, ← h2] at h1
  have h3 : (s.data.toList.takeWhile fun c => letB (c.toNat : Int)) = s.data.toList := (List.takeWhile_prefix _).eq_of_length h1
  intro b hb
  rw [← h3] at hb
  exact tw_all _ _ b hb
theorem letB_ok {c : Int} (h : letB c = true) : okB c = true := by
  unfold letB at h
  unfold okB
  simp only [decide_eq_true_eq] at h ⊢
  omega
theorem digit_ok (n : Nat) (h : n < 10) : okB ((UInt8.ofNat (48 + n)).toNat : Int) = true := by
  rw [UInt8.toNat_ofNat']
  unfold okB
  simp only [decide_eq_true_eq]
  omega
theorem pad_ok9 (n : Nat) (h : n < 100) : ∀ b ∈ pad9 n, okB (b.toNat : Int) = true := by
  intro b hb
  unfold pad9 at hb
  rcases List.mem_append.1 hb with hb | hb
  · rw [(List.mem_replicate.1 hb).2]; decide
  · simp only [List.mem_cons, List.not_mem_nil, or_false] at hb
    rcases hb with rfl | rfl
    · exact digit_ok _ (by omega)
    · exact digit_ok _ (by omega)
theorem path_size (nm : ByteArray) (n : Nat) : (pathB nm n).size = nm.size + 10 := by
  have h : (pathB nm n).data.toList.length = nm.size + 10 := by
    rw [pathB_list, List.length_append]
    have : (nm.data.toList).length = nm.size := by simp
    rw [this]
    simp [pad9]
  rw [← h]; simp
theorem pathOK_of {nm : ByteArray} (h : nameB nm = true) : PathOK nm := by
  obtain ⟨h1, h2, h3⟩ := nameB_parts h
  refine ⟨by omega, fun k hk => ⟨?_, by rw [path_size]; omega⟩⟩
  unfold nmB
  rw [Bool.and_eq_true, decide_eq_true_eq, path_size]
  refine ⟨?_, by omega, by omega⟩
  unfold allB
  rw [List.all_eq_true]
  intro b hb
  have hb2 := List.mem_of_mem_take hb
  rw [pathB_list] at hb2
  rcases List.mem_append.1 hb2 with hb2 | hb2
  · exact letB_ok (h3 b hb2)
  · rcases List.mem_cons.1 hb2 with rfl | hb2
    · decide
    · exact pad_ok9 k hk b hb2
def kLog : ByteArray := ⟨#[108, 111, 103]⟩
def kLogs : ByteArray := ⟨#[108, 111, 103, 115]⟩
def kOne : ByteArray := ⟨#[97]⟩
theorem nm_log : nameB kLog = true := by decide +kernel
theorem nm_logs : nameB kLogs = true := by decide +kernel
theorem nm_one : nameB kOne = true := by decide +kernel
theorem right_of {nm : ByteArray} (h : nameB nm = true) (seg : Nat) (h1 : 16 ≤ seg) (h2 : seg ≤ 1048576) : rightB nm seg = true := by
  unfold rightB
  rw [h]
  simp; omega
end Go.Proofs.YthokoimoiamddaaGreatDoor
set_option linter.unusedSimpArgs false
set_option linter.unusedVariables false
namespace Go.Proofs.YthokoimoiamddaaGreatDoor
open Go Go.RowKit

section
variable {base g B safe j q n : Nat} {w w' : World} {nm : ByteArray} {s s' : St} {vo v : Vw} {ko : List ByteArray} {f : Fnd} {t : Int} {ns : List Nat} {sa : List Fr}
/-- A log where its own blocks stay. -/
theorem Lg.keepG (h : Lg base w g B nm s vo ko f safe j q) (hk : ∀ x, x < w.heap.size → (s.own x ∨ x = g ∨ x ≤ 1) → w'.heap[x]? = w.heap[x]?) (hsz : w.heap.size ≤ w'.heap.size) : Lg base w' g B nm s vo ko f safe j q := by
  obtain ⟨seg, file, size, v, t, n, ns, sa, lo, h, hp⟩ := h
  exact ⟨seg, file, size, v, t, n, ns, sa, lo, h.keepG hk hsz, hp⟩
theorem LgD.keepG (h : LgD base w B nm s vo ko f j) (hk : ∀ x, x < w.heap.size → (s.own x ∨ x ≤ 1) → w'.heap[x]? = w.heap[x]?) (hsz : w.heap.size ≤ w'.heap.size) : LgD base w' B nm s vo ko f j := by
  obtain ⟨v, t, n, ns, sa, nx, tear, h1, h2, h3, h4, h5⟩ := h
  exact ⟨v, t, n, ns, sa, nx, tear, ⟨h1.at_.keep fun x hx => hk x (h1.at_.lt hx) (.inl hx), h1.B, h1.view, h1.turn, h1.len, Nat.le_trans h1.low hsz⟩, h2, h3, h4.keep fun x hx hlt => hk x hlt (.inr hx), h5⟩
theorem Lg.log (h : Lg base w g B nm s vo ko f safe j q) : (∃ cs, w.heap[g]? = some (.cells cs 63 (0, 0))) ∧ ¬ s.own g ∧ base ≤ g ∧ (∀ x, s.own x → base ≤ x ∧ x < w.heap.size) ∧ base ≤ w.heap.size := by
  obtain ⟨seg, file, size, v, t, n, ns, sa, lo, h, hp⟩ := h
  exact ⟨⟨_, h.lg⟩, h.off, h.up, fun x hx => ⟨h.dk.at_.low x hx, h.dk.at_.lt hx⟩, h.dk.low⟩
theorem Lg.not (h : Lg base w g B nm s vo ko f safe j q) {x : Nat} {cur : Array Value} {ty : TypeId} {fr : Nat × Nat} (hx : w.heap[x]? = some (.cells cur ty fr)) (h1 : ty ≠ 60) (h2 : ty ≠ 83) (h3 : ty ≠ 5) (h4 : ty ≠ 86) : ¬ s.own x := by
  obtain ⟨seg, file, size, v, t, n, ns, sa, lo, h, hp⟩ := h
  exact dk_not h.dk hx h1 h2 h3 h4
theorem LgD.not (h : LgD base w B nm s vo ko f j) {x : Nat} {cur : Array Value} {ty : TypeId} {fr : Nat × Nat} (hx : w.heap[x]? = some (.cells cur ty fr)) (h1 : ty ≠ 60) (h2 : ty ≠ 83) (h3 : ty ≠ 5) (h4 : ty ≠ 86) : ¬ s.own x := by
  obtain ⟨v, t, n, ns, sa, nx, tear, hd, _⟩ := h
  exact dk_not hd hx h1 h2 h3 h4
theorem LgD.owns (h : LgD base w B nm s vo ko f j) : (∀ x, s.own x → base ≤ x ∧ x < w.heap.size) ∧ base ≤ w.heap.size ∧ 1 < base := by
  obtain ⟨v, t, n, ns, sa, nx, tear, hd, _, _, _, ht, _⟩ := h
  exact ⟨fun x hx => ⟨hd.at_.low x hx, hd.at_.lt hx⟩, hd.low, ht⟩
/-- A call on a log leaves blocks of other types as they were. -/
theorem WFr.stays (hf : WFr g s s' w w') (h : Lg base w g B nm s vo ko f safe j q) {x : Nat} {cur : Array Value} {ty : TypeId} (hx : w.heap[x]? = some (.cells cur ty (0, 0))) (h1 : ty ≠ 60) (h2 : ty ≠ 83) (h3 : ty ≠ 5) (h4 : ty ≠ 86) (h5 : ty ≠ 63) : w'.heap[x]? = some (.cells cur ty (0, 0)) := by
  refine (hf.block x (Array.getElem?_eq_some_iff.1 hx).1 (h.not hx h1 h2 h3 h4) fun e => ?_).trans hx
  subst e
  obtain ⟨cs, hc⟩ := h.log.1
  rw [hx] at hc; injection hc with e; injection e with _ e2 _; exact h5 e2
theorem Frame.stays (hf : Frame s s' w w') (h : LgD base w B nm s vo ko f j) {x : Nat} {cur : Array Value} {ty : TypeId} (hx : w.heap[x]? = some (.cells cur ty (0, 0))) (h1 : ty ≠ 60) (h2 : ty ≠ 83) (h3 : ty ≠ 5) (h4 : ty ≠ 86) : w'.heap[x]? = some (.cells cur ty (0, 0)) :=
  (hf.block x (Array.getElem?_eq_some_iff.1 hx).1 (h.not hx h1 h2 h3 h4)).trans hx
theorem Lg.below_of (h : Lg base w g B nm s vo ko f safe j q) (hf : WFr g s s' w w') : Below base w w' := by
  obtain ⟨seg, file, size, v, t, n, ns, sa, lo, h, hp⟩ := h
  exact h.below_of hf
theorem LgD.below_of (h : LgD base w B nm s vo ko f j) (hf : Frame s s' w w') : Below base w w' := by
  obtain ⟨v, t, n, ns, sa, nx, tear, hd, _⟩ := h
  exact hd.at_.below_of hf hd.low
/-- What was found, in a box of its own. -/
theorem box_new (w : World) (x y z : Value) : ∃ W, W = w.alloc (.cells #[x, y, z] 29) ∧
    W.heap[w.heap.size]? = some (.cells #[x, y, z] 29 (0, 0)) ∧ Below w.heap.size w W := ⟨_, rfl, heap_alloc_new w _, (Below.refl _ _).alloc (Nat.le_refl _) _⟩
theorem RecM.bytes {lo : Nat} {x : Value} {p : List UInt8} (h : RecM w s lo x p) : ∃ A c, x = .slice A p.length c ∧ BytesAt w A p ∧ ∀ ad, A = some ad → lo ≤ ad.block ∧ ¬ s.own ad.block ∧ ∃ cur, w.heap[ad.block]? = some (.cells cur 5 (0, 0)) := by
  obtain ⟨a, off, cap, cur, h1, h2, h3, h4, h5⟩ := h
  refine ⟨_, cap, h1, ⟨fun e => (by cases e), fun ad e j u hu => ?_⟩, fun ad e => (by cases e; exact ⟨h3, h2, cur, h4⟩)⟩
  cases e
  obtain ⟨y, hy, rfl⟩ : ∃ y, p[j]? = some y ∧ u = byteV y := by
    simp only [byteVs, List.getElem?_map] at hu
    cases hp : p[j]? with
    | none => rw [hp] at hu; cases hu
    | some y => rw [hp] at hu; cases hu; exact ⟨y, rfl, rfl⟩
  have := h5 j y hy
  rw [Addr.add_lit]
  simp [World.cell?, h4, this]
theorem FndAt.shotS {lo b : Nat} {SV : Value} {A : Option Addr} {n c : Nat} {vs : List Value} (h : FndAt w s lo b f SV A n c vs) : ∃ sA sc, SV = .slice sA f.shot.length sc ∧ BytesAt w sA f.shot := by
  rcases h.snap with ⟨h1, h2⟩ | h1
  · rw [h1, h2]
    exact ⟨none, 0, rfl, bytes_none w⟩
  · obtain ⟨A, c, h2, h3, _⟩ := h1.bytes
    exact ⟨A, c, h2, h3⟩
theorem lg_open2 (h : LgD base w B nm s vo ko f j) (ho : Oth nm vo ko) (hp : PathOK nm) (seg : Nat) (hr : rightB nm seg = true) (q : Nat) :
    Calls Tryz.prog 9 #[.pointer (some ⟨B, 0, none⟩), .string nm, .int .i64 seg] w fun e w' => ∃ (sA : Option Addr) (sc : Nat) (A : Option Addr) (k c : Nat) (vs : List Value) (s' : St) (b g : Nat), e = .returned (.tuple #[.pointer (some ⟨g, 0, none⟩), .agg #[.bool f.whole, .slice sA f.shot.length sc, .slice A k c], .nilIface]) ∧
      Lg base w' g B nm s' vo ko f f.recs.length j q ∧ LgD base w' B nm s' vo ko f j ∧ FndAt w' s' w.heap.size b f (.slice sA f.shot.length sc) A k c vs ∧ BytesAt w' sA f.shot ∧ w.heap.size ≤ g ∧ Frame s s' w w' := by
  refine (lg_open h ho hp seg hr q).mono ?_
  rintro e w' ⟨SV, A, k, c, vs, s', b, g, rfl, h1, h2, h3, h4, h5⟩
  obtain ⟨sA, sc, rfl, h6⟩ := h3.shotS
  exact ⟨sA, sc, A, k, c, vs, s', b, g, rfl, h1, h2, h3, h6, h4, h5⟩
theorem ErrS.one (h : ErrS w) : 1 < w.heap.size := by
  obtain ⟨tp, p, hc⟩ := h
  exact World.block_lt_of_cell? w _ hc
theorem found_cells {x y z : Value} {b : Nat} (h : w.heap[b]? = some (.cells #[x, y, z] 29 (0, 0))) : w.cell? ⟨b, 0, none⟩ = some x ∧ w.cell? ⟨b, 1, none⟩ = some y ∧ w.cell? ⟨b, 2, none⟩ = some z ∧ ∀ i, w.frozen? ⟨b, i, none⟩ = false := by
  refine ⟨?_, ?_, ?_, fun i => ?_⟩ <;> simp [World.cell?, World.frozen?, h]
end

set_option maxRecDepth 20000 in
set_option maxHeartbeats 1000000 in
theorem awake_any (w : World) (hE : ErrS w) : Calls Tryz.prog 7 #[] w fun e w' => e = .returned (.bool true) ∧ Below w.heap.size w w' := by
  have HE := Lib.hid hE
  have hten := hE.one
  have HT := Lib.hid hten
  clear hE hten
  go_enter Tryz.func7, Tryz.ntmps7
  go_wp2_with fail
  refine (newDisk_any _).mono ?_
  rintro e w' ⟨rfl, rfl⟩
  obtain ⟨w1, hw1⟩ : ∃ w1, w1 = (w.alloc (.map #[] 0)).alloc (.cells #[.map (some w.heap.size), .int .i64 0] 60) := ⟨_, rfl⟩
  have hb1 : Hid (Below w.heap.size w w1) := by rw [hw1]; exact ((Below.refl _ _).alloc (Nat.le_refl _) _).alloc (by simp) _
  have hd1 : Hid (LgD w.heap.size w1 (w.heap.size + 1) kLog (newSt w) (fun _ => none) [] fnd0 0) := by
    rw [hw1]; exact lgD_new (dk_new w) (by rw [← hw1]; exact HE.out.below hb1.out) HT.out (by decide) kLog 0
  rw [← hw1]
  clear hw1
  go_wp2_with fail
  refine (lg_open2 hd1.out (oth_none kLog) (pathOK_of nm_log) 64 (right_of nm_log 64 (by decide) (by decide)) 100).mono ?_
  rintro e w2 ⟨sA, sc, A, k, c, vs, s2, b, g, he, hlg, hld, hfn, hsb, hge, hfr⟩
  have hb2 : Hid (Below w.heap.size w w2) := hb1.out.trans (hd1.out.below_of hfr)
  have hk0 : k = 0 := hfn.len.symm
  subst hk0
  have he2 : e = .returned (.tuple #[.pointer (some ⟨g, 0, none⟩), .agg #[.bool false, .slice sA 0 sc, .slice A 0 c], .nilIface]) := he
  subst he2
  clear he
  obtain ⟨W, hW, hbox, hbW⟩ := box_new w2 (.bool false) (.slice sA 0 sc) (.slice A 0 c)
  have HW := Lib.hid hW
  have HL : Hid (Lg w.heap.size W g (w.heap.size + 1) kLog s2 (fun _ => none) [] fnd0 0 0 100) := hlg.below hbW
  have HX : Hid (W.heap[w2.heap.size]? = some (.cells #[.bool false, .slice sA 0 sc, .slice A 0 c] 29 (0, 0))) := hbox
  have HB : Hid (Below w.heap.size w W) := hb2.out.trans (hbW.mono hb2.out.size)
  obtain ⟨q0, q1, q2, qf⟩ := found_cells HX.out
  have HSZ : Hid (w.heap.size ≤ w2.heap.size) := hb2.out.size
  clear hlg hld hfn hsb hge hfr hbox hbW hb2 hb1 hd1 hW
  go_upto_region 3 with fail
  rw [← HW.out]
  clear HW
  go_wp2_with fail
  refine (lg_append (HL.out.below ((Below.refl _ _).alloc (Nat.le_refl _) _)) (pathOK_of nm_log) (oth_none kLog) _ 1 1 [1] rfl (newbytes W [1]) (by decide) (by decide) (by decide) (by decide)).mono ?_
  rintro e w3 (⟨rfl, s3, hl3, hf3⟩ | ⟨_, _, h, _⟩)
  rotate_left 1
  · simp at h
  have HL3 : Hid (Lg w.heap.size w3 g (w.heap.size + 1) kLog s3 (fun _ => none) [] ⟨false, [], [[1]]⟩ 0 1 100) := hl3
  have HX3 : Hid (w3.heap[w2.heap.size]? = some (.cells #[.bool false, .slice sA 0 sc, .slice A 0 c] 29 (0, 0))) :=
    hf3.stays (HL.out.below ((Below.refl _ _).alloc (Nat.le_refl _) _)) (((Below.refl W.heap.size W).alloc (Nat.le_refl _) _).block _ (Array.getElem?_eq_some_iff.1 HX.out).1 |>.trans HX.out) (by decide) (by decide) (by decide) (by decide) (by decide)
  have HB3 : Hid (Below w.heap.size w w3) := (HB.out.trans ((Below.refl _ _).alloc HB.out.size _)).trans ((HL.out.below ((Below.refl _ _).alloc (Nat.le_refl _) _)).below_of hf3)
  clear hl3 hf3 HL HX HB q0 q1 q2 qf
  go_wp2_with fail
  refine (lg_sync HL3.out (oth_none kLog)).mono ?_
  rintro e w4 ⟨rfl, s4, hl4, hf4⟩
  have HL4 : Hid (Lg w.heap.size w4 g (w.heap.size + 1) kLog s4 (fun _ => none) [] ⟨false, [], [[1]]⟩ 1 1 100) := hl4
  have HX4 : Hid (w4.heap[w2.heap.size]? = some (.cells #[.bool false, .slice sA 0 sc, .slice A 0 c] 29 (0, 0))) := hf4.stays HL3.out HX3.out (by decide) (by decide) (by decide) (by decide) (by decide)
  have HB4 : Hid (Below w.heap.size w w4) := HB3.out.trans (HL3.out.below_of hf4)
  clear hl4 hf4 HL3 HX3 HB3
  go_wp2_with fail
  refine (lg_append (HL4.out.below ((Below.refl _ _).alloc (Nat.le_refl _) _)) (pathOK_of nm_log) (oth_none kLog) _ 1 1 [2] rfl (newbytes w4 [2]) (by decide) (by decide) (by decide) (by decide)).mono ?_
  rintro e w5 (⟨rfl, s5, hl5, hf5⟩ | ⟨_, _, h, _⟩)
  rotate_left 1
  · simp at h
  have HL5 : Hid (Lg w.heap.size w5 g (w.heap.size + 1) kLog s5 (fun _ => none) [] ⟨false, [], [[1], [2]]⟩ 1 2 100) := hl5
  have HX5 : Hid (w5.heap[w2.heap.size]? = some (.cells #[.bool false, .slice sA 0 sc, .slice A 0 c] 29 (0, 0))) :=
    hf5.stays (HL4.out.below ((Below.refl _ _).alloc (Nat.le_refl _) _)) (((Below.refl w4.heap.size w4).alloc (Nat.le_refl _) _).block _ (Array.getElem?_eq_some_iff.1 HX4.out).1 |>.trans HX4.out) (by decide) (by decide) (by decide) (by decide) (by decide)
  have HB5 : Hid (Below w.heap.size w w5) := (HB4.out.trans ((Below.refl _ _).alloc HB4.out.size _)).trans ((HL4.out.below ((Below.refl _ _).alloc (Nat.le_refl _) _)).below_of hf5)
  clear hl5 hf5 HL4 HX4 HB4
  go_wp2_with fail
  refine (lg_len HL5.out).mono ?_
  rintro e w' ⟨rfl, rfl⟩
  go_wp2_with fail
  refine (lg_safe HL5.out).mono ?_
  rintro e w' ⟨rfl, rfl⟩
  obtain ⟨z, hz0, hz1, hz2, hz3⟩ := lg_loose HL5.out (oth_none kLog)
  have HZ := Lib.hid hz3
  clear hz0 hz1 hz2 hz3
  go_wp2_with fail
  refine (HZ.out w5 0 (Below.refl _ _) (by decide) (by decide) (by decide) (by decide)).mono ?_
  rintro e w6 ⟨rfl, s6, k6, hd6, hf6, hk1, hk2, _, hk3⟩
  have hk6 := hk3 rfl
  subst hk6
  have HD6 : Hid (LgD w.heap.size w6 (w.heap.size + 1) kLog s6 (fun _ => none) [] ⟨false, [], [[1]]⟩ 2) := hd6
  have HX6 : Hid (w6.heap[w2.heap.size]? = some (.cells #[.bool false, .slice sA 0 sc, .slice A 0 c] 29 (0, 0))) := (WFr.of_frame hf6 (g := g)).stays HL5.out HX5.out (by decide) (by decide) (by decide) (by decide) (by decide)
  have HB6 : Hid (Below w.heap.size w w6) := HB5.out.trans (HL5.out.below_of (WFr.of_frame hf6))
  clear hd6 hf6 hk1 hk2 hk3 HL5 HX5 HB5 HZ
  go_wp2_with fail
  refine (lg_open2 HD6.out (oth_none kLog) (pathOK_of nm_log) 64 (right_of nm_log 64 (by decide) (by decide)) 100).mono ?_
  rintro e w7 ⟨sA2, sc2, A2, k2, c2, vs2, s7, b2, g2, he, hlg, hld, hfn, hsb, hge, hfr⟩
  have hk1 : k2 = 1 := hfn.len.symm
  subst hk1
  have he2 : e = .returned (.tuple #[.pointer (some ⟨g2, 0, none⟩), .agg #[.bool false, .slice sA2 0 sc2, .slice A2 1 c2], .nilIface]) := he
  subst he2
  clear he
  have hx7 := hfr.stays HD6.out HX6.out (by decide) (by decide) (by decide) (by decide)
  have HX7 := Lib.hid hx7
  have HB7 : Hid (Below w.heap.size w w7) := HB6.out.trans (HD6.out.below_of hfr)
  have HF7 := Lib.hid hfn
  have HD7 := Lib.hid hld
  obtain ⟨t1, t2⟩ := three_set (x' := .bool false) (y' := .slice sA2 0 sc2) (z' := .slice A2 1 c2) HX7.out
  obtain ⟨W7, hW7⟩ : ∃ W7, W7 = ((w7.setCell ⟨w2.heap.size, 0, none⟩ (.bool false)).setCell ⟨w2.heap.size, 1, none⟩ (.slice sA2 0 sc2)).setCell ⟨w2.heap.size, 2, none⟩ (.slice A2 1 c2) := ⟨_, rfl⟩
  rw [← hW7] at t1 t2
  have HT1 := Lib.hid t1
  have HT2 := Lib.hid t2
  have HW7 := Lib.hid hW7
  obtain ⟨q0, q1, q2, qf⟩ := found_cells hx7
  have HLT : Hid (w2.heap.size < w6.heap.size) := (Array.getElem?_eq_some_iff.1 HX6.out).1
  clear hlg hld hfn hsb hge hfr hx7 HD6 HX6 HB6 hW7 t1 t2
  go_upto_region 6 with fail
  rw [← HW7.out]
  have hlt : w2.heap.size < w6.heap.size := by exact HLT.out
  have hF := HF7.out.other HX7.out (by have := HF7.out.blo; omega) HT2.out
  obtain ⟨u, rfl⟩ : ∃ u, vs2 = [u] := by
    have := hF.row.1
    match vs2, this with
    | [u], _ => exact ⟨u, rfl⟩
  obtain ⟨h, rfl, _, hc, _, _⟩ := own_cell hF.row (i := 0) (v := u) rfl
  obtain ⟨rA, rc, rfl, hbs, _⟩ := (hF.each 0 u [1] rfl rfl).bytes
  have q2 := (found_cells HT1.out).2.2.1
  have HBS := Lib.hid hbs
  clear hF hbs hlt
  go_wp2_with (go_at_call 14; refine (bytes_any rA _ [1] [1] rc 1 _ (HBS.out.below ((Below.refl _ _).alloc (Nat.le_refl _) _)) (newbytes W7 [1])).mono ?_; rintro e w9 ⟨rfl, rfl⟩)
  go_ret
  refine ⟨rfl, (HB7.out.trans (HT2.out.below fun x e => ?_)).trans ((Below.refl _ _).alloc (Nat.le_trans HB7.out.size (by rw [HT2.out.size]; exact Nat.le_refl _)) _)⟩
  cases e
  exact HSZ.out
end Go.Proofs.YthokoimoiamddaaGreatDoor
