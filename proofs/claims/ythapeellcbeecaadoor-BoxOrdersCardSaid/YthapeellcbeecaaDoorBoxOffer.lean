/-
  The box: Offer. Own work.
-/
import Derived.Test.YthapeellcbeecaaDoorBoxC
import Derived.Deep.DeepMust
set_option linter.unusedSimpArgs false
set_option linter.unusedVariables false
namespace Go.Proofs.YthapeellcbeecaaDoor
open Go Go.RowKit

/-- What Offer asks, the event apart. -/
def Good (s : BoxSt) (node pub idx : Int) : Prop :=
  0 ≤ node ∧ node < 8 ∧ 0 ≤ pub ∧ pub < 16 ∧ 0 ≤ idx ∧ (∀ m, lkV (node, pub) s.L = some (.int .i64 m) → m < idx) ∧ (s.ents.length : Int) < s.most

def OfferPost (base : Nat) (w : World) (B : Nat) (s : BoxSt) (n : Nat) (node pub idx : Int) (e : Ending) (w' : World) : Prop :=
  Below base w w' ∧ ∃ s', BoxAt base w' B s' ∧
    ((∃ t v, e = .returned (.iface t v) ∧ s' = s ∧ (n = 0 → ¬ Good s node pub idx)) ∨
     (e = .returned .nilIface ∧ Good s node pub idx ∧ ∃ ev cc, s' = { s with ents := s.ents ++ [⟨s.first + s.ents.length, node, pub, idx, ev⟩], L := putE (node, pub) (.int .i64 idx) cc s.L }))

theorem offerPost_err {base : Nat} {w w' : World} {B : Nat} {s : BoxSt} {n : Nat} {node pub idx : Int} {t : TypeId} {v : Value} (hb : Below base w w') (hx : BoxAt base w' B s) (hn : n = 0 → ¬ Good s node pub idx) :
    OfferPost base w B s n node pub idx (.returned (.iface t v)) w' := ⟨hb, s, hx, .inl ⟨_, _, rfl, rfl, hn⟩⟩

set_option maxHeartbeats 4000000 in
theorem offer_bad (base B : Nat) (s : BoxSt) (w : World) (hbx : BoxAt base w B s) (hbase : base ≤ w.heap.size) (A : Option Addr) (c : Nat) (l : List AttrD) (hl : l.length ≤ 9223372036854775807) (hA : Attrs w A l)
    (node pub idx : Int) (hbad : node < 0 ∨ 8 ≤ node ∨ pub < 0 ∨ 16 ≤ pub ∨ idx < 0) :
    Calls Tryd.prog 6 #[.pointer (some ⟨B, 0, none⟩), .int .i64 node, .int .i64 pub, .int .i64 idx, .slice A l.length c] w (OfferPost base w B s l.length node pub idx) := by
  have hng : Hid (¬ Good s node pub idx) := by intro h; obtain ⟨h1, h2, h3, h4, h5, _⟩ := h; omega
  have hc := echeck_any A c l w hl hA
  obtain ⟨M, wv, c0, hin⟩ := hbx
  have hbad2 : node < 0 ∨ (¬ node < 0 ∧ 8 ≤ node) ∨ (¬ node < 0 ∧ ¬ 8 ≤ node ∧ pub < 0) ∨ (¬ node < 0 ∧ ¬ 8 ≤ node ∧ ¬ pub < 0 ∧ 16 ≤ pub) ∨ (¬ node < 0 ∧ ¬ 8 ≤ node ∧ ¬ pub < 0 ∧ ¬ 16 ≤ pub ∧ idx < 0) := by omega
  have hko := from_keys
  clear hbad
  go_enter Tryd.func6, Tryd.ntmps6
  go_wp2_with fail
  clear hl hA
  refine hc.mono ?_
  rintro e w1 ⟨r, rfl, hr, hr1, hr2, hb1⟩
  have hin1 := hin.below hb1
  have hB1 : Below base w w1 := hb1.mono hbase
  have hend : Hid (Below base w w1 ∧ BoxAt base w1 B s) := ⟨hB1, M, wv, c0, hin1⟩
  have k3 : w1.cell? ⟨B, 3, none⟩ = some (.map (some M)) := by rw [hin1.cell 3]; rfl
  have hmap := hin1.map
  clear hin hc hB1 hb1 hr1 hr2 hin1
  rcases hr with rfl | ⟨t, v, rfl⟩
  · rcases hbad2 with h | ⟨h1, h⟩ | ⟨h1, h2, h⟩ | ⟨h1, h2, h3, h⟩ | ⟨h1, h2, h3, h4, h⟩
    all_goals
      go_wp2_with (at_lookup; refine wpList_look_ok_at _ rfl _ _ 47 rfl 3 hko Tryd.underlying47 (.int .i64 0) from_zero rfl hmap (node, pub) rfl ?_)
      go_ret
      exact offerPost_err hend.out.1 hend.out.2 (fun _ => hng.out)
  · go_wp2
    go_ret
    exact offerPost_err hend.out.1 hend.out.2 (fun _ => hng.out)

theorem lk_cases {s : BoxSt} (hi : ∀ k v, lkV k s.L = some v → ∃ m, v = .int .i64 m) (k : Int × Int) (idx : Int) :
    (∃ m, lkV k s.L = some (.int .i64 m) ∧ idx ≤ m) ∨ (∃ m, lkV k s.L = some (.int .i64 m) ∧ m < idx) ∨ lkV k s.L = none := by
  cases h : lkV k s.L with
  | none => exact .inr (.inr rfl)
  | some v =>
    obtain ⟨m, rfl⟩ := hi k v h
    by_cases hm : idx ≤ m
    · exact .inl ⟨m, rfl, hm⟩
    · exact .inr (.inl ⟨m, rfl, by omega⟩)

set_option maxHeartbeats 4000000 in
theorem offer_order (base B : Nat) (s : BoxSt) (w : World) (hbx : BoxAt base w B s) (hbase : base ≤ w.heap.size) (A : Option Addr) (c : Nat) (l : List AttrD) (hl : l.length ≤ 9223372036854775807) (hA : Attrs w A l)
    (node pub idx m : Int) (g1 : ¬ node < 0) (g2 : ¬ 8 ≤ node) (g3 : ¬ pub < 0) (g4 : ¬ 16 ≤ pub) (g5 : ¬ idx < 0) (hlk : lkV (node, pub) s.L = some (.int .i64 m)) (hm : idx ≤ m) :
    Calls Tryd.prog 6 #[.pointer (some ⟨B, 0, none⟩), .int .i64 node, .int .i64 pub, .int .i64 idx, .slice A l.length c] w (OfferPost base w B s l.length node pub idx) := by
  have hng : Hid (¬ Good s node pub idx) := by intro h; obtain ⟨_, _, _, _, _, h, _⟩ := h; have := h m hlk; omega
  have hlk' : Hid (lkV (node, pub) s.L = some (.int .i64 m)) := hlk
  have hc := echeck_any A c l w hl hA
  obtain ⟨M, wv, c0, hin⟩ := hbx
  have hko := from_keys
  clear hlk
  go_enter Tryd.func6, Tryd.ntmps6
  go_wp2_with fail
  clear hl hA
  refine hc.mono ?_
  rintro e w1 ⟨r, rfl, hr, hr1, hr2, hb1⟩
  have hin1 := hin.below hb1
  have hB1 : Below base w w1 := hb1.mono hbase
  have hend : Hid (Below base w w1 ∧ BoxAt base w1 B s) := ⟨hB1, M, wv, c0, hin1⟩
  have k3 : w1.cell? ⟨B, 3, none⟩ = some (.map (some M)) := by rw [hin1.cell 3]; rfl
  have hmap := hin1.map
  clear hin hc hB1 hb1 hr1 hr2 hin1
  rcases hr with rfl | ⟨t, v, rfl⟩
  · go_wp2_with (at_lookup; refine wpList_look_ok_at _ rfl _ _ 47 rfl 3 hko Tryd.underlying47 (.int .i64 0) from_zero rfl hmap (node, pub) rfl ?_; rw [hlk'.out])
    go_ret
    exact offerPost_err hend.out.1 hend.out.2 (fun _ => hng.out)
  · go_wp2
    go_ret
    exact offerPost_err hend.out.1 hend.out.2 (fun _ => hng.out)

set_option maxHeartbeats 4000000 in
theorem offer_full (base B : Nat) (s : BoxSt) (w : World) (hbx : BoxAt base w B s) (hbase : base ≤ w.heap.size) (A : Option Addr) (c : Nat) (l : List AttrD) (hl : l.length ≤ 9223372036854775807) (hA : Attrs w A l)
    (node pub idx : Int) (g1 : ¬ node < 0) (g2 : ¬ 8 ≤ node) (g3 : ¬ pub < 0) (g4 : ¬ 16 ≤ pub) (g5 : ¬ idx < 0)
    (hlk : (∃ m, lkV (node, pub) s.L = some (.int .i64 m) ∧ m < idx) ∨ lkV (node, pub) s.L = none) (hf : s.most ≤ s.ents.length) :
    Calls Tryd.prog 6 #[.pointer (some ⟨B, 0, none⟩), .int .i64 node, .int .i64 pub, .int .i64 idx, .slice A l.length c] w (OfferPost base w B s l.length node pub idx) := by
  have hng : Hid (¬ Good s node pub idx) := by intro h; obtain ⟨_, _, _, _, _, _, h⟩ := h; omega
  have hlk' : Hid ((∃ m, lkV (node, pub) s.L = some (.int .i64 m) ∧ m < idx) ∨ lkV (node, pub) s.L = none) := hlk
  have hc := echeck_any A c l w hl hA
  obtain ⟨M, wv, c0, hin⟩ := hbx
  have hko := from_keys
  have hf' : decide (s.most ≤ ((s.ents.length : Nat) : Int)) = true := by simpa using hf
  clear hlk hf
  go_enter Tryd.func6, Tryd.ntmps6
  go_wp2_with fail
  clear hl hA
  refine hc.mono ?_
  rintro e w1 ⟨r, rfl, hr, hr1, hr2, hb1⟩
  have hin1 := hin.below hb1
  have hB1 : Below base w w1 := hb1.mono hbase
  have hend : Hid (Below base w w1 ∧ BoxAt base w1 B s) := ⟨hB1, M, wv, c0, hin1⟩
  have k3 : w1.cell? ⟨B, 3, none⟩ = some (.map (some M)) := by rw [hin1.cell 3]; rfl
  have k0 : w1.cell? ⟨B, 0, none⟩ = some (.int .i64 s.most) := by rw [hin1.cell 0]; rfl
  obtain ⟨A0, cc, rfl⟩ := hin1.slice
  have k2 : w1.cell? ⟨B, 2, none⟩ = some (.slice A0 s.ents.length cc) := by rw [hin1.cell 2]; rfl
  have hmap := hin1.map
  clear hin hc hB1 hb1 hr1 hr2 hin1
  have hfull := full_any B s.ents.length cc A0 s.most w1 k0 k2
  rw [hf'] at hfull
  have HF : Hid (Calls Tryd.prog 8 #[.pointer (some ⟨B, 0, none⟩)] w1 fun e w' => e = .returned (.bool true) ∧ ∃ k, w' = w1.drewN k) := hfull
  clear hfull hf'
  rcases hr with rfl | ⟨t, v, rfl⟩
  · rcases hlk'.out with ⟨m, hlk, hm⟩ | hlk
    · have hlk2 : Hid (lkV (node, pub) s.L = some (.int .i64 m)) := hlk
      have g6 : ¬ idx ≤ m := by omega
      clear hlk
      go_wp2_with (first | (at_lookup; refine wpList_look_ok_at _ rfl _ _ 47 rfl 3 hko Tryd.underlying47 (.int .i64 0) from_zero rfl hmap (node, pub) rfl ?_; rw [hlk2.out]) | (go_at_call 8; refine HF.out.mono ?_; rintro e w' ⟨rfl, k, rfl⟩))
      go_ret
      exact offerPost_err (hend.out.1.trans ((drewN_below _ _).mono (Nat.le_trans hbase hend.out.1.size))) (hend.out.2.below (drewN_below _ _)) (fun _ => hng.out)
    · have hlk2 : Hid (lkV (node, pub) s.L = none) := hlk
      clear hlk
      go_wp2_with (first | (at_lookup; refine wpList_look_ok_at _ rfl _ _ 47 rfl 3 hko Tryd.underlying47 (.int .i64 0) from_zero rfl hmap (node, pub) rfl ?_; rw [hlk2.out]) | (go_at_call 8; refine HF.out.mono ?_; rintro e w' ⟨rfl, k, rfl⟩))
      go_ret
      exact offerPost_err (hend.out.1.trans ((drewN_below _ _).mono (Nat.le_trans hbase hend.out.1.size))) (hend.out.2.below (drewN_below _ _)) (fun _ => hng.out)
  · go_wp2
    go_ret
    exact offerPost_err hend.out.1 hend.out.2 (fun _ => hng.out)

end Go.Proofs.YthapeellcbeecaaDoor
