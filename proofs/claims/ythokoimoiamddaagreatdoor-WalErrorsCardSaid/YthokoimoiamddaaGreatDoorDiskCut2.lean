/-
  disk: shorten, walked. Own work.
-/
import Derived.Test.YthokoimoiamddaaGreatDoorB2
set_option linter.unusedSimpArgs false
set_option linter.unusedVariables false
namespace Go.Proofs.YthokoimoiamddaaGreatDoor
open Go Go.RowKit
open Go.ChangeMaps (setBlock)

/-- While shorten goes round. -/
structure ShortAt (w : World) (F : Nat) (dv : Value) (l0 : List (Int × Int)) (g0 : Int) (A : Option Addr) (c : Nat) (wr : World) (g : Int) (cur : List (Int × Int)) : Prop where
  gone : 0 ≤ g ∧ g ≤ 1048576
  eqv : shortL cur g = shortL l0 g0
  blk : wr.heap[F]? = some (.cells #[dv, .slice A cur.length c] 83 (0, 0))
  row : wr.ownsRow 0 86 2 (.slice A cur.length c) cur.length (pieceCells cur)
  pos : ∀ p ∈ cur, 0 < p.2 ∧ p.2 ≤ 1048576
  keep : ∀ h, h ≠ F → (Value.slice A 0 c).ownBlock ≠ some h → wr.heap[h]? = w.heap[h]?
  size : wr.heap.size = w.heap.size
  same : wr.os = w.os ∧ wr.tape = w.tape ∧ wr.output = w.output
  few : cur.length ≤ 1048576
theorem ownBlock_len (A : Option Addr) (n m c : Nat) : (Value.slice A n c).ownBlock = (Value.slice A m c).ownBlock := by cases A <;> rfl

theorem ShortAt.of {w : World} {F : Nat} {dv : Value} {l0 : List (Int × Int)} {g0 : Int} {A : Option Addr} {c : Nat} {W W' : World} {g : Int} {cur : List (Int × Int)} (h : ShortAt w F dv l0 g0 A c W g cur) (e1 : W'.heap = W.heap) (e2 : W'.os = W.os ∧ W'.tape = W.tape ∧ W'.output = W.output) : ShortAt w F dv l0 g0 A c W' g cur :=
  ⟨h.gone, h.eqv, by rw [e1]; exact h.blk, ownsRow_keep h.row fun g _ => by rw [e1], h.pos, fun k h1 h2 => by rw [e1]; exact h.keep k h1 h2, by rw [e1]; exact h.size, ⟨e2.1.trans h.same.1, e2.2.1.trans h.same.2.1, e2.2.2.trans h.same.2.2⟩, h.few⟩

section
variable {w : World} {F : Nat} {dv : Value} {l0 : List (Int × Int)} {g0 : Int} {b c m : Nat} {wr : World} {g : Int} {l : List (Int × Int)} {p : Int × Int}
theorem short_drop (h : ShortAt w F dv l0 g0 (some ⟨b, 0, none⟩) c wr g (l ++ [p])) (hm : l.length = m) (hg : 0 < g) (hp : p.2 ≤ g) (hFb : ¬ (F = b))
    (hrow : (wr.setCell ⟨b, m * 2 + 1, none⟩ (.int .i64 0)).ownsRow 0 86 2 (.slice (some ⟨b, 0, none⟩) m c) m (pieceCells l)) :
    ShortAt w F dv l0 g0 (some ⟨b, 0, none⟩) c ((wr.setCell ⟨b, m * 2 + 1, none⟩ (.int .i64 0)).setCell ⟨F, 1, none⟩ (.slice (some ⟨b, 0, none⟩) m c)) (g - p.2) l := by
  subst hm
  have hpp := h.pos p (by simp)
  have hF1 : (wr.setCell ⟨b, l.length * 2 + 1, none⟩ (.int .i64 0)).heap[F]? = some (.cells #[dv, .slice (some ⟨b, 0, none⟩) (l ++ [p]).length c] 83 (0, 0)) := (Below.heap_setCell wr ⟨b, l.length * 2 + 1, none⟩ _ F hFb).trans h.blk
  refine ⟨⟨by omega, by have := h.gone; omega⟩, by rw [← h.eqv, shortL_drop l p g hg hp], setCell_cells hF1, ownsRow_keep hrow fun k hk => Below.heap_setCell _ ⟨F, 1, none⟩ _ k (fun e => ?_), fun q hq => h.pos q (by simp [hq]), fun k h1 h2 => ?_, by simpa [World.setCell] using h.size, h.same, by have := h.few; simp at this; omega⟩
  · have : b = k := by simpa [Value.ownBlock] using hk
    exact hFb (by have e' : k = F := e; omega)
  · have hkb : k ≠ b := fun e => h2 (by rw [e]; rfl)
    exact (Below.heap_setCell _ ⟨F, 1, none⟩ _ k h1).trans ((Below.heap_setCell wr ⟨b, l.length * 2 + 1, none⟩ _ k hkb).trans (h.keep k h1 h2))
theorem short_part (h : ShortAt w F dv l0 g0 (some ⟨b, 0, none⟩) c wr g (l ++ [p])) (hm : l.length = m) (hg : 0 < g) (hp : ¬ p.2 ≤ g) (hFb : ¬ (F = b))
    (hrow : (wr.setCell ⟨b, m * 2 + 1, none⟩ (.int .i64 (p.2 - g))).ownsRow 0 86 2 (.slice (some ⟨b, 0, none⟩) (m + 1) c) (m + 1) (pieceCells (l ++ [(p.1, p.2 - g)]))) :
    ShortAt w F dv l0 g0 (some ⟨b, 0, none⟩) c (wr.setCell ⟨b, m * 2 + 1, none⟩ (.int .i64 (p.2 - g))) 0 (l ++ [(p.1, p.2 - g)]) := by
  subst hm
  have hpp := h.pos p (by simp)
  have hlen : (l ++ [(p.1, p.2 - g)]).length = l.length + 1 := by simp
  have hlen2 : (l ++ [p]).length = l.length + 1 := by simp
  refine ⟨⟨by omega, by omega⟩, by rw [← h.eqv, shortL_part l p g hg hp, shortL_zero _ _ (Int.le_refl _)], ?_, by rw [hlen]; exact hrow, fun q hq => ?_, fun k h1 h2 => ?_, by simpa [World.setCell] using h.size, h.same, by have := h.few; rw [hlen2] at this; rw [hlen]; exact this⟩
  · rw [hlen, ← hlen2]; exact (Below.heap_setCell wr ⟨b, l.length * 2 + 1, none⟩ _ F hFb).trans h.blk
  · rcases List.mem_append.1 hq with hq | hq
    · exact h.pos q (by simp [hq])
    · obtain rfl : q = (p.1, p.2 - g) := by simpa using hq
      simp only; omega
  · have hkb : k ≠ b := fun e => h2 (by rw [e]; rfl)
    exact (Below.heap_setCell wr ⟨b, l.length * 2 + 1, none⟩ _ k hkb).trans (h.keep k h1 h2)
end

set_option maxHeartbeats 2000000 in
theorem shorten_any (w : World) (F dl n : Nat) (Ad : Option Addr) (cd : Nat) (A : Option Addr) (c : Nat) (l0 : List (Int × Int)) (hb : w.heap[F]? = some (.cells #[.slice Ad dl cd, .slice A l0.length c] 83 (0, 0))) (hrow : w.ownsRow 0 86 2 (.slice A l0.length c) l0.length (pieceCells l0))
    (hpos : ∀ p ∈ l0, 0 < p.2 ∧ p.2 ≤ 1048576) (hn : n ≤ dl) (hdl : dl ≤ 1048576) (hcd : dl ≤ cd) (hlen : l0.length ≤ 1048576) :
    Calls Tryz.prog 65 #[.pointer (some ⟨F, 0, none⟩), .int .i64 n] w fun e w' => (∃ v, e = .returned v) ∧ ∃ g cur, (g ≤ 0 ∨ cur = []) ∧ ShortAt w F (.slice Ad n n) l0 ((dl : Int) - n) A c w' g cur := by
  have f0 : w.cell? ⟨F, 0, none⟩ = some (.slice Ad dl cd) := by simp [World.cell?, hb]
  have f1 : w.cell? ⟨F, 1, none⟩ = some (.slice A l0.length c) := by simp [World.cell?, hb]
  have ff : ∀ i, w.frozen? ⟨F, i, none⟩ = false := fun i => by simp [World.frozen?, hb]
  obtain ⟨G0, hG0⟩ : ∃ z : Int, Hid ((dl : Int) - n = z) := ⟨_, rfl⟩
  have hw0 : IntKind.i64.wrap ((dl : Int) - n) = G0 := by have := hG0.out; rw [IntKind.wrap_i64]; omega
  have HG : Hid (0 ≤ G0 ∧ G0 ≤ 1048576) := by have := hG0.out; simp only [Hid]; omega
  have hn0 : (0 : Int) ≤ n := by omega
  have hnc : (n : Int) ≤ cd := by omega
  obtain ⟨w1, hw1⟩ : ∃ w1, w1 = w.setCell ⟨F, 0, none⟩ (.slice Ad n n) := ⟨_, rfl⟩
  have HS1 : Hid (ShortAt w F (.slice Ad n n) l0 G0 A c w1 G0 l0) := by
    rw [hw1]
    have hk : ∀ h, h ≠ F → (w.setCell ⟨F, 0, none⟩ (.slice Ad n n)).heap[h]? = w.heap[h]? := fun h hh => Below.heap_setCell w ⟨F, 0, none⟩ _ h hh
    refine ⟨HG.out, rfl, setCell_cells hb, ownsRow_keep hrow fun g hg => hk g (fun e => ?_), hpos, fun h h1 _ => hk h h1, by simp [World.setCell], ⟨rfl, rfl, rfl⟩, hlen⟩
    obtain ⟨cur, hh, _⟩ := own_block hrow hg
    rw [e, hb] at hh; injection hh with hh; injection hh with _ h2 _; exact absurd h2 (by decide)
  have HLEN : Hid (∀ (g : Int) (cur : List (Int × Int)) (wr : World), ShortAt w F (.slice Ad n n) l0 G0 A c wr g cur → lenAt wr F = cur.length) := fun g cur wr h => by
    unfold lenAt
    have : wr.cell? ⟨F, 1, none⟩ = some (.slice A cur.length c) := by simp [World.cell?, h.blk]
    rw [this]
  have hwe : w.setCell ⟨F, 0, none⟩ (.slice Ad n n) = w1 := hw1.symm
  clear hb hrow hpos hn hdl hcd hw1
  rw [hG0.out]
  go_enter Tryz.func65, Tryz.ntmps65
  go_wp2
  try rw [hwe]
  clear hwe f0 f1 ff hw0 hn0 hnc
  go_loopw [4] (fun t wr => ∃ (g : Int) (cur : List (Int × Int)), t = .int .i64 g ∧ Hid (ShortAt w F (.slice Ad n n) l0 G0 A c wr g cur)) (fun t wr => 2 * lenAt wr F + (if 0 < intOf t then 1 else 0))
  case atStart => exact ⟨G0, l0, rfl, HS1.out⟩
  case round =>
    obtain ⟨g, cur, rfl, HS⟩ := hrel
    have f0 : wr.cell? ⟨F, 0, none⟩ = some (.slice Ad n n) := by simp [World.cell?, HS.out.blk]
    have f1 : wr.cell? ⟨F, 1, none⟩ = some (.slice A cur.length c) := by simp [World.cell?, HS.out.blk]
    have ff : ∀ i, wr.frozen? ⟨F, i, none⟩ = false := fun i => by simp [World.frozen?, HS.out.blk]
    by_cases hg : 0 < g
    · by_cases hc : cur = []
      · subst hc
        simp only [List.length_nil] at f1
        go_wp2
        go_end0
        exact ⟨⟨_, rfl⟩, g, [], .inr rfl, HS.out⟩
      · obtain ⟨l, p, rfl⟩ : ∃ l p, cur = l ++ [p] := ⟨_, _, (List.dropLast_concat_getLast hc).symm⟩
        obtain ⟨m, hm⟩ : ∃ m, Hid (l.length = m) := ⟨_, rfl⟩
        have hrow := HS.out.row
        rw [List.length_append, List.length_singleton] at hrow f1
        obtain ⟨b, rfl, hblt, d0, d1, df, hmc, hset⟩ := pieces_last hrow
        rw [hm.out] at f1 d0 d1 hmc
        have hp := HS.out.pos p (by simp)
        have hFb : ¬ (F = b) := fun e => by
          obtain ⟨cu, hh, _⟩ := own_block HS.out.row (g := b) rfl
          have h2 := HS.out.blk
          rw [e, hh] at h2; injection h2 with h2; injection h2 with _ h2 _; exact absurd h2 (by decide)
        have hbF : ¬ (b = F) := fun e => hFb e.symm
        have HP : Hid (0 < p.2 ∧ p.2 ≤ 1048576 ∧ 0 ≤ g ∧ g ≤ 1048576) := ⟨hp.1, hp.2, HS.out.gone⟩
        have HM : Hid (m + 1 ≤ c) := hmc
        clear hrow hp hc hmc
        have hfew := HS.out.few
        rw [List.length_append, List.length_singleton, hm.out] at hfew
        have hw1 : IntKind.i64.wrap (m : Int) = (m : Int) := by rw [IntKind.wrap_i64]; omega
        have hw3 : wrap64 (m : Int) = (m : Int) := by unfold wrap64; omega
        have hw4 : wrap64 0 = 0 := by unfold wrap64; omega
        have hm0 : (0 : Int) ≤ m := by omega
        have hm1 : (m : Int) < m + 1 := by omega
        have hmc2 : (m : Int) ≤ c := by have := HM.out; omega
        clear hfew
        obtain ⟨z, hz⟩ : ∃ z, Hid (p.2 = z) := ⟨_, rfl⟩
        rw [hz.out] at d1
        have HZ : Hid (0 < z ∧ z ≤ 1048576) := by rw [← hz.out]; exact ⟨HP.out.1, HP.out.2.1⟩
        have f1d : wr.drew.cell? ⟨F, 1, none⟩ = some (.slice (some ⟨b, 0, none⟩) (m + 1) c) := f1
        have HROW : Hid (∀ v : Int, (wr.setCell ⟨b, m * 2 + 1, none⟩ (.int .i64 v)).ownsRow 0 86 2 (.slice (some ⟨b, 0, none⟩) (m + 1) c) (m + 1) (pieceCells (l ++ [(p.1, v)])) ∧ (wr.setCell ⟨b, m * 2 + 1, none⟩ (.int .i64 v)).ownsRow 0 86 2 (.slice (some ⟨b, 0, none⟩) m c) m (pieceCells l)) := by
          have h := hset
          rw [hm.out] at h; exact h
        clear hset
        rcases Int.lt_trichotomy z g with hlt | heq | hlt
        · have hw2 : IntKind.i64.wrap (g - z) = g - z := by have := HP.out; have := HZ.out; rw [IntKind.wrap_i64]; omega
          go_wp2
          go_region_held_law (fun W => W.cell? ⟨F, 1, none⟩ = some (.slice (some ⟨b, 0, none⟩) (m + 1) c)) (first | with_reducible assumption) (fail)
          go_wp2
          have f1e : ((wr.setCell ⟨b, m * 2 + 1, none⟩ (.int .i64 0)).drew).cell? ⟨F, 1, none⟩ = some (.slice (some ⟨b, 0, none⟩) (m + 1) c) := (World.cell?_of_block (w := wr) (a := ⟨F, 1, none⟩) (Below.heap_setCell wr ⟨b, m * 2 + 1, none⟩ _ F hFb)).trans f1
          have ffe : ∀ i, ((wr.setCell ⟨b, m * 2 + 1, none⟩ (.int .i64 0)).drew).frozen? ⟨F, i, none⟩ = false := fun i => (World.frozen?_of_block (w := wr) (a := ⟨F, i, none⟩) (Below.heap_setCell wr ⟨b, m * 2 + 1, none⟩ _ F hFb)).trans (ff i)
          go_region_law (fail)
          all_goals
            have hS := short_drop HS.out hm.out hg (by have := hz.out; omega) hFb (HROW.out 0).2
            rw [hz.out] at hS
            try rw [Int.sub_self] at hS
            have hL := HLEN.out _ _ _ hS
            have hL0 := HLEN.out _ _ _ HS.out
            have hLw : ∀ W' : World, W'.heap = ((wr.setCell ⟨b, m * 2 + 1, none⟩ (.int .i64 0)).setCell ⟨F, 1, none⟩ (.slice (some ⟨b, 0, none⟩) m c)).heap → lenAt W' F = l.length := fun W' e => by rw [← hL]; unfold lenAt World.cell?; rw [e]
            go_wp2
            refine ⟨⟨_, l, rfl, hS.of rfl ⟨rfl, rfl, rfl⟩⟩, ?_⟩
            rw [hL0, hLw]
            · simp
              split <;> split <;> omega
            · rfl
        · subst heq
          have hnl : ¬ (z < z) := by omega
          go_wp2
          go_region_held_law (fun W => W.cell? ⟨F, 1, none⟩ = some (.slice (some ⟨b, 0, none⟩) (m + 1) c)) (first | with_reducible assumption) (fail)
          go_wp2
          have f1e : ((wr.setCell ⟨b, m * 2 + 1, none⟩ (.int .i64 0)).drew).cell? ⟨F, 1, none⟩ = some (.slice (some ⟨b, 0, none⟩) (m + 1) c) := (World.cell?_of_block (w := wr) (a := ⟨F, 1, none⟩) (Below.heap_setCell wr ⟨b, m * 2 + 1, none⟩ _ F hFb)).trans f1
          have ffe : ∀ i, ((wr.setCell ⟨b, m * 2 + 1, none⟩ (.int .i64 0)).drew).frozen? ⟨F, i, none⟩ = false := fun i => (World.frozen?_of_block (w := wr) (a := ⟨F, i, none⟩) (Below.heap_setCell wr ⟨b, m * 2 + 1, none⟩ _ F hFb)).trans (ff i)
          go_region_law (fail)
          all_goals
            have hS := short_drop HS.out hm.out hg (by have := hz.out; omega) hFb (HROW.out 0).2
            rw [hz.out] at hS
            try rw [Int.sub_self] at hS
            have hL := HLEN.out _ _ _ hS
            have hL0 := HLEN.out _ _ _ HS.out
            have hLw : ∀ W' : World, W'.heap = ((wr.setCell ⟨b, m * 2 + 1, none⟩ (.int .i64 0)).setCell ⟨F, 1, none⟩ (.slice (some ⟨b, 0, none⟩) m c)).heap → lenAt W' F = l.length := fun W' e => by rw [← hL]; unfold lenAt World.cell?; rw [e]
            go_wp2
            refine ⟨⟨_, l, rfl, hS.of rfl ⟨rfl, rfl, rfl⟩⟩, ?_⟩
            rw [hL0, hLw]
            · simp
              split <;> split <;> omega
            · rfl
        · have hnl : ¬ (z < g) := by omega
          have hw2 : IntKind.i64.wrap (z - g) = z - g := by have := HP.out; have := HZ.out; rw [IntKind.wrap_i64]; omega
          have hne : ¬ (z - g = 0) := by omega
          have hned : decide (z - g = 0) = false := by simp [hne]
          go_wp2
          go_region_held_law (fun W => W.cell? ⟨F, 1, none⟩ = some (.slice (some ⟨b, 0, none⟩) (m + 1) c)) (first | with_reducible assumption) (fail)
          go_wp2
          have hS := short_part HS.out hm.out hg (by have := hz.out; omega) hFb (by rw [hz.out]; exact (HROW.out (z - g)).1)
          rw [hz.out] at hS
          have hL := HLEN.out _ _ _ hS
          have hL0 := HLEN.out _ _ _ HS.out
          refine ⟨⟨_, _, rfl, hS.of rfl ⟨rfl, rfl, rfl⟩⟩, ?_⟩
          have hLw : ∀ W' : World, W'.heap = (wr.setCell ⟨b, m * 2 + 1, none⟩ (.int .i64 (z - g))).heap → lenAt W' F = (l ++ [(p.1, z - g)]).length := fun W' e => by rw [← hL]; unfold lenAt World.cell?; rw [e]
          rw [hL0, hLw]
          · simp [intOf, hg]
          · rfl
    · have hg0 : g ≤ 0 := by omega
      have hg2 : ¬ (0 < g) := hg
      clear hg
      go_wp2
      go_end0
      exact ⟨⟨_, rfl⟩, g, .inl ⟨hg0, cur, HS.out⟩⟩
end Go.Proofs.YthokoimoiamddaaGreatDoor
