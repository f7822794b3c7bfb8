/-
  disk: the two disks side by side, kept through a step's boxes. Own work.
  disk: the law's step at Delete: both sides alike. Own work.
  disk: the law's step at Sync: both sides alike. Own work.
  disk: the law's step at Cut: both sides alike. Own work.
  disk: the law's step at Crash: both sides alike. Own work.
  disk: the law's step at Append: both sides alike; where they refuse. Own work.
  disk: the law's step, whatever the call: both sides alike. Own work.
-/
import Derived.Test.YtfhdcjfkngflbaaGreatDoorP12
import Derived.Test.YtfhdcjfkngflbaaGreatDoorP10
import Derived.Test.YtfhdcjfkngflbaaGreatDoorP13
import Derived.Test.YtfhdcjfkngflbaaGreatDoorDiskRefD
import Derived.Test.YtfhdcjfkngflbaaGreatDoorP6
import Derived.Test.YtfhdcjfkngflbaaGreatDoorDiskRefS
import Derived.Test.YtfhdcjfkngflbaaGreatDoorDiskRefC
import Derived.Test.YtfhdcjfkngflbaaGreatDoorDiskRefX
import Derived.Test.YtfhdcjfkngflbaaGreatDoorDiskStep0
import Derived.Test.YtfhdcjfkngflbaaGreatDoorDiskRefA
import Derived.Test.YtfhdcjfkngflbaaGreatDoorDiskRefA1
import Derived.Test.YtfhdcjfkngflbaaGreatDoorDiskRefA2
set_option linter.unusedSimpArgs false
set_option linter.unusedVariables false
namespace Go.Proofs.YtfhdcjfkngflbaaGreatDoor
open Go Go.RowKit

/-- The disk's blocks, and the law's own boxes. -/
def ownX (s : St) (X : Nat → Prop) (g : Nat) : Prop := s.own g ∨ X g
/-- What holds between the document's call and the disk's: the document's new files, the disk as it was. -/
def Mid (w0 : World) (X : Nat → Prop) (base B : Nat) (v : Vw) (t : Int) (n0 : Nat) (s : St) (L : List RF) (A' : Option Addr) (n' c' : Nat) (W : World) : Prop :=
  RefD (fun g => ownX s X g ∨ (w0.heap.size ≤ g ∧ g < w0.heap.size + 4)) W A' n' c' L ∧ Dk base W B v t n0 s ∧ ErrT W ∧ Below w0.heap.size w0 W
theorem Dk.side {w0 W W' : World} {base B n : Nat} {v : Vw} {t : Int} {s : St} (h : Dk base W B v t n s) (h0 : ∀ g, s.own g → g < w0.heap.size) (hs : Side w0.heap.size (w0.heap.size + 4) W W') : Dk base W' B v t n s :=
  ⟨h.at_.keep fun g hg => hs.block g (h.at_.lt hg) (by have := h0 g hg; omega), h.B, h.view, h.turn, h.len, Nat.le_trans h.low hs.size⟩
theorem Side.low {w0 W W' : World} {base : Nat} (hs : Side w0.heap.size (w0.heap.size + 4) W W') (hb : base ≤ w0.heap.size) (hW : base ≤ W.heap.size) : Below base W W' :=
  ⟨hs.os, hs.tape, hs.output, hs.size, fun k hk => hs.block k (by omega) (by omega)⟩
theorem Mid.side {X : Nat → Prop} {w0 W W' : World} {base B n0 : Nat} {v : Vw} {t : Int} {s : St} {L : List RF} {A' : Option Addr} {n' c' : Nat} (h : Mid w0 X base B v t n0 s L A' n' c' W) (h0 : ∀ g, s.own g → g < w0.heap.size) (hb : base ≤ w0.heap.size) (he : 0 < w0.heap.size) (hs : Side w0.heap.size (w0.heap.size + 4) W W') : Mid w0 X base B v t n0 s L A' n' c' W' := by
  obtain ⟨h1, h2, h3, h4⟩ := h
  refine ⟨h1.keep (fun g hg hp => hs.block g hg fun e => hp (.inr e)) (fun _ _ h => h), h2.side h0 hs, ?_, h4.trans (hs.low (Nat.le_refl _) h4.size)⟩
  have hlt := World.block_lt_of_cell? W _ h3
  exact (World.cell?_of_block (w := W) (a := ⟨0, 0, none⟩) (hs.block _ hlt (by simp only; omega))).trans h3
/-- What holds behind the disk's call (s0: the disk ahead of it). -/
def Fin (w0 : World) (s0 : St) (X : Nat → Prop) (base B : Nat) (v : Vw) (t : Int) (L : List RF) (A' : Option Addr) (n' c' : Nat) (W : World) : Prop :=
  ∃ s : St, RefD (fun g => ownX s X g ∨ (w0.heap.size ≤ g ∧ g < w0.heap.size + 4)) W A' n' c' L ∧ Dk base W B v t n' s ∧ ErrT W ∧ Below base w0 W ∧ (∀ g, s.own g → ¬ (w0.heap.size ≤ g ∧ g < w0.heap.size + 4)) ∧ (∀ g, g < w0.heap.size → ¬ s0.own g → W.heap[g]? = w0.heap[g]? ∧ ¬ s.own g)
theorem Fin.side {X : Nat → Prop} {w0 W W' : World} {s0 : St} {base B : Nat} {v : Vw} {t : Int} {L : List RF} {A' : Option Addr} {n' c' : Nat} (h : Fin w0 s0 X base B v t L A' n' c' W) (hb : base ≤ w0.heap.size) (he : 0 < w0.heap.size) (hs : Side w0.heap.size (w0.heap.size + 4) W W') : Fin w0 s0 X base B v t L A' n' c' W' := by
  obtain ⟨s, h1, h2, h3, h4, h5, h6⟩ := h
  have hsz := h4.size
  refine ⟨s, h1.keep (fun g hg hp => hs.block g hg fun e => hp (.inr e)) (fun _ _ h => h), ⟨h2.at_.keep fun g hg => hs.block g (h2.at_.lt hg) (h5 g hg), h2.B, h2.view, h2.turn, h2.len, Nat.le_trans h2.low hs.size⟩, ?_, h4.trans (hs.low hb (Nat.le_trans hb h4.size)), h5, fun g hg hn => ⟨(hs.block g (by omega) (by omega)).trans (h6 g hg hn).1, (h6 g hg hn).2⟩⟩
  have hlt := World.block_lt_of_cell? W _ h3
  exact (World.cell?_of_block (w := W) (a := ⟨0, 0, none⟩) (hs.block _ hlt (by simp only; omega))).trans h3
theorem Fin.ref {X : Nat → Prop} {w0 W : World} {s0 : St} {base B : Nat} {v : Vw} {t : Int} {L : List RF} {A' : Option Addr} {n' c' : Nat} (h : Fin w0 s0 X base B v t L A' n' c' W) : ∃ s : St, RefD (ownX s X) W A' n' c' L ∧ Dk base W B v t n' s ∧ ErrT W ∧ Below base w0 W ∧ (∀ g, g < w0.heap.size → ¬ s0.own g → W.heap[g]? = w0.heap[g]? ∧ ¬ s.own g) := by
  obtain ⟨s, h1, h2, h3, h4, _, h5⟩ := h
  exact ⟨s, h1.keep (fun _ _ _ => rfl) fun _ _ h => .inl h, h2, h3, h4, h5⟩
/-- The disk's call, behind the document's. -/
theorem Mid.fin {X : Nat → Prop} {w0 W W' : World} {base B n0 : Nat} {v v' : Vw} {t t' : Int} {s s' : St} {L : List RF} {A' : Option Addr} {n' c' : Nat} (h : Mid w0 X base B v t n0 s L A' n' c' W) (h0 : ∀ g, s.own g → g < w0.heap.size) (hb : base ≤ w0.heap.size) (he : 0 < base) (hz : w0.heap.size + 4 ≤ W.heap.size)
    (hd : Dk base W' B v' t' n' s') (hf : Frame s s' W W') (hbl : Below base W W') : Fin w0 s X base B v' t' L A' n' c' W' ∧ (∀ g, w0.heap.size ≤ g → g < w0.heap.size + 4 → W'.heap[g]? = W.heap[g]?) ∧ W.heap.size ≤ W'.heap.size := by
  obtain ⟨h1, h2, h3, h4⟩ := h
  refine ⟨⟨s', h1.keep (fun g hg hp => hf.block g hg fun e => hp (.inl (.inl e))) (fun g hg hp => ?_), hd, (hbl.cell (p := ⟨0, 0, none⟩) he).trans h3, (h4.mono hb).trans hbl, fun g hg hx => ?_, fun g hg hn => ⟨(hf.block g (by omega) hn).trans (h4.block g hg), fun e => ?_⟩⟩, fun g h5 h6 => hf.block g (by omega) (fun e => by have := h0 g e; omega), hf.size⟩
  · rcases hp with (hp | hp) | hp
    · rcases hf.own g hp with h | h
      · exact .inl (.inl h)
      · omega
    · exact .inl (.inr hp)
    · exact .inr hp
  · rcases hf.own g hg with h | h
    · have := h0 g h; omega
    · omega
  · rcases hf.own g e with h | h
    · exact hn h
    · omega
/-- The disk's call where it refuses. -/
theorem Mid.stay {X : Nat → Prop} {w0 W : World} {base B n' : Nat} {v : Vw} {t : Int} {s : St} {L : List RF} {A' : Option Addr} {c' : Nat} (h : Mid w0 X base B v t n' s L A' n' c' W) (h0 : ∀ g, s.own g → g < w0.heap.size) (hb : base ≤ w0.heap.size) : Fin w0 s X base B v t L A' n' c' W := by
  obtain ⟨h1, h2, h3, h4⟩ := h
  exact ⟨s, h1, h2, h3, h4.mono hb, fun g hg hx => by have := h0 g hg; omega, fun g hg hn => ⟨h4.block g hg, hn⟩⟩
end Go.Proofs.YtfhdcjfkngflbaaGreatDoor
set_option linter.unusedSimpArgs false
set_option linter.unusedVariables false
namespace Go.Proofs.YtfhdcjfkngflbaaGreatDoor
open Go Go.RowKit

section
variable {base B n : Nat} {w : World} {v : Vw} {t : Int} {s : St} {A : Option Addr} {c : Nat} {L : List RF} {last : Int} {a : Int → Int} {X : Nat → Prop}
/-- No file of a view is longer than M. -/
def VwB (v : Vw) (M : Nat) : Prop := ∀ k p, v k = some p → p.1.length ≤ M
theorem Coup.of_vwb (hC : Coup v t n L last a) {M : Nat} (h : VwB v M) : ∀ f ∈ L, f.data.length ≤ M := fun f hf => by
  obtain ⟨ps, h1, _⟩ := hC.some_ f hf
  exact h _ _ h1
theorem VwB.crash {f : Int → Int} {M : Nat} (h : VwB v M) : VwB (crashV f v) M := fun k p hp => by
  unfold crashV at hp
  cases hv : v k with
  | none => rw [hv] at hp; cases hp
  | some q =>
    rw [hv] at hp
    cases hp
    have := h k q hv
    simp only [List.length_take]; omega
theorem Coup.loose_le (hC : Coup v t n L last a) {M : Nat} (h : VwB v M) : ((L.map (·.name)).map (openV v)).sum ≤ (M : Int) * L.length := by
  have key : ∀ l : List RF, (∀ f ∈ l, openV v f.name ≤ (M : Int)) → ((l.map (·.name)).map (openV v)).sum ≤ (M : Int) * l.length := by
    intro l
    induction l with
    | nil => intro _; simp
    | cons f l ih =>
      intro hl
      have h1 := hl f (by simp)
      have h2 := ih fun g hg => hl g (by simp [hg])
      simp only [List.map_cons, List.sum_cons, List.length_cons]
      rw [Int.natCast_add, Int.mul_add]
      omega
  refine key L fun f hf => ?_
  obtain ⟨ps, h1, _⟩ := hC.some_ f hf
  have h2 := h _ _ h1
  have h3 := hC.ok.sum _ _ h1
  unfold openV
  rw [h1]
  simp only at h2 h3 ⊢
  omega
theorem VwB.drop {k : ByteArray} {M : Nat} (h : VwB v M) : VwB (dropV v k) M := fun k' p hp => by
  unfold dropV at hp
  split at hp
  · cases hp
  · exact h k' p hp
theorem VwB.cut {k : ByteArray} {m M : Nat} (h : VwB v M) : VwB (cutVw v k m) M := fun k' p hp => by
  unfold cutVw at hp
  split at hp
  · cases hv : v k with
    | none => rw [hv] at hp; cases hp
    | some q =>
      rw [hv] at hp
      cases hp
      have := h k q hv
      simp only [cutP, List.length_take]; omega
  · exact h k' p hp
theorem VwB.sync {M : Nat} (h : VwB v M) : VwB (syncV v) M := fun k p hp => by
  unfold syncV at hp
  cases hv : v k with
  | none => rw [hv] at hp; cases hp
  | some q => rw [hv] at hp; cases hp; exact h k q hv
theorem VwB.app {k : ByteArray} {bs : List UInt8} {M : Nat} (h : VwB v M) : VwB (appV v t k bs) (M + bs.length) := fun k' p hp => by
  unfold appV at hp
  split at hp
  · cases hp
    cases hv : v k with
    | none => simp
    | some q =>
      have := h k q hv
      simp; omega
  · have := h k' p hp
    omega
theorem VwB.mono {M M' : Nat} (h : VwB v M) (hm : M ≤ M') : VwB v M' := fun k p hp => Nat.le_trans (h k p hp) hm
theorem refd_box {W : World} (hR : RefD (ownX s X) w A n c L) (hW : Below w.heap.size w W) : RefD (fun g => ownX s X g ∨ (w.heap.size ≤ g ∧ g < w.heap.size + 4)) W A n c L :=
  hR.keep (fun g hg _ => hW.block g hg) fun g hg hp => by
    rcases hp with hp | hp
    · exact hp
    · omega
theorem mid_of {W W' : World} {L' : List RF} {A' : Option Addr} {n' c' : Nat} (hD : Dk base w B v t n s) (hg : ErrT w) (hW : Below w.heap.size w W) (hb : Below W.heap.size W W') (h : RefD (fun g => ownX s X g ∨ (w.heap.size ≤ g ∧ g < w.heap.size + 4)) W' A' n' c' L') : Mid w X base B v t n s L' A' n' c' W' := by
  have hww : Below w.heap.size w W' := hW.trans (hb.mono hW.size)
  exact ⟨h, hD.below hww, hg.below hww, hww⟩
theorem step_del (hD : Dk base w B v t n s) (hC : Coup v t n L last a) (hR : RefD (ownX s X) w A n c L) (hg : ErrT w) (he : 0 < base) (hX : ∀ g, X g → g < w.heap.size) (nm : ByteArray) (Ap : Option Addr) (m cp : Nat) (N : Int) :
    Calls Tryz.prog 7 #[.pointer (some ⟨B, 0, none⟩), .agg #[.slice A n c, .int .i64 last], .agg #[.int .i64 2, .string nm, .slice Ap m cp, .int .i64 N]] w fun e w' => ∃ (A' : Option Addr) (n' c' : Nat) (v' : Vw) (L' : List RF), e = .returned (.tuple #[.agg #[.slice A' n' c', .int .i64 last], .bool true]) ∧ Fin w s X base B v' t L' A' n' c' w' ∧ Coup v' t n' L' last a ∧ ∀ M, VwB v M → VwB v' M := by
  have h0 : ∀ g, s.own g → g < w.heap.size := fun g h => hD.at_.lt h
  have hb := hD.low
  have h0X : ∀ g, ownX s X g → g < w.heap.size := fun g hg => by
    rcases hg with h | h
    · exact h0 g h
    · exact hX g h
  have he2 : 0 < w.heap.size := Nat.lt_of_lt_of_le he hb
  obtain ⟨_, _, _, _, hn⟩ := hD.keys
  cases hv : v nm with
  | none =>
    refine (step_2 B A n c last last nm Ap m cp N w (errV (some 10)) true 10 (fun A' n' c' W => Mid w X base B v t n s L A' n' c' W ∧ n' = n) (fun A' n' c' W => Fin w s X base B v t L A' n' c' W ∧ n' = n)
      (fun A' n' c' W W' h hs => ⟨h.1.side h0 hb he2 hs, h.2⟩) (fun A' n' c' W W' h hs => ⟨h.1.side hb he2 hs, h.2⟩) (fun W hW hz => ?_) (fun W A' n' c' h hz => ?_) (fun W A' n' c' h => ?_)).mono ?_
    · refine (refdel_none _ A n c L last nm W (refd_box hR hW) hn hC.sorted (hC.miss hv)).mono ?_
      rintro e w' ⟨rfl, hb'⟩
      exact ⟨A, n, c, rfl, hb'.out, mid_of hD hg hW hb'.out ((refd_box hR hW).below hb'.out), rfl⟩
    · obtain ⟨h1, rfl⟩ := h
      refine (dk_delete_miss h1.2.1 hv).mono ?_
      rintro e w' ⟨rfl, rfl⟩
      exact ⟨rfl, ⟨h1.stay h0 hb, rfl⟩, fun _ _ _ => rfl, Nat.le_refl _⟩
    · obtain ⟨s', _, _, h3, _⟩ := h.1.ref
      exact fails_same (some 10) W h3
    · rintro e w' ⟨A', n', c', rfl, h, rfl⟩
      exact ⟨A', _, c', v, L, rfl, h, hC, fun _ h => h⟩
  | some p =>
    obtain ⟨f, hf, rfl, hd, ht⟩ := hC.hit hv
    obtain ⟨i, hi⟩ := List.mem_iff_getElem?.1 hf
    have hlen : (L.eraseIdx i).length = n - 1 := by
      rw [List.length_eraseIdx, if_pos (List.getElem?_eq_some_iff.1 hi).1, hC.len]
    refine (step_2 B A n c last last f.name Ap m cp N w (errV none) false 0 (fun A' n' c' W => Mid w X base B v t n s (L.eraseIdx i) A' n' c' W) (fun A' n' c' W => Fin w s X base B (dropV v f.name) t (L.eraseIdx i) A' n' c' W)
      (fun A' n' c' W W' h hs => h.side h0 hb he2 hs) (fun A' n' c' W W' h hs => h.side hb he2 hs) (fun W hW hz => ?_) (fun W A' n' c' h hz => ?_) (fun W A' n' c' h => ?_)).mono ?_
    · refine (refdel_ok _ A n c L last i f W (refd_box hR hW) (fun g hg => by
        rcases hg with hg | hg
        · have := h0X g hg; have := hW.size; omega
        · omega) hn hC.sorted hi).mono ?_
      rintro e w' ⟨A', n', c', rfl, hx⟩
      exact ⟨A', n', c', rfl, hx.out.2, mid_of hD hg hW hx.out.2 hx.out.1⟩
    · refine (dk_delete h.2.1 hv).mono ?_
      rintro e w' ⟨rfl, s', h5, h6, h7⟩
      rw [← hlen, h.1.len] at h5
      obtain ⟨h8, h9, h10⟩ := h.fin h0 hb he hz h5 h6 h7
      exact ⟨rfl, h8, h9, h10⟩
    · obtain ⟨s', _, _, h3, _⟩ := h.ref
      exact fails_same none W h3
    · rintro e w' ⟨A', n', c', rfl, h⟩
      refine ⟨A', n', c', dropV v f.name, L.eraseIdx i, rfl, h, ?_, fun M hM => hM.drop⟩
      obtain ⟨s', h3, _⟩ := h.ref
      rw [← h3.len, hlen]
      exact coup_del hC hi
end
end Go.Proofs.YtfhdcjfkngflbaaGreatDoor
set_option linter.unusedSimpArgs false
set_option linter.unusedVariables false
namespace Go.Proofs.YtfhdcjfkngflbaaGreatDoor
open Go Go.RowKit

section
variable {base B n : Nat} {w : World} {v : Vw} {t : Int} {s : St} {A : Option Addr} {c : Nat} {L : List RF} {last : Int} {a : Int → Int} {X : Nat → Prop}
theorem step_sync (hD : Dk base w B v t n s) (hC : Coup v t n L last a) (hR : RefD (ownX s X) w A n c L) (hg : ErrT w) (he : 0 < base) (hX : ∀ g, X g → g < w.heap.size) (hT : ∀ f ∈ L, f.data.length ≤ 10000) (nm : ByteArray) (Ap : Option Addr) (m cp : Nat) (N : Int) :
    Calls Tryz.prog 7 #[.pointer (some ⟨B, 0, none⟩), .agg #[.slice A n c, .int .i64 last], .agg #[.int .i64 3, .string nm, .slice Ap m cp, .int .i64 N]] w fun e w' => ∃ (A' : Option Addr) (n' c' : Nat) (L' : List RF), e = .returned (.tuple #[.agg #[.slice A' n' c', .int .i64 last], .bool true]) ∧ Fin w s X base B (syncV v) t L' A' n' c' w' ∧ Coup (syncV v) t n' L' last a := by
  have h0 : ∀ g, s.own g → g < w.heap.size := fun g h => hD.at_.lt h
  have hb := hD.low
  have h0X : ∀ g, ownX s X g → g < w.heap.size := fun g hg => by
    rcases hg with h | h
    · exact h0 g h
    · exact hX g h
  have he2 : 0 < w.heap.size := Nat.lt_of_lt_of_le he hb
  obtain ⟨_, _, _, _, hn⟩ := hD.keys
  refine (step_3 B A n c last last nm Ap m cp N w (errV none) (fun A' n' c' W => ∃ L', Mid w X base B v t n s L' A' n' c' W ∧ n' = n ∧ Coup (syncV v) t n L' last a) (fun A' n' c' W => ∃ L', Fin w s X base B (syncV v) t L' A' n' c' W ∧ n' = n ∧ Coup (syncV v) t n L' last a)
    (fun A' n' c' W W' h hs => by obtain ⟨L', h, r⟩ := h; exact ⟨L', h.side h0 hb he2 hs, r⟩) (fun A' n' c' W W' h hs => by obtain ⟨L', h, r⟩ := h; exact ⟨L', h.side hb he2 hs, r⟩) (fun W hW hz => ?_) (fun W A' n' c' h hz => ?_) (fun W A' n' c' h => ?_)).mono ?_
  · refine (sync_in _ A n c L last W (refd_box hR hW) (fun g hg => by
      rcases hg with hg | hg
      · have := h0X g hg; have := hW.size; omega
      · omega) hn hT).mono ?_
    rintro e w' ⟨A', c', L', rfl, hx⟩
    obtain ⟨h1, h2, h3, h4⟩ := hx.out
    refine ⟨A', n, c', rfl, h2, L', mid_of hD hg hW h2 h1, rfl, ?_⟩
    rw [sync_eq]
    refine coup_safe hC (fun p => p.1.length) (fun k p _ => Nat.le_refl _) L' h3 fun i f f' hf hf' => ?_
    obtain ⟨h5, h6, h7⟩ := h4 i f f' hf hf'
    refine ⟨h5, fun p hp => ?_⟩
    obtain ⟨ps, h8, _⟩ := hC.some_ f (List.mem_of_getElem? hf)
    rw [hp] at h8
    cases h8
    exact ⟨h6, h7⟩
  · obtain ⟨L', h, rfl, r⟩ := h
    refine (dk_sync h.2.1).mono ?_
    rintro e w' ⟨rfl, s', h5, h6, h7⟩
    obtain ⟨h8, h9, h10⟩ := h.fin h0 hb he hz h5 h6 h7
    exact ⟨rfl, ⟨L', h8, rfl, r⟩, h9, h10⟩
  · obtain ⟨L', h, _⟩ := h
    obtain ⟨s', _, _, h3, _⟩ := h.ref
    exact fails_same none W h3
  · rintro e w' ⟨A', n', c', rfl, L', h, rfl, r⟩
    exact ⟨A', _, c', L', rfl, h, r⟩
end
end Go.Proofs.YtfhdcjfkngflbaaGreatDoor
set_option linter.unusedSimpArgs false
set_option linter.unusedVariables false
namespace Go.Proofs.YtfhdcjfkngflbaaGreatDoor
open Go Go.RowKit

section
variable {base B n : Nat} {w : World} {v : Vw} {t : Int} {s : St} {A : Option Addr} {c : Nat} {L : List RF} {last : Int} {a : Int → Int} {X : Nat → Prop}
theorem dk_cut_miss (h : Dk base w B v t n s) {k : ByteArray} (N : Int) (hv : v k = none) : Calls Tryz.prog 19 #[.pointer (some ⟨B, 0, none⟩), .string k, .int .i64 N] w fun e w' => e = .returned (errV (some 10)) ∧ w = w' := by
  obtain ⟨h1, h2, h3, h4, h5, h6⟩ := h
  subst h2 h3
  exact cut_miss base s k N w h1 (view_none hv)
theorem dk_cut_bad (h : Dk base w B v t n s) {k : ByteArray} {p : List UInt8 × List (Int × Int)} (N : Int) (hv : v k = some p) (hN : N < 0 ∨ (p.1.length : Int) < N) : Calls Tryz.prog 19 #[.pointer (some ⟨B, 0, none⟩), .string k, .int .i64 N] w fun e w' => e = .returned (errV (some 1)) ∧ w = w' := by
  obtain ⟨h1, h2, h3, h4, h5, h6⟩ := h
  subst h2 h3
  obtain ⟨r, h7, h8, _⟩ := view_is hv
  exact cut_bad base s k r N w h1 h7 (by rw [h8]; exact hN)
/-- Where both refuse. -/
theorem step_cut_no (hD : Dk base w B v t n s) (hC : Coup v t n L last a) (hR : RefD (ownX s X) w A n c L) (hg : ErrT w) (he : 0 < base) (hX : ∀ g, X g → g < w.heap.size) (nm : ByteArray) (Ap : Option Addr) (m cp : Nat) (N : Int) (E : Int)
    (h1 : ∀ W, RefD (fun g => ownX s X g ∨ (w.heap.size ≤ g ∧ g < w.heap.size + 4)) W A n c L → Calls Tryz.prog 18 #[.agg #[.slice A n c, .int .i64 last], .string nm, .int .i64 N] W fun e w' => e = .returned (.tuple #[.agg #[.slice A n c, .int .i64 last], eV (some E)]) ∧ Hid (Below W.heap.size W w'))
    (h2 : ∀ W, Dk base W B v t n s → Calls Tryz.prog 19 #[.pointer (some ⟨B, 0, none⟩), .string nm, .int .i64 N] W fun e w' => e = .returned (errV (some E)) ∧ W = w') :
    Calls Tryz.prog 7 #[.pointer (some ⟨B, 0, none⟩), .agg #[.slice A n c, .int .i64 last], .agg #[.int .i64 1, .string nm, .slice Ap m cp, .int .i64 N]] w fun e w' => ∃ (A' : Option Addr) (n' c' : Nat) (v' : Vw) (L' : List RF), e = .returned (.tuple #[.agg #[.slice A' n' c', .int .i64 last], .bool true]) ∧ Fin w s X base B v' t L' A' n' c' w' ∧ Coup v' t n' L' last a ∧ ∀ M, VwB v M → VwB v' M := by
  have h0 : ∀ g, s.own g → g < w.heap.size := fun g h => hD.at_.lt h
  have hb := hD.low
  have h0X : ∀ g, ownX s X g → g < w.heap.size := fun g hg => by
    rcases hg with h | h
    · exact h0 g h
    · exact hX g h
  have he2 : 0 < w.heap.size := Nat.lt_of_lt_of_le he hb
  refine (step_1 B A n c last last nm Ap m cp N w (errV (some E)) true E (fun A' n' c' W => Mid w X base B v t n s L A' n' c' W ∧ n' = n) (fun A' n' c' W => Fin w s X base B v t L A' n' c' W ∧ n' = n)
    (fun A' n' c' W W' h hs => ⟨h.1.side h0 hb he2 hs, h.2⟩) (fun A' n' c' W W' h hs => ⟨h.1.side hb he2 hs, h.2⟩) (fun W hW hz => ?_) (fun W A' n' c' h hz => ?_) (fun W A' n' c' h => ?_)).mono ?_
  · refine (h1 W (refd_box hR hW)).mono ?_
    rintro e w' ⟨rfl, hb'⟩
    exact ⟨A, n, c, rfl, hb'.out, mid_of hD hg hW hb'.out ((refd_box hR hW).below hb'.out), rfl⟩
  · obtain ⟨h3, rfl⟩ := h
    refine (h2 W h3.2.1).mono ?_
    rintro e w' ⟨rfl, rfl⟩
    exact ⟨rfl, ⟨h3.stay h0 hb, rfl⟩, fun _ _ _ => rfl, Nat.le_refl _⟩
  · obtain ⟨s', _, _, h3, _⟩ := h.1.ref
    exact fails_same (some E) W h3
  · rintro e w' ⟨A', n', c', rfl, h, rfl⟩
    exact ⟨A', _, c', v, L, rfl, h, hC, fun _ h => h⟩
theorem step_cut_all (hD : Dk base w B v t n s) (hC : Coup v t n L last a) (hR : RefD (ownX s X) w A n c L) (hg : ErrT w) (he : 0 < base) (hX : ∀ g, X g → g < w.heap.size) (hT : ∀ f ∈ L, f.data.length ≤ 10000) (nm : ByteArray) (Ap : Option Addr) (m cp : Nat) (N : Int) :
    Calls Tryz.prog 7 #[.pointer (some ⟨B, 0, none⟩), .agg #[.slice A n c, .int .i64 last], .agg #[.int .i64 1, .string nm, .slice Ap m cp, .int .i64 N]] w fun e w' => ∃ (A' : Option Addr) (n' c' : Nat) (v' : Vw) (L' : List RF), e = .returned (.tuple #[.agg #[.slice A' n' c', .int .i64 last], .bool true]) ∧ Fin w s X base B v' t L' A' n' c' w' ∧ Coup v' t n' L' last a ∧ ∀ M, VwB v M → VwB v' M := by
  have h0 : ∀ g, s.own g → g < w.heap.size := fun g h => hD.at_.lt h
  have hb := hD.low
  have h0X : ∀ g, ownX s X g → g < w.heap.size := fun g hg => by
    rcases hg with h | h
    · exact h0 g h
    · exact hX g h
  have he2 : 0 < w.heap.size := Nat.lt_of_lt_of_le he hb
  obtain ⟨_, _, _, _, hn⟩ := hD.keys
  cases hv : v nm with
  | none => exact step_cut_no hD hC hR hg he hX nm Ap m cp N 10 (fun W h => refcut_none _ A n c L last nm N W h hn hC.sorted (hC.miss hv)) (fun W h => dk_cut_miss h N hv)
  | some p =>
    obtain ⟨f, hf, rfl, hd, ht⟩ := hC.hit hv
    obtain ⟨i, hi⟩ := List.mem_iff_getElem?.1 hf
    by_cases hN : N < 0
    · exact step_cut_no hD hC hR hg he hX f.name Ap m cp N 1 (fun W h => refcut_neg _ A n c L last f.name N W h hn hC.sorted i f hi rfl hN) (fun W h => dk_cut_bad h N hv (.inl hN))
    · by_cases hF : (p.1.length : Int) < N
      · exact step_cut_no hD hC hR hg he hX f.name Ap m cp N 1 (fun W h => refcut_far _ A n c L last f.name N W h hn hC.sorted i f hi rfl hN p.1.length (by rw [hd]) hF) (fun W h => dk_cut_bad h N hv (.inr hF))
      · obtain ⟨k, rfl⟩ : ∃ k : Nat, N = k := ⟨N.toNat, by omega⟩
        have hk : k ≤ p.1.length := by omega
        refine (step_1 B A n c last last f.name Ap m cp k w (errV none) false 0 (fun A' n' c' W => ∃ L', Mid w X base B v t n s L' A' n' c' W ∧ L'.length = n ∧ Coup (cutVw v f.name k) t n L' last a) (fun A' n' c' W => ∃ L', Fin w s X base B (cutVw v f.name k) t L' A' n' c' W ∧ n' = n ∧ Coup (cutVw v f.name k) t n L' last a)
          (fun A' n' c' W W' h hs => by obtain ⟨L', h, r⟩ := h; exact ⟨L', h.side h0 hb he2 hs, r⟩) (fun A' n' c' W W' h hs => by obtain ⟨L', h, r⟩ := h; exact ⟨L', h.side hb he2 hs, r⟩) (fun W hW hz => ?_) (fun W A' n' c' h hz => ?_) (fun W A' n' c' h => ?_)).mono ?_
        · refine (refcut_ok _ A n c L last i f k W (refd_box hR hW) (fun g hg => by
            rcases hg with hg | hg
            · have := h0X g hg; have := hW.size; omega
            · omega) hn hC.sorted hi (hC.turn_len hf) (by rw [hd]; exact hk) (Nat.le_trans (hT f hf) (by decide))).mono ?_
          rintro e w' ⟨A', n', c', f2, rfl, hx⟩
          obtain ⟨h1, h2, h3, h4, h5⟩ := hx.out
          have hc := coup_cut hC hv k hk f2 h3 (by rw [h4, hd]) (by rw [h5, ht])
          exact ⟨A', n', c', rfl, h2, insL f2 L, mid_of hD hg hW h2 h1, hc.len, hc⟩
        · obtain ⟨L', h, r1, r⟩ := h
          refine (dk_cut h.2.1 k hv hk).mono ?_
          rintro e w' ⟨rfl, s', h5, h6, h7⟩
          have e1 : n' = n := by rw [← h.1.len, r1]
          subst e1
          obtain ⟨h8, h9, h10⟩ := h.fin h0 hb he hz h5 h6 h7
          exact ⟨rfl, ⟨L', h8, rfl, r⟩, h9, h10⟩
        · obtain ⟨L', h, _⟩ := h
          obtain ⟨s', _, _, h3, _⟩ := h.ref
          exact fails_same none W h3
        · rintro e w' ⟨A', n', c', rfl, L', h, rfl, r⟩
          exact ⟨A', _, c', _, L', rfl, h, r, fun M hM => hM.cut⟩
end
end Go.Proofs.YtfhdcjfkngflbaaGreatDoor
set_option linter.unusedSimpArgs false
set_option linter.unusedVariables false
namespace Go.Proofs.YtfhdcjfkngflbaaGreatDoor
open Go Go.RowKit

section
variable {base B n : Nat} {w : World} {v : Vw} {t : Int} {s : St} {A : Option Addr} {c : Nat} {L : List RF} {last : Int} {a : Int → Int} {X : Nat → Prop}
/-- Where both refuse. -/
theorem step_crash_no (hD : Dk base w B v t n s) (hC : Coup v t n L last a) (hR : RefD (ownX s X) w A n c L) (hg : ErrT w) (he : 0 < base) (hX : ∀ g, X g → g < w.heap.size) (nm : ByteArray) (Ap : Option Addr) (m cp : Nat) (N : Int) (hN : N < 0) :
    Calls Tryz.prog 7 #[.pointer (some ⟨B, 0, none⟩), .agg #[.slice A n c, .int .i64 last], .agg #[.int .i64 4, .string nm, .slice Ap m cp, .int .i64 N]] w fun e w' => ∃ (A' : Option Addr) (n' c' : Nat) (v' : Vw) (L' : List RF), e = .returned (.tuple #[.agg #[.slice A' n' c', .int .i64 last], .bool true]) ∧ Fin w s X base B v' t L' A' n' c' w' ∧ Coup v' t n' L' last a ∧ ∀ M, VwB v M → VwB v' M := by
  have h0 : ∀ g, s.own g → g < w.heap.size := fun g h => hD.at_.lt h
  have hb := hD.low
  have h0X : ∀ g, ownX s X g → g < w.heap.size := fun g hg => by
    rcases hg with h | h
    · exact h0 g h
    · exact hX g h
  have he2 : 0 < w.heap.size := Nat.lt_of_lt_of_le he hb
  obtain ⟨_, _, _, _, hn⟩ := hD.keys
  refine (step_4 B A n c last last nm Ap m cp N w (errV (some 1)) true 1 (fun A' n' c' W => Mid w X base B v t n s L A' n' c' W ∧ n' = n) (fun A' n' c' W => Fin w s X base B v t L A' n' c' W ∧ n' = n)
    (fun A' n' c' W W' h hs => ⟨h.1.side h0 hb he2 hs, h.2⟩) (fun A' n' c' W W' h hs => ⟨h.1.side hb he2 hs, h.2⟩) (fun W hW hz => ?_) (fun W A' n' c' h hz => ?_) (fun W A' n' c' h => ?_)).mono ?_
  · refine (refcrash_neg _ A n c L last N W (refd_box hR hW) hn hC.sorted hN).mono ?_
    rintro e w' ⟨rfl, hb'⟩
    exact ⟨A, n, c, rfl, hb'.out, mid_of hD hg hW hb'.out ((refd_box hR hW).below hb'.out), rfl⟩
  · obtain ⟨h3, rfl⟩ := h
    refine (crash_neg B N W hN).mono ?_
    rintro e w' ⟨rfl, rfl⟩
    exact ⟨rfl, ⟨h3.stay h0 hb, rfl⟩, fun _ _ _ => rfl, Nat.le_refl _⟩
  · obtain ⟨s', _, _, h3, _⟩ := h.1.ref
    exact fails_same (some 1) W h3
  · rintro e w' ⟨A', n', c', rfl, h, rfl⟩
    exact ⟨A', _, c', v, L, rfl, h, hC, fun _ h => h⟩
/-- What the document's Crash tells of its files. -/
def CrX (L : List RF) (ln keep : Nat) (L' : List RF) (x : Nat) : Prop := L'.length = L.length ∧ x ≤ ln ∧ nHas L x = min keep (nHas L ln) ∧ ∀ (i : Nat) (f f' : RF), L[i]? = some f → L'[i]? = some f' → f'.name = f.name ∧ f'.data = f.data.take (pfx x f.turn) ∧ f'.turn = List.replicate (pfx x f.turn) 0
theorem coup_crash {ln keep x : Nat} {L' : List RF} {l' : List (Int × Int)} (hC : Coup v t n L (ln : Int) a) (hX : CrX L ln keep L' x) (hp : l'.Perm ((L.map (·.name)).flatMap (looseV v))) (hs : l'.Pairwise fun x y => x.1 < y.1) : Coup (crashV (leftF l' (keep : Int)) v) t n L' (ln : Int) a := by
  obtain ⟨h1, h2, h3, h4⟩ := hX
  have hpos := hC.all_pos hC.keys hp
  have hbd : ∀ y ∈ l', 0 ≤ a y.1 ∧ a y.1 + y.2 ≤ (ln : Int) := fun y hy => by
    obtain ⟨k, p, h5, h6⟩ := (all_mem hC.keys hp).1 hy
    have := hC.bd k p y h5 h6
    omega
  have hc := nHas_cnt hC hC.keys hp hs (fun y hy => (hbd y hy).1)
  have hfull := cntP_full a (x := (ln : Int)) hpos fun y hy => (hbd y hy).2
  have hcx : cntP a (x : Int) l' = min (keep : Int) (openOf l') := by
    rw [← hfull, ← hc x, ← hc ln, h3]; omega
  refine coup_safe hC (keepP (leftF l' (keep : Int))) (fun k p hv => ?_) L' h1 fun i f f' hf hf' => ?_
  · have h5 := leftSum_bd (leftF l' (keep : Int)) p.2 fun y hy => leftF_bd (by omega) hpos hs ((all_mem hC.keys hp).2 ⟨k, p, hv, hy⟩)
    have h6 := hC.ok.sum k p hv
    unfold keepP; omega
  · obtain ⟨h5, h6, h7⟩ := h4 i f f' hf hf'
    refine ⟨h5, fun p hv => ?_⟩
    have h8 := hC.crash_pfx hC.keys hp hs (by omega) (by omega) hcx (List.mem_of_getElem? hf) hv
    obtain ⟨ps, h9, _⟩ := hC.some_ f (List.mem_of_getElem? hf)
    rw [hv] at h9
    cases h9
    rw [← h8]
    exact ⟨h6, h7⟩
/-- Where both take. -/
theorem step_crash_ok (hD : Dk base w B v t n s) (hC : Coup v t n L last a) (hR : RefD (ownX s X) w A n c L) (hg : ErrT w) (he : 0 < base) (hX : ∀ g, X g → g < w.heap.size) (hT : VwB v 10000) (hl : last ≤ 1000000000000) (ht : t ≤ 4611686018427387904) (nm : ByteArray) (Ap : Option Addr) (m cp : Nat) (N : Int) (hN : 0 ≤ N) (hN2 : N ≤ 9223372036854775807) :
    Calls Tryz.prog 7 #[.pointer (some ⟨B, 0, none⟩), .agg #[.slice A n c, .int .i64 last], .agg #[.int .i64 4, .string nm, .slice Ap m cp, .int .i64 N]] w fun e w' => ∃ (A' : Option Addr) (n' c' : Nat) (v' : Vw) (L' : List RF), e = .returned (.tuple #[.agg #[.slice A' n' c', .int .i64 last], .bool true]) ∧ Fin w s X base B v' t L' A' n' c' w' ∧ Coup v' t n' L' last a ∧ ∀ M, VwB v M → VwB v' M := by
  have h0 : ∀ g, s.own g → g < w.heap.size := fun g h => hD.at_.lt h
  have hb := hD.low
  have h0X : ∀ g, ownX s X g → g < w.heap.size := fun g hg => by
    rcases hg with h | h
    · exact h0 g h
    · exact hX g h
  have he2 : 0 < w.heap.size := Nat.lt_of_lt_of_le he hb
  obtain ⟨_, _, _, _, hn⟩ := hD.keys
  obtain ⟨ln, rfl⟩ : ∃ k : Nat, last = k := ⟨last.toNat, by have := hC.last0; omega⟩
  obtain ⟨k, rfl⟩ : ∃ k : Nat, N = k := ⟨N.toNat, by omega⟩
  have hlo : ((L.map (·.name)).map (openV v)).sum ≤ 1000000 := by
    have h1 := hC.loose_le hT
    have h2 := hC.len
    have h3 : L.length ≤ 64 := by omega
    omega
  refine (step_4 B A n c ln ln nm Ap m cp k w (errV none) false 0 (fun A' n' c' W => ∃ L' x, Mid w X base B v t n s L' A' n' c' W ∧ n' = n ∧ CrX L ln k L' x) (fun A' n' c' W => ∃ v' L', Fin w s X base B v' t L' A' n' c' W ∧ n' = n ∧ Coup v' t n L' ln a ∧ ∀ M, VwB v M → VwB v' M)
    (fun A' n' c' W W' h hs => by obtain ⟨L', x, h, r⟩ := h; exact ⟨L', x, h.side h0 hb he2 hs, r⟩) (fun A' n' c' W W' h hs => by obtain ⟨v', L', h, r⟩ := h; exact ⟨v', L', h.side hb he2 hs, r⟩) (fun W hW hz => ?_) (fun W A' n' c' h hz => ?_) (fun W A' n' c' h => ?_)).mono ?_
  · refine (crash_in _ A n c L ln k W (refd_box hR hW) (fun g hg => by
      rcases hg with hg | hg
      · have := h0X g hg; have := hW.size; omega
      · omega) hn (fun f hf => ⟨hC.of_vwb hT f hf, hC.turn_len hf⟩) (by omega) (by omega)).mono ?_
    rintro e w' ⟨A', c', L', x, rfl, hx⟩
    obtain ⟨h1, h2, h3⟩ := hx.out
    exact ⟨A', n, c', rfl, h2, L', x, mid_of hD hg hW h2 h1, rfl, h3⟩
  · obtain ⟨L', x, h, rfl, r⟩ := h
    refine (dk_crash h.2.1 (k : Int) hN hN2 ht (sorted_nodup hC.sorted) hC.keys hlo).mono ?_
    rintro e w' ⟨rfl, l', s', h3, h4, h5, h6, h7⟩
    obtain ⟨h8, h9, h10⟩ := h.fin h0 hb he hz h5 h6 h7
    exact ⟨rfl, ⟨_, L', h8, rfl, coup_crash hC r h3 h4, fun M hM => hM.crash⟩, h9, h10⟩
  · obtain ⟨v', L', h, _⟩ := h
    obtain ⟨s', _, _, h3, _⟩ := h.ref
    exact fails_same none W h3
  · rintro e w' ⟨A', n', c', rfl, v', L', h, rfl, r, r2⟩
    exact ⟨A', _, c', v', L', rfl, h, r, r2⟩
end
end Go.Proofs.YtfhdcjfkngflbaaGreatDoor
set_option linter.unusedSimpArgs false
set_option linter.unusedVariables false
namespace Go.Proofs.YtfhdcjfkngflbaaGreatDoor
open Go Go.RowKit

section
variable {base B n : Nat} {w : World} {v : Vw} {t : Int} {s : St} {A : Option Addr} {c : Nat} {L : List RF} {last : Int} {a : Int → Int} {X : Nat → Prop}
theorem twin_len (Ap : Option Addr) (bs : List UInt8) (m cp : Nat) (hm : bs.length = m) (hm2 : m ≤ 1000000) (W : World) (hA : BytesAt W Ap bs) : Calls Tryz.prog 17 #[.slice Ap m cp] W fun e w' => ∃ (At : Option Addr) (ct : Nat), e = .returned (.slice At m ct) ∧ Below W.heap.size W w' ∧ BytesAt w' At bs := by
  subst hm
  refine (twin_any Ap bs cp W hA (by omega)).mono ?_
  rintro e w' ⟨x, rfl, h1, h2⟩
  obtain ⟨At, ct, rfl⟩ := own_slice h1
  exact ⟨At, ct, rfl, h2, BytesAt.of_own h1⟩
/-- Where both refuse. -/
theorem step_app_no (hD : Dk base w B v t n s) (hC : Coup v t n L last a) (hR : RefD (ownX s X) w A n c L) (hg : ErrT w) (he : 0 < base) (hX : ∀ g, X g → g < w.heap.size) (nm : ByteArray) (Ap : Option Addr) (m cp : Nat) (N : Int) (bs : List UInt8) (hm : bs.length = m) (hm2 : m ≤ 1000000) (hA : BytesAt w Ap bs) (E : Int)
    (h1 : ∀ W, RefD (fun g => ownX s X g ∨ (w.heap.size ≤ g ∧ g < w.heap.size + 4)) W A n c L → Calls Tryz.prog 16 #[.agg #[.slice A n c, .int .i64 last], .string nm, .slice Ap m cp] W fun e w' => e = .returned (.tuple #[.agg #[.slice A n c, .int .i64 last], eV (some E)]) ∧ Hid (Below W.heap.size W w'))
    (h2 : ∀ W At ct, Dk base W B v t n s → BytesAt W At bs → Calls Tryz.prog 10 #[.pointer (some ⟨B, 0, none⟩), .string nm, .slice At m ct] W fun e w' => e = .returned (errV (some E)) ∧ W = w') :
    Calls Tryz.prog 7 #[.pointer (some ⟨B, 0, none⟩), .agg #[.slice A n c, .int .i64 last], .agg #[.int .i64 0, .string nm, .slice Ap m cp, .int .i64 N]] w fun e w' => ∃ (A' : Option Addr) (n' c' : Nat) (v' : Vw) (L' : List RF), e = .returned (.tuple #[.agg #[.slice A' n' c', .int .i64 last], .bool true]) ∧ Fin w s X base B v' t L' A' n' c' w' ∧ Coup v' t n' L' last a ∧ ∀ M, VwB v M → VwB v' M := by
  have h0 : ∀ g, s.own g → g < w.heap.size := fun g h => hD.at_.lt h
  have hb := hD.low
  have h0X : ∀ g, ownX s X g → g < w.heap.size := fun g hg => by
    rcases hg with h | h
    · exact h0 g h
    · exact hX g h
  have he2 : 0 < w.heap.size := Nat.lt_of_lt_of_le he hb
  refine (step_0 B A n c last last nm Ap m cp N w (errV (some E)) true E (fun A' n' c' W => (Mid w X base B v t n s L A' n' c' W ∧ n' = n) ∧ BytesAt W Ap bs) (fun A' n' c' W => Fin w s X base B v t L A' n' c' W ∧ n' = n) (fun At ct W => BytesAt W At bs)
    (fun A' n' c' W W' h hs => ?_) (fun A' n' c' W W' h hs => ⟨h.1.side hb he2 hs, h.2⟩) (fun W hW hz => ?_) (fun W A' n' c' h => ?_) (fun W A' n' c' At ct h hT hz => ?_) (fun W A' n' c' h => ?_)).mono ?_
  · refine ⟨⟨h.1.1.side h0 hb he2 hs, h.1.2⟩, h.2.1, fun ad e j u hu => ?_⟩
    have h5 := World.block_lt_of_cell? w _ (hA.2 ad e j u hu)
    have h6 := h.2.2 ad e j u hu
    exact (World.cell?_of_block (w := W) (a := ad.add j) (hs.block _ (World.block_lt_of_cell? W _ h6) (by omega))).trans h6
  · refine (h1 W (refd_box hR hW)).mono ?_
    rintro e w' ⟨rfl, hb'⟩
    exact ⟨A, n, c, rfl, hb'.out, ⟨mid_of hD hg hW hb'.out ((refd_box hR hW).below hb'.out), rfl⟩, (hA.below hW).below hb'.out⟩
  · exact twin_len Ap bs m cp hm hm2 W h.2
  · obtain ⟨⟨h3, rfl⟩, _⟩ := h
    refine (h2 W At ct h3.2.1 hT).mono ?_
    rintro e w' ⟨rfl, rfl⟩
    exact ⟨rfl, ⟨h3.stay h0 hb, rfl⟩, fun _ _ _ => rfl, Nat.le_refl _⟩
  · obtain ⟨s', _, _, h3, _⟩ := h.1.ref
    exact fails_same (some E) W h3
  · rintro e w' ⟨A', n', c', rfl, h, rfl⟩
    exact ⟨A', _, c', v, L, rfl, h, hC, fun _ h => h⟩
theorem bytes_side {W W' : World} {Ap : Option Addr} {bs : List UInt8} (h0 : BytesAt w Ap bs) (h : BytesAt W Ap bs) (hs : Side w.heap.size (w.heap.size + 4) W W') : BytesAt W' Ap bs :=
  ⟨h.1, fun ad e j u hu => by
    have h5 := World.block_lt_of_cell? w _ (h0.2 ad e j u hu)
    have h6 := h.2 ad e j u hu
    exact (World.cell?_of_block (w := W) (a := ad.add j) (hs.block _ (World.block_lt_of_cell? W _ h6) (by omega))).trans h6⟩
/-- Where both take. -/
theorem step_app_yes (hD : Dk base w B v t n s) (hC : Coup v t n L last a) (hR : RefD (ownX s X) w A n c L) (hg : ErrT w) (he : 0 < base) (hX : ∀ g, X g → g < w.heap.size) (nm : ByteArray) (Ap : Option Addr) (m cp : Nat) (N : Int) (bs : List UInt8) (hm : bs.length = m) (hm2 : m ≤ 1000000) (hA : BytesAt w Ap bs) (hks : nm.size ≤ 4611686018427387904) (hT : t ≤ 4611686018427387904) (hev : appEv v n nm m = none) (t0 : List Int)
    (hcp : ∀ ps, (v nm).map (·.2) = some ps ∨ (v nm = none ∧ ps = []) → t0 = turnsOf a (((v nm).map (·.1)).getD []).length ps)
    (h1 : ∀ W, RefD (fun g => ownX s X g ∨ (w.heap.size ≤ g ∧ g < w.heap.size + 4)) W A n c L → (∀ g, (ownX s X g ∨ (w.heap.size ≤ g ∧ g < w.heap.size + 4)) → g < W.heap.size) → BytesAt W Ap bs → Calls Tryz.prog 16 #[.agg #[.slice A n c, .int .i64 last], .string nm, .slice Ap m cp] W fun e w' => ∃ (A' : Option Addr) (n' c' : Nat) (f : RF), e = .returned (.tuple #[.agg #[.slice A' n' c', .int .i64 (last + m)], eV none]) ∧ Hid (RefD (fun g => ownX s X g ∨ (w.heap.size ≤ g ∧ g < w.heap.size + 4)) w' A' n' c' (insL f L) ∧ Below W.heap.size W w' ∧ f.name = nm ∧ f.data = ((v nm).map (·.1)).getD [] ++ bs ∧ f.turn = t0 ++ seqF last m)) :
    Calls Tryz.prog 7 #[.pointer (some ⟨B, 0, none⟩), .agg #[.slice A n c, .int .i64 last], .agg #[.int .i64 0, .string nm, .slice Ap m cp, .int .i64 N]] w fun e w' => ∃ (A' : Option Addr) (n' c' : Nat) (v' : Vw) (L' : List RF) (a' : Int → Int), e = .returned (.tuple #[.agg #[.slice A' n' c', .int .i64 (last + m)], .bool true]) ∧ Fin w s X base B v' (t + (if bs = [] then 0 else 1)) L' A' n' c' w' ∧ Coup v' (t + (if bs = [] then 0 else 1)) n' L' (last + m) a' ∧ ∀ M, VwB v M → VwB v' (M + m) := by
  have h0 : ∀ g, s.own g → g < w.heap.size := fun g h => hD.at_.lt h
  have hb := hD.low
  have h0X : ∀ g, ownX s X g → g < w.heap.size := fun g hg => by
    rcases hg with h | h
    · exact h0 g h
    · exact hX g h
  have he2 : 0 < w.heap.size := Nat.lt_of_lt_of_le he hb
  obtain ⟨t', ht'⟩ : ∃ t', t' = t + (if bs = [] then 0 else 1) := ⟨_, rfl⟩
  obtain ⟨n2, hn2⟩ : ∃ n2, n2 = n + (if (v nm).isSome then 0 else 1) := ⟨_, rfl⟩
  obtain ⟨v2, hv2⟩ : ∃ v2, v2 = appV v t nm bs := ⟨_, rfl⟩
  rw [← ht']
  refine (step_0 B A n c last (last + m) nm Ap m cp N w (errV none) false 0 (fun A' n' c' W => (∃ L', Mid w X base B v t n s L' A' n' c' W ∧ n' = n2 ∧ ∃ a', Coup v2 t' n2 L' (last + m) a') ∧ BytesAt W Ap bs) (fun A' n' c' W => ∃ L', Fin w s X base B v2 t' L' A' n' c' W ∧ n' = n2 ∧ ∃ a', Coup v2 t' n2 L' (last + m) a') (fun At ct W => BytesAt W At bs)
    (fun A' n' c' W W' h hs => by obtain ⟨⟨L', h, r⟩, h4⟩ := h; exact ⟨⟨L', h.side h0 hb he2 hs, r⟩, bytes_side hA h4 hs⟩) (fun A' n' c' W W' h hs => by obtain ⟨L', h, r⟩ := h; exact ⟨L', h.side hb he2 hs, r⟩) (fun W hW hz => ?_) (fun W A' n' c' h => ?_) (fun W A' n' c' At ct h hTw hz => ?_) (fun W A' n' c' h => ?_)).mono ?_
  · refine (h1 W (refd_box hR hW) (fun g hg => by
      rcases hg with hg | hg
      · have := h0X g hg; have := hW.size; omega
      · omega) (hA.below hW)).mono ?_
    rintro e w' ⟨A', n', c', f, rfl, hx⟩
    obtain ⟨h3, h4, h5, h6, h7⟩ := hx.out
    obtain ⟨a', hc⟩ := coup_app hC nm bs f h5 h6 fun ps hps => by rw [h7, hcp ps hps, hm]
    rw [← ht', ← hn2, ← hv2, hm] at hc
    exact ⟨A', n', c', rfl, h4, ⟨insL f L, mid_of hD hg hW h4 h3, by rw [← h3.len, hc.len], a', hc⟩, (hA.below hW).below h4⟩
  · exact twin_len Ap bs m cp hm hm2 W h.2
  · obtain ⟨⟨L', h, e1, r⟩, _⟩ := h
    subst e1
    refine (dk_append_ok h.2.1 nm At m ct bs hm hks hTw hT hev).mono ?_
    rintro e w' ⟨rfl, s', h5, h6, h7⟩
    rw [← ht', ← hn2, ← hv2] at h5
    obtain ⟨h8, h9, h10⟩ := h.fin h0 hb he hz h5 h6 h7
    exact ⟨rfl, ⟨L', h8, rfl, r⟩, h9, h10⟩
  · obtain ⟨L', h, _⟩ := h
    obtain ⟨s', _, _, h3, _⟩ := h.ref
    exact fails_same none W h3
  · rintro e w' ⟨A', n', c', rfl, L', h, rfl, a', r⟩
    exact ⟨A', _, c', v2, L', a', rfl, h, r, fun M hM => by rw [hv2, ← hm]; exact hM.app⟩
/-- Append, all ways. -/
theorem step_app_all (hD : Dk base w B v t n s) (hC : Coup v t n L last a) (hR : RefD (ownX s X) w A n c L) (hg : ErrT w) (he : 0 < base) (hX : ∀ g, X g → g < w.heap.size) (hT : VwB v 10000) (hl : last ≤ 1000000000000) (ht : t ≤ 4611686018427387904) (nm : ByteArray) (Ap : Option Addr) (m cp : Nat) (N : Int) (bs : List UInt8) (hm : bs.length = m) (hm2 : m ≤ 10000) (hA : BytesAt w Ap bs) (hks : nm.size ≤ 4611686018427387904) :
    Calls Tryz.prog 7 #[.pointer (some ⟨B, 0, none⟩), .agg #[.slice A n c, .int .i64 last], .agg #[.int .i64 0, .string nm, .slice Ap m cp, .int .i64 N]] w fun e w' => ∃ (A' : Option Addr) (n' c' : Nat) (v' : Vw) (L' : List RF) (a' : Int → Int) (t' last' : Int), e = .returned (.tuple #[.agg #[.slice A' n' c', .int .i64 last'], .bool true]) ∧ Fin w s X base B v' t' L' A' n' c' w' ∧ Coup v' t' n' L' last' a' ∧ t' ≤ t + 1 ∧ last' ≤ last + m ∧ ∀ M, VwB v M → VwB v' (M + m) := by
  obtain ⟨_, _, _, _, hn⟩ := hD.keys
  have hl0 := hC.last0
  have hno : ∀ E, (∀ W, RefD (fun g => ownX s X g ∨ (w.heap.size ≤ g ∧ g < w.heap.size + 4)) W A n c L → Calls Tryz.prog 16 #[.agg #[.slice A n c, .int .i64 last], .string nm, .slice Ap m cp] W fun e w' => e = .returned (.tuple #[.agg #[.slice A n c, .int .i64 last], eV (some E)]) ∧ Hid (Below W.heap.size W w')) → appEv v n nm m = some E →
      Calls Tryz.prog 7 #[.pointer (some ⟨B, 0, none⟩), .agg #[.slice A n c, .int .i64 last], .agg #[.int .i64 0, .string nm, .slice Ap m cp, .int .i64 N]] w fun e w' => ∃ (A' : Option Addr) (n' c' : Nat) (v' : Vw) (L' : List RF) (a' : Int → Int) (t' last' : Int), e = .returned (.tuple #[.agg #[.slice A' n' c', .int .i64 last'], .bool true]) ∧ Fin w s X base B v' t' L' A' n' c' w' ∧ Coup v' t' n' L' last' a' ∧ t' ≤ t + 1 ∧ last' ≤ last + m ∧ ∀ M, VwB v M → VwB v' (M + m) := fun E h1 hev => by
    refine (step_app_no hD hC hR hg he hX nm Ap m cp N bs hm (by omega) hA E h1 fun W At ct hDW hAW => dk_append_no hDW nm At m ct bs hm hks hAW ht E hev).mono ?_
    rintro e w' ⟨A', n', c', v', L', rfl, h2, h3, h4⟩
    exact ⟨A', n', c', v', L', a, t, last, rfl, h2, h3, by omega, by omega, fun M hM => (h4 M hM).mono (by omega)⟩
  have hyes : ∀ t0 : List Int, appEv v n nm m = none → (∀ ps, (v nm).map (·.2) = some ps ∨ (v nm = none ∧ ps = []) → t0 = turnsOf a (((v nm).map (·.1)).getD []).length ps) →
      (∀ W, RefD (fun g => ownX s X g ∨ (w.heap.size ≤ g ∧ g < w.heap.size + 4)) W A n c L → (∀ g, (ownX s X g ∨ (w.heap.size ≤ g ∧ g < w.heap.size + 4)) → g < W.heap.size) → BytesAt W Ap bs → Calls Tryz.prog 16 #[.agg #[.slice A n c, .int .i64 last], .string nm, .slice Ap m cp] W fun e w' => ∃ (A' : Option Addr) (n' c' : Nat) (f : RF), e = .returned (.tuple #[.agg #[.slice A' n' c', .int .i64 (last + m)], eV none]) ∧ Hid (RefD (fun g => ownX s X g ∨ (w.heap.size ≤ g ∧ g < w.heap.size + 4)) w' A' n' c' (insL f L) ∧ Below W.heap.size W w' ∧ f.name = nm ∧ f.data = ((v nm).map (·.1)).getD [] ++ bs ∧ f.turn = t0 ++ seqF last m)) →
      Calls Tryz.prog 7 #[.pointer (some ⟨B, 0, none⟩), .agg #[.slice A n c, .int .i64 last], .agg #[.int .i64 0, .string nm, .slice Ap m cp, .int .i64 N]] w fun e w' => ∃ (A' : Option Addr) (n' c' : Nat) (v' : Vw) (L' : List RF) (a' : Int → Int) (t' last' : Int), e = .returned (.tuple #[.agg #[.slice A' n' c', .int .i64 last'], .bool true]) ∧ Fin w s X base B v' t' L' A' n' c' w' ∧ Coup v' t' n' L' last' a' ∧ t' ≤ t + 1 ∧ last' ≤ last + m ∧ ∀ M, VwB v M → VwB v' (M + m) := fun t0 hev hcp h1 => by
    refine (step_app_yes hD hC hR hg he hX nm Ap m cp N bs hm (by omega) hA hks ht hev t0 hcp h1).mono ?_
    rintro e w' ⟨A', n', c', v', L', a', rfl, h2, h3, h4⟩
    exact ⟨A', n', c', v', L', a', _, _, rfl, h2, h3, by split <;> omega, by omega, h4⟩
  cases hnm : nmB nm with
  | false =>
    exact hno 1 (fun W h => refapp_name _ A n c L last nm Ap m cp W h hn hC.sorted hks hnm) (by unfold appEv; rw [if_neg (by rw [hnm]; decide)])
  | true =>
    cases hv : v nm with
    | none =>
      by_cases h64 : 64 ≤ n
      · exact hno 11 (fun W h => refapp_full _ A n c L last nm Ap m cp W h hn hC.sorted hks hnm (hC.miss hv) h64) (by unfold appEv; rw [if_pos hnm, hv]; simp only; rw [if_pos h64])
      · refine hyes [] (by unfold appEv; rw [if_pos hnm, hv]; simp only; rw [if_neg h64, if_neg (by omega)]) (fun ps hps => ?_) (fun W h hO hAW => ?_)
        · rcases hps with h | ⟨_, rfl⟩
          · rw [hv] at h; cases h
          · rw [hv]; rfl
        · rw [hv]
          exact refapp_new _ A n c L last nm Ap m cp bs hm W h hO hn hC.sorted hks hnm hAW (by omega) hl0 hl (hC.miss hv) (by omega)
    | some p =>
      obtain ⟨f, hf, rfl, hd, htn⟩ := hC.hit hv
      obtain ⟨i, hi⟩ := List.mem_iff_getElem?.1 hf
      have hp := hT _ _ hv
      refine hyes f.turn (by unfold appEv; rw [if_pos hnm, hv]; simp only; rw [if_neg (by omega), if_neg (by omega)]) (fun ps hps => ?_) (fun W h hO hAW => ?_)
      · rcases hps with h | ⟨h, _⟩
        · rw [hv] at h
          cases h
          rw [hv]
          exact htn
        · rw [hv] at h; cases h
      · rw [hv]
        have e1 : (((some p : Option (List UInt8 × List (Int × Int))).map (·.1)).getD []) = f.data := hd.symm
        rw [e1]
        cases hta : f.tA with
        | none => exact refapp_old0 _ A n c L last i f Ap m cp bs hm W h hO hn hC.sorted hks hnm hAW (by omega) hl0 hl hta hi (hC.turn_len hf) (by rw [hd]; omega)
        | some ad => exact refapp_old1 _ A n c L last i f Ap m cp bs hm W h hO hn hC.sorted hks hnm hAW (by omega) hl0 hl ad hta hi (hC.turn_len hf) (by rw [hd]; omega)
end
end Go.Proofs.YtfhdcjfkngflbaaGreatDoor
set_option linter.unusedSimpArgs false
set_option linter.unusedVariables false
namespace Go.Proofs.YtfhdcjfkngflbaaGreatDoor
open Go Go.RowKit

/-- Both disks behind j calls; the law's own boxes are X. -/
def Both (X : Nat → Prop) (base B : Nat) (j : Nat) (A : Option Addr) (n c : Nat) (last : Int) (w : World) : Prop :=
  ∃ (v : Vw) (t : Int) (L : List RF) (a : Int → Int) (s : St), Dk base w B v t n s ∧ Coup v t n L last a ∧ RefD (ownX s X) w A n c L ∧ ErrT w ∧ t ≤ j ∧ last ≤ 40 * j ∧ VwB v (40 * j) ∧ ∀ g, X g → g < w.heap.size ∧ ¬ s.own g
section
variable {X : Nat → Prop} {base B j n c : Nat} {A : Option Addr} {last : Int} {w w' : World}
theorem Both.below (h : Both X base B j A n c last w) (hb : Below w.heap.size w w') : Both X base B j A n c last w' := by
  obtain ⟨v, t, L, a, s, h1, h2, h3, h4, h5, h6, h7, h8⟩ := h
  exact ⟨v, t, L, a, s, h1.below hb, h2, h3.below hb, h4.below hb, h5, h6, h7, fun g hg => ⟨Nat.lt_of_lt_of_le (h8 g hg).1 hb.size, (h8 g hg).2⟩⟩
theorem Both.more (h : Both X base B j A n c last w) : Both X base B (j + 1) A n c last w := by
  obtain ⟨v, t, L, a, s, h1, h2, h3, h4, h5, h6, h7, h8⟩ := h
  exact ⟨v, t, L, a, s, h1, h2, h3, h4, by omega, by omega, h7.mono (by omega), h8⟩
theorem Both.few (h : Both X base B j A n c last w) : n ≤ 64 := by
  obtain ⟨v, t, L, a, s, h1, _⟩ := h
  exact h1.keys.choose_spec.2.2.2
/-- Writing the law's own boxes, or what is new. -/
theorem Both.put (h : Both X base B j A n c last w) (he : 0 < base) (hX : ∀ g, X g → base ≤ g) (hs : w.heap.size ≤ w'.heap.size) (hk : ∀ g, g < w.heap.size → ¬ X g → w'.heap[g]? = w.heap[g]?) : Both X base B j A n c last w' := by
  obtain ⟨v, t, L, a, s, h1, h2, h3, h4, h5, h6, h7, h8⟩ := h
  refine ⟨v, t, L, a, s, ⟨h1.at_.keep fun g hg => hk g (h1.at_.lt hg) fun hx => (h8 g hx).2 hg, h1.B, h1.view, h1.turn, h1.len, Nat.le_trans h1.low hs⟩, h2, h3.keep (fun g hg hp => hk g hg fun hx => hp (.inr hx)) (fun _ _ h => h), ?_, h5, h6, h7, fun g hg => ⟨Nat.lt_of_lt_of_le (h8 g hg).1 hs, (h8 g hg).2⟩⟩
  have hlt := World.block_lt_of_cell? w _ h4
  exact (World.cell?_of_block (w := w) (a := ⟨0, 0, none⟩) (hk _ hlt fun hx => by have := hX _ hx; simp only at this; omega)).trans h4
theorem both_ask (h : Both X base B j A n c last w) (hj : j ≤ 80) (k : ByteArray) :
    Calls Tryz.prog 9 #[.pointer (some ⟨B, 0, none⟩), .agg #[.slice A n c, .int .i64 last], .string k] w fun e w' => e = .returned (.bool true) ∧ Below w.heap.size w w' := by
  obtain ⟨v, t, L, a, s, h1, h2, h3, h4, h5, h6, h7, h8⟩ := h
  refine ask_ok h1 h2 (h3.keep (fun _ _ _ => rfl) fun _ _ h => .inl h) h4 (fun f hf => ?_) k
  have := h2.of_vwb h7 f hf
  rw [h2.turn_len hf]; omega
theorem both_names (h : Both X base B j A n c last w) : Calls Tryz.prog 8 #[.agg #[.slice A n c, .int .i64 last]] w fun e w' => ∃ (A1 : Option Addr) (c1 : Nat) (ks : List ByteArray), e = .returned (.slice A1 n c1) ∧ StrRow w' A1 ks ∧ ks.length = n ∧ Below w.heap.size w w' := by
  have hn := h.few
  obtain ⟨v, t, L, a, s, h1, h2, h3, h4, h5, h6, h7, h8⟩ := h
  refine (refnames_any _ A n c L last w h3 hn).mono ?_
  rintro e w' ⟨A1, c1, rfl, h⟩
  exact ⟨A1, c1, _, rfl, h.out.1, by rw [List.length_map]; exact h2.len, h.out.2⟩
/-- THE STEP. -/
theorem step_all (h : Both X base B j A n c last w) (he : 0 < base) (hj : j < 80) (K : Int) (nm : ByteArray) (Ap : Option Addr) (m cp : Nat) (N : Int) (bs : List UInt8) (hm : bs.length = m) (hm2 : m ≤ 40) (hA : BytesAt w Ap bs) (hks : nm.size ≤ 4611686018427387904) (hN : N ≤ 9223372036854775807) :
    Calls Tryz.prog 7 #[.pointer (some ⟨B, 0, none⟩), .agg #[.slice A n c, .int .i64 last], .agg #[.int .i64 K, .string nm, .slice Ap m cp, .int .i64 N]] w fun e w' => ∃ (A' : Option Addr) (n' c' : Nat) (last' : Int), e = .returned (.tuple #[.agg #[.slice A' n' c', .int .i64 last'], .bool true]) ∧ Both X base B (j + 1) A' n' c' last' w' ∧ Below base w w' ∧ ∀ g, X g → w'.heap[g]? = w.heap[g]? := by
  by_cases hK : K ≠ 0 ∧ K ≠ 1 ∧ K ≠ 2 ∧ K ≠ 3 ∧ K ≠ 4
  · refine (step_ask B A n c last K nm Ap m cp N w hK fun W hW => both_ask (h.below hW) (by omega) nm).mono ?_
    rintro e w' ⟨rfl, hb⟩
    obtain ⟨v, t, L, a, s, h1, h2, h3, h4, h5, h6, h7, h8⟩ := id h
    exact ⟨A, n, c, last, rfl, (h.below hb).more, hb.mono h1.low, fun g hg => hb.block g (h8 g hg).1⟩
  · obtain ⟨v, t, L, a, s, h1, h2, h3, h4, h5, h6, h7, h8⟩ := h
    have hX : ∀ g, X g → g < w.heap.size := fun g hg => (h8 g hg).1
    have h7a : VwB v 10000 := h7.mono (by omega)
    have h7b : ∀ f ∈ L, f.data.length ≤ 10000 := h2.of_vwb h7a
    have hfin : ∀ {v' : Vw} {t' : Int} {L' : List RF} {A' : Option Addr} {n' c' : Nat} {last' : Int} {a' : Int → Int} {w' : World}, Fin w s X base B v' t' L' A' n' c' w' → Coup v' t' n' L' last' a' → t' ≤ t + 1 → last' ≤ last + m → (∀ M, VwB v M → VwB v' (M + m)) → Both X base B (j + 1) A' n' c' last' w' ∧ Below base w w' ∧ ∀ g, X g → w'.heap[g]? = w.heap[g]? := by
      intro v' t' L' A' n' c' last' a' w' hf hc ht hl hv
      obtain ⟨s', f1, f2, f3, f4, f5⟩ := hf.ref
      exact ⟨⟨v', t', L', a', s', f2, hc, f1, f3, by omega, by omega, (hv _ h7).mono (by omega), fun g hg => ⟨Nat.lt_of_lt_of_le (hX g hg) f4.size, (f5 g (hX g hg) (h8 g hg).2).2⟩⟩, f4, fun g hg => (f5 g (hX g hg) (h8 g hg).2).1⟩
    by_cases k0 : K = 0
    · subst k0
      refine (step_app_all h1 h2 h3 h4 he hX h7a (by omega) (by omega) nm Ap m cp N bs hm (by omega) hA hks).mono ?_
      rintro e w' ⟨A', n', c', v', L', a', t', last', rfl, g1, g2, g3, g4, g5⟩
      exact ⟨A', n', c', last', rfl, hfin g1 g2 g3 g4 g5⟩
    by_cases k1 : K = 1
    · subst k1
      refine (step_cut_all h1 h2 h3 h4 he hX h7b nm Ap m cp N).mono ?_
      rintro e w' ⟨A', n', c', v', L', rfl, g1, g2, g3⟩
      exact ⟨A', n', c', last, rfl, hfin g1 g2 (by omega) (by omega) fun M hM => (g3 M hM).mono (by omega)⟩
    by_cases k2 : K = 2
    · subst k2
      refine (step_del h1 h2 h3 h4 he hX nm Ap m cp N).mono ?_
      rintro e w' ⟨A', n', c', v', L', rfl, g1, g2, g3⟩
      exact ⟨A', n', c', last, rfl, hfin g1 g2 (by omega) (by omega) fun M hM => (g3 M hM).mono (by omega)⟩
    by_cases k3 : K = 3
    · subst k3
      refine (step_sync h1 h2 h3 h4 he hX h7b nm Ap m cp N).mono ?_
      rintro e w' ⟨A', n', c', L', rfl, g1, g2⟩
      exact ⟨A', n', c', last, rfl, hfin g1 g2 (by omega) (by omega) fun M hM => hM.sync.mono (by omega)⟩
    obtain rfl : K = 4 := by
      by_cases k4 : K = 4
      · exact k4
      · exact absurd ⟨k0, k1, k2, k3, k4⟩ hK
    by_cases hN0 : N < 0
    · refine (step_crash_no h1 h2 h3 h4 he hX nm Ap m cp N hN0).mono ?_
      rintro e w' ⟨A', n', c', v', L', rfl, g1, g2, g3⟩
      exact ⟨A', n', c', last, rfl, hfin g1 g2 (by omega) (by omega) fun M hM => (g3 M hM).mono (by omega)⟩
    · refine (step_crash_ok h1 h2 h3 h4 he hX h7a (by omega) (by omega) nm Ap m cp N (by omega) hN).mono ?_
      rintro e w' ⟨A', n', c', v', L', rfl, g1, g2, g3⟩
      exact ⟨A', n', c', last, rfl, hfin g1 g2 (by omega) (by omega) fun M hM => (g3 M hM).mono (by omega)⟩
end
end Go.Proofs.YtfhdcjfkngflbaaGreatDoor
