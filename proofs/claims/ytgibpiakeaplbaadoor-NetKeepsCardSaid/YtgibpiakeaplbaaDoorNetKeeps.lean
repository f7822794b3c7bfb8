/-
  net: the law NetKeeps, walked. Own work.
-/
import Derived.Test.YtgibpiakeaplbaaDoorNetTouch
set_option linter.unusedSimpArgs false
set_option linter.unusedVariables false
namespace Go.Proofs.YtgibpiakeaplbaaDoor
open Go Go.RowKit

theorem sendE_of {S : Int × Int → List Pkt} {k : Int × Int} {n : Nat} (hw : wayE k = none) (hn : n ≤ 1048576) (hs : (S k).length < 1024) : sendE S k n = none := by
  simp only [sendE, hw]; rw [if_neg (by omega), if_neg (by omega)]

theorem twin_n (A : Option Addr) (n c : Nat) (bs : List UInt8) (hbn : bs.length = n) (w : World) (h : BytesAt w A bs) (hlen : n ≤ 1000) :
    Calls Tryd.prog 18 #[.slice A n c] w fun e w' => ∃ A3 c3, e = .returned (.slice A3 n c3) ∧ Hid (PktOK w.heap.size w' (.slice A3 n c3, bs) ∧ Below w.heap.size w w') := by
  subst hbn
  refine (twin_any A bs c w h (by omega)).mono ?_
  rintro e w' ⟨v, rfl, h1, h2⟩
  obtain ⟨A3, c3, e⟩ := own_slice h1
  simp only at e
  subst e
  exact ⟨A3, c3, rfl, h1, h2⟩

/-- Send of q: a packet of the net's own, in a row newer than what was there. -/
theorem keeps_send (base B : Nat) (A : Option Addr) (n c : Nat) (bs : List UInt8) (hbn : bs.length = n) (w : World) (hn : NetAt base w B (fun _ => [])) (hbase : base ≤ w.heap.size) (hA : BytesAt w A bs) (hlen : n ≤ 1000) :
    Calls Tryd.prog 12 #[.pointer (some ⟨B, 0, none⟩), .int .i64 2, .int .i64 5, .slice A n c] w fun e w' => ∃ A4 c4, e = .returned .nilIface ∧ Hid (Below base w w' ∧ KeepC w w' ∧ NetAt base w' B (updS (fun _ => []) (2, 5) [(.slice A4 n c4, bs)]) ∧ PktOK w.heap.size w' (.slice A4 n c4, bs)) := by
  subst hbn
  refine (send_any base B _ (2, 5) A c bs w hn hbase hA).mono ?_
  have he : sendE (fun _ => ([] : List Pkt)) (2, 5) bs.length = none := sendE_of (by decide) (by omega) (by simp)
  rintro e w' ⟨rfl, h1, h2, h3⟩
  rw [he] at h3 ⊢
  rcases h3 with ⟨h3, _⟩ | ⟨_, v, h4, h5⟩
  · exact absurd rfl h3
  · obtain ⟨A3, c3, e⟩ := own_slice h5
    simp only at e
    subst e
    exact ⟨A3, c3, rfl, h1, h2, h4, h5⟩

theorem keeps_double (base B : Nat) (v : Value) (n : Nat) (bs : List UInt8) (hbn : bs.length = n) (w : World) (hn : NetAt base w B (updS (fun _ => []) (2, 5) [(v, bs)])) (hbase : base ≤ w.heap.size) :
    Calls Tryd.prog 15 #[.pointer (some ⟨B, 0, none⟩), .int .i64 2, .int .i64 5, .int .i64 0] w fun e w' => ∃ A5 c5, e = .returned .nilIface ∧ Hid (Below base w w' ∧ KeepC w w' ∧ NetAt base w' B (updS (fun _ => []) (2, 5) [(v, bs), (.slice A5 n c5, bs)]) ∧ PktOK w.heap.size w' (.slice A5 n c5, bs)) := by
  subst hbn
  refine (double_any base B _ (2, 5) 0 w hn hbase).mono ?_
  have hs : updS (fun _ => ([] : List Pkt)) (2, 5) [(v, bs)] (2, 5) = [(v, bs)] := by simp [updS]
  have hp : placeE (updS (fun _ => ([] : List Pkt)) (2, 5) [(v, bs)]) (2, 5) 0 = none := by
    have hw : wayE (2, 5) = none := by decide
    simp [placeE, hw, hs]
  have he : doubleE (updS (fun _ => ([] : List Pkt)) (2, 5) [(v, bs)]) (2, 5) 0 = none := by simp only [doubleE, hp, hs]; simp
  rintro e w' ⟨rfl, h1, h2, h3⟩
  rw [he] at h3 ⊢
  rcases h3 with ⟨h3, _⟩ | ⟨_, j, p, v2, hj, hp2, h4, h5⟩
  · exact absurd rfl h3
  · obtain rfl : j = 0 := by omega
    rw [hs] at hp2 h4
    simp at hp2
    subst hp2
    have e2 : updS (updS (fun _ => ([] : List Pkt)) (2, 5) [(v, bs)]) (2, 5) ([(v, bs)] ++ [(v2, bs)]) = updS (fun _ => []) (2, 5) [(v, bs), (v2, bs)] := by
      funext k'; unfold updS; split <;> rfl
    simp only at h4 h5
    rw [e2] at h4
    obtain ⟨A3, c3, e⟩ := own_slice h5
    simp only at e
    subst e
    exact ⟨A3, c3, rfl, h1, h2, h4, h5⟩

/-- Deliver of the first packet. -/
theorem keeps_deliver (base B : Nat) (v : Value) (bs : List UInt8) (l : List Pkt) (w : World) (hn : NetAt base w B (updS (fun _ => []) (2, 5) ((v, bs) :: l))) (hbase : base ≤ w.heap.size) :
    Calls Tryd.prog 19 #[.pointer (some ⟨B, 0, none⟩), .int .i64 2, .int .i64 5, .int .i64 0] w fun e w' => e = .returned (.tuple #[v, .nilIface]) ∧ Hid (Below base w w' ∧ KeepC w w' ∧ NetAt base w' B (updS (fun _ => []) (2, 5) l)) := by
  refine (deliver_any base B _ (2, 5) 0 w hn hbase).mono ?_
  have hs : updS (fun _ => ([] : List Pkt)) (2, 5) ((v, bs) :: l) (2, 5) = (v, bs) :: l := by simp [updS]
  have hp : placeE (updS (fun _ => ([] : List Pkt)) (2, 5) ((v, bs) :: l)) (2, 5) 0 = none := by
    have hw : wayE (2, 5) = none := by decide
    simp [placeE, hw, hs]
  rintro e w' ⟨h1, h2, ⟨ec, h3, _⟩ | ⟨_, j, q, hj, hq, rfl, h4⟩⟩
  · rw [hp] at h3; cases h3
  · obtain rfl : j = 0 := by omega
    rw [hs] at hq h4
    simp at hq
    subst hq
    have e2 : updS (updS (fun _ => ([] : List Pkt)) (2, 5) ((v, bs) :: l)) (2, 5) (((v, bs) :: l).eraseIdx 0) = updS (fun _ => []) (2, 5) l := by
      funext k'; unfold updS; split <;> rfl
    rw [e2] at h4
    exact ⟨rfl, h1, h2, h4⟩

/-- Stores into an elder row of bytes leave a net whose packets are newer, and those packets. -/
theorem touch_net {base b B n c : Nat} {w wr : World} {A : Option Addr} {bs : List UInt8} {l : List Pkt} (hx : NetAt base w B (updS (fun _ => []) (2, 5) l)) {a : Nat} (hq : PktOK a w (.slice A n c, bs)) (hlt : ∀ g, (Value.slice A n c).ownBlock = some g → g < b) (hl : ∀ p ∈ l, PktOK b w p) (ht : Touch (Value.slice A n c).ownBlock w wr) : NetAt base wr B (updS (fun _ => []) (2, 5) l) ∧ ∀ p ∈ l, PktOK b wr p := by
  have hne : ∀ p ∈ l, ∀ g, p.1.ownBlock = some g → (Value.slice A n c).ownBlock ≠ some g := fun p hp g hg e => by
    obtain ⟨_, _, hb, _⟩ := own_block (hl p hp) hg
    have := hlt g e
    omega
  refine ⟨hx.touch (fun g hg => ?_) (fun k p hp g hg => ?_) ht, fun p hp => ht.row (hl p hp) (hne p hp)⟩
  · obtain ⟨cur, hh, _⟩ := own_block hq hg
    exact ⟨cur, _, hh⟩
  · by_cases e : k = (2, 5)
    · subst e
      simp [updS] at hp
      exact hne p hp g hg
    · simp [updS, e] at hp

theorem pkt_lt {a : Nat} {w : World} {A : Option Addr} {n c : Nat} {bs : List UInt8} (h : PktOK a w (.slice A n c, bs)) : ∀ g, (Value.slice A n c).ownBlock = some g → g < w.heap.size := fun _ hg => (own_block h hg).choose_spec.2.2
theorem pkt_ge {a : Nat} {w : World} {A : Option Addr} {n c : Nat} {bs : List UInt8} (h : PktOK a w (.slice A n c, bs)) : ∀ g, (Value.slice A n c).ownBlock = some g → a ≤ g := fun _ hg => (own_block h hg).choose_spec.2.1
theorem PktOK.mono' {a b : Nat} {w : World} {p : Pkt} (h : PktOK a w p) (hb : b ≤ a) : PktOK b w p := by
  refine ⟨h.1, ?_⟩
  rcases h.2 with h | ⟨g, cap, cur, h1, h2, h3⟩
  · exact .inl h
  · exact .inr ⟨g, cap, cur, h1, Nat.le_trans hb h2, h3⟩

theorem ways_empty (base B : Nat) (w : World) (hn : NetAt base w B (updS (fun _ => []) (2, 5) [])) (hbase : base ≤ w.heap.size) :
    Calls Tryd.prog 21 #[.pointer (some ⟨B, 0, none⟩)] w fun e w' => ∃ A c, e = .returned (.slice A 0 c) ∧ Below w.heap.size w w' := by
  have e : ∀ k, (updS (fun _ => ([] : List Pkt)) (2, 5) [] k).map (·.2) = lineT (2, 5) [] k := fun k => by simp [updS, lineT, updT]
  refine (ways_b base B _ w ⟨_, hn, e⟩ hbase).mono ?_
  rintro e w3 ⟨h4, A3, c3, l3, rfl, h5, h6, h7⟩
  obtain rfl := (line_ways h5 h6).2 rfl
  exact ⟨A3, c3, rfl, h4⟩

/-- The facts kept over the law's last line: the box of 'want', and that nothing elder has turned. -/
abbrev KK (w0 : World) (g : Nat) (W : World) : Prop := W.cell? ⟨g, 0, none⟩ = some (.bool true) ∧ W.cell? ⟨g, 1, none⟩ = some (.slice none 0 0) ∧ W.cell? ⟨g, 2, none⟩ = some (.int .i64 19) ∧ Hid (Below w0.heap.size w0 W)
theorem KK.step {w0 : World} {g : Nat} {W W' : World} (h : KK w0 g W) (hb : Below W.heap.size W W') : KK w0 g W' := by
  obtain ⟨h1, h2, h3, h4⟩ := h
  refine ⟨?_, ?_, ?_, h4.out.trans (hb.mono h4.out.size)⟩
  · exact (hb.cell (p := ⟨g, 0, none⟩) (World.block_lt_of_cell? W _ h1)).trans h1
  · exact (hb.cell (p := ⟨g, 1, none⟩) (World.block_lt_of_cell? W _ h2)).trans h2
  · exact (hb.cell (p := ⟨g, 2, none⟩) (World.block_lt_of_cell? W _ h3)).trans h3

set_option maxHeartbeats 4000000 in
theorem keeps_in (A : Option Addr) (n c : Nat) (bs : List UInt8) (hbn : bs.length = n) (k1 k2 : Int) (w : World) (hA : BytesAt w A bs) (hT : ErrT w) (hn : ¬ 1000 < n) :
    Calls Tryd.prog 5 #[.slice A n c, .int .i64 k1, .int .i64 k2] w fun e w' => e = .returned (.bool true) ∧ Below w.heap.size w w' := by
  have d : decide ((n : Int) > 1000) = false := by simp; omega
  have HN : Hid (n ≤ 1000 ∧ bs.length = n) := ⟨by omega, hbn⟩
  have HA := Lib.hid hA
  have HT := Lib.hid hT
  clear hA hT hn hbn
  go_enter Tryd.func5, Tryd.ntmps5
  go_wp2_with fail
  refine (awake_any _).mono ?_
  rintro e w1 ⟨rfl, hb⟩
  have hb1 := Lib.hid hb
  clear hb
  go_wp2_with fail
  refine (newNet_any _).mono ?_
  rintro e w' ⟨rfl, rfl⟩
  obtain ⟨w2, hw2⟩ : ∃ w2, w2 = (w1.alloc (.map #[] 0)).alloc (.cells #[.map (some w1.heap.size)] 62) := ⟨_, rfl⟩
  have H2 : Hid (Below w1.heap.size w1 w2 ∧ NetAt w1.heap.size w2 (w1.heap.size + 1) (fun _ => [])) := by rw [hw2]; exact ⟨((Below.refl _ _).alloc (Nat.le_refl _) _).alloc (by simp) _, netAt_new w1⟩
  rw [← hw2]
  clear hw2
  go_wp2_with fail
  refine (twin_n A n c bs HN.out.2 w2 (HA.out.below (hb1.out.trans (H2.out.1.mono hb1.out.size))) HN.out.1).mono ?_
  rintro e w3 ⟨A3, c3, rfl, H3⟩
  have H3' : Hid (Below w1.heap.size w1 w3 ∧ NetAt w1.heap.size w3 (w1.heap.size + 1) (fun _ => []) ∧ PktOK w2.heap.size w3 (.slice A3 n c3, bs)) := ⟨H2.out.1.trans (H3.out.2.mono H2.out.1.size), H2.out.2.below H3.out.2, H3.out.1⟩
  have hs2 : Hid (w1.heap.size ≤ w2.heap.size) := H2.out.1.size
  clear H3 H2
  have hA3 : Hid (BytesAt w3 A3 bs) := bytesAt_pkt H3'.out.2.2 (by rw [HN.out.2])
  go_wp2_with fail
  refine (keeps_send w1.heap.size (w1.heap.size + 1) A3 n c3 bs HN.out.2 w3 H3'.out.2.1 H3'.out.1.size hA3.out HN.out.1).mono ?_
  rintro e w4 ⟨A4, c4, rfl, H4⟩
  have H4' : Hid (Below w1.heap.size w1 w4) := H3'.out.1.trans H4.out.1
  clear hA3
  go_wp2_with fail
  refine (keeps_double w1.heap.size (w1.heap.size + 1) _ n bs HN.out.2 w4 H4.out.2.2.1 H4'.out.size).mono ?_
  rintro e w5 ⟨A5, c5, rfl, H5⟩
  have H5' : Hid (Below w1.heap.size w1 w5 ∧ PktOK w2.heap.size w5 (.slice A3 n c3, bs) ∧ PktOK w3.heap.size w5 (.slice A4 n c4, bs) ∧ PktOK w4.heap.size w5 (.slice A5 n c5, bs) ∧ NetAt w1.heap.size w5 (w1.heap.size + 1) (updS (fun _ => []) (2, 5) [(.slice A4 n c4, bs), (.slice A5 n c5, bs)]) ∧ w3.heap.size ≤ w4.heap.size ∧ (∀ g, (Value.slice A3 n c3).ownBlock = some g → g < w3.heap.size) ∧ (∀ g, (Value.slice A4 n c4).ownBlock = some g → g < w4.heap.size) ∧ w1.heap.size ≤ w3.heap.size) :=
    ⟨H4'.out.trans H5.out.1, H5.out.2.1.pkt (H4.out.2.1.pkt H3'.out.2.2), H5.out.2.1.pkt H4.out.2.2.2, H5.out.2.2.2, H5.out.2.2.1, H4.out.1.size, pkt_lt H3'.out.2.2, pkt_lt H4.out.2.2.2, H3'.out.1.size⟩
  clear H3' H4' H4 H5
  go_wp2
  go_loopw [38] (fun i wr => ∃ (j : Nat), j ≤ n ∧ i = .int .i64 j ∧ Hid (Nums w2.heap.size wr (.slice A3 n c3) n ∧ Touch (Value.slice A3 n c3).ownBlock w5 wr)) (fun i _ => n - (intOf i).toNat)
  case atStart => exact ⟨0, Nat.zero_le _, rfl, HN.out.2 ▸ H5'.out.2.1.nums, Touch.refl _ _⟩
  case round =>
    obtain ⟨j, hj, rfl, HS⟩ := hrel
    by_cases hlt : j < n
    · obtain ⟨g, x, rfl, hg, hc, hf, hbl, hset⟩ := HS.out.1.cell hlt
      have hj0 : ((0 : Int) ≤ j) := by omega
      have hj1 : ((j : Nat) : Int) < n := by omega
      have hwr : IntKind.i64.wrap ((j : Int) + 1) = ((j : Int) + 1) := by have := HN.out; rw [IntKind.wrap_i64]; omega
      go_wp2
      exact ⟨⟨j + 1, hlt, by simp, hset _, HS.out.2.trans (Touch.set _ _ _ _)⟩, by simp [intOf]; omega⟩
    · have hjn : j = n := by omega
      subst hjn
      have H6 := touch_net H5'.out.2.2.2.2.1 H5'.out.2.1 H5'.out.2.2.2.2.2.2.1 (l := [(.slice A4 j c4, bs), (.slice A5 j c5, bs)]) (b := w3.heap.size) (by
        intro p hp
        simp at hp
        rcases hp with rfl | rfl
        · exact H5'.out.2.2.1
        · exact H5'.out.2.2.2.1.mono' H5'.out.2.2.2.2.2.1) HS.out.2
      have hb6 : Below w1.heap.size w1 wr := H5'.out.1.trans (HS.out.2.below fun g hg => Nat.le_trans hs2.out (pkt_ge H5'.out.2.1 g hg))
      have H6' : Hid (Below w1.heap.size w1 wr ∧ NetAt w1.heap.size wr (w1.heap.size + 1) (updS (fun _ => []) (2, 5) [(.slice A4 j c4, bs), (.slice A5 j c5, bs)]) ∧ PktOK w3.heap.size wr (.slice A4 j c4, bs) ∧ PktOK w4.heap.size wr (.slice A5 j c5, bs) ∧ (∀ g, (Value.slice A4 j c4).ownBlock = some g → g < w4.heap.size) ∧ w1.heap.size ≤ w3.heap.size) := by
        refine ⟨hb6, H6.1, H6.2 _ (by simp), HS.out.2.row H5'.out.2.2.2.1 (fun g hg e => ?_), H5'.out.2.2.2.2.2.2.2.1, H5'.out.2.2.2.2.2.2.2.2⟩
        obtain ⟨_, _, hb, _⟩ := own_block H5'.out.2.2.2.1 hg
        have h1 := H5'.out.2.2.2.2.2.2.1 g e
        have h2 := H5'.out.2.2.2.2.2.1
        omega
      clear H6 hb6 HS H5' hs2 hlt hj
      go_wp2_with fail
      refine (keeps_deliver w1.heap.size (w1.heap.size + 1) _ bs _ wr H6'.out.2.1 H6'.out.1.size).mono ?_
      rintro e w7 ⟨rfl, H7⟩
      have H7' : Hid (Below w1.heap.size w1 w7 ∧ NetAt w1.heap.size w7 (w1.heap.size + 1) (updS (fun _ => []) (2, 5) [(.slice A5 j c5, bs)]) ∧ PktOK w3.heap.size w7 (.slice A4 j c4, bs) ∧ PktOK w4.heap.size w7 (.slice A5 j c5, bs) ∧ (∀ g, (Value.slice A4 j c4).ownBlock = some g → g < w4.heap.size) ∧ w1.heap.size ≤ w3.heap.size) := ⟨H6'.out.1.trans H7.out.1, H7.out.2.2, H7.out.2.1.pkt H6'.out.2.2.1, H7.out.2.1.pkt H6'.out.2.2.2.1, H6'.out.2.2.2.2.1, H6'.out.2.2.2.2.2⟩
      clear H6' H7
      go_wp2
      go_loopw [55] (fun i w8 => ∃ (k : Nat), k ≤ j ∧ i = .int .i64 k ∧ Hid (Nums w3.heap.size w8 (.slice A4 j c4) j ∧ Touch (Value.slice A4 j c4).ownBlock w7 w8)) (fun i _ => j - (intOf i).toNat)
      case atStart => exact ⟨0, Nat.zero_le _, rfl, HN.out.2 ▸ H7'.out.2.2.1.nums, Touch.refl _ _⟩
      case round =>
        obtain ⟨k, hk, rfl, HS⟩ := hrel
        by_cases hlt : k < j
        · obtain ⟨g, x, rfl, hg, hc, hf, hbl, hset⟩ := HS.out.1.cell hlt
          have hj0 : ((0 : Int) ≤ k) := by omega
          have hj1 : ((k : Nat) : Int) < j := by omega
          have hwr : IntKind.i64.wrap ((k : Int) + 1) = ((k : Int) + 1) := by have := HN.out; rw [IntKind.wrap_i64]; omega
          go_wp2
          exact ⟨⟨k + 1, hlt, by simp, hset _, HS.out.2.trans (Touch.set _ _ _ _)⟩, by simp [intOf]; omega⟩
        · have hjn : k = j := by omega
          subst hjn
          have H8 := touch_net H7'.out.2.1 H7'.out.2.2.1 H7'.out.2.2.2.2.1 (l := [(.slice A5 k c5, bs)]) (b := w4.heap.size) (by
            intro p hp
            simp at hp
            subst hp
            exact H7'.out.2.2.2.1) HS.out.2
          have hb8 : Below w1.heap.size w1 wr := H7'.out.1.trans (HS.out.2.below fun g hg => Nat.le_trans H7'.out.2.2.2.2.2 (pkt_ge H7'.out.2.2.1 g hg))
          have H8' : Hid (Below w1.heap.size w1 wr ∧ NetAt w1.heap.size wr (w1.heap.size + 1) (updS (fun _ => []) (2, 5) [(.slice A5 k c5, bs)]) ∧ PktOK w4.heap.size wr (.slice A5 k c5, bs)) := ⟨hb8, H8.1, H8.2 _ (by simp)⟩
          clear H8 hb8 HS H7' hlt hk
          go_wp2_with fail
          refine (keeps_deliver w1.heap.size (w1.heap.size + 1) _ bs _ wr H8'.out.2.1 H8'.out.1.size).mono ?_
          rintro e w9 ⟨rfl, H9⟩
          have H9' : Hid (Below w1.heap.size w1 w9 ∧ NetAt w1.heap.size w9 (w1.heap.size + 1) (updS (fun _ => []) (2, 5) []) ∧ BytesAt w9 A5 bs) := ⟨H8'.out.1.trans H9.out.1, H9.out.2.2, bytesAt_pkt (H9.out.2.1.pkt H8'.out.2.2) (by rw [HN.out.2])⟩
          clear H8' H9
          go_wp2_with fail
          refine (n_any 19 _).mono ?_
          rintro e w10 ⟨rfl, hb10⟩
          have HB10 := Lib.hid hb10
          clear hb10
          go_wp2_with fail
          obtain ⟨w11, hw11⟩ : ∃ w11, w11 = w10.alloc (.cells #[.bool true, .slice none 0 0, .int .i64 19] 41) := ⟨_, rfl⟩
          have hb11 : Hid (Below w9.heap.size w9 w11) := by rw [hw11]; exact HB10.out.alloc HB10.out.size _
          have q0 : w11.cell? ⟨w10.heap.size, 0, none⟩ = some (.bool true) := by rw [hw11]; simp
          have q1 : w11.cell? ⟨w10.heap.size, 1, none⟩ = some (.slice none 0 0) := by rw [hw11]; simp
          have q2 : w11.cell? ⟨w10.heap.size, 2, none⟩ = some (.int .i64 19) := by rw [hw11]; simp
          rw [← hw11]
          clear hw11 HB10
          refine (deliver_nil (k1, k2) 0 w11).mono ?_
          rintro e w12 ⟨rfl, hb12⟩
          have hK : KK w11 w10.heap.size w12 := KK.step ⟨q0, q1, q2, Below.refl _ _⟩ hb12
          clear q0 q1 q2 hb12
          obtain ⟨G, hG⟩ : ∃ G, G = w10.heap.size := ⟨_, rfl⟩
          rw [← hG] at hK ⊢
          have HAT : Hid (∀ W, KK w11 G W → BytesAt W A bs ∧ BytesAt W A5 bs ∧ ErrT W ∧ NetAt w1.heap.size W (w1.heap.size + 1) (updS (fun _ => []) (2, 5) []) ∧ w1.heap.size ≤ W.heap.size ∧ Below w.heap.size w W) := fun W hW => by
            have h1 : Below w9.heap.size w9 W := hb11.out.trans (hW.2.2.2.out.mono hb11.out.size)
            have h2 : Below w1.heap.size w1 W := H9'.out.1.trans (h1.mono H9'.out.1.size)
            have h3 : Below w.heap.size w W := hb1.out.trans (h2.mono hb1.out.size)
            exact ⟨HA.out.below h3, H9'.out.2.2.below h1, HT.out.below h3, H9'.out.2.1.below h1, h2.size, h3⟩
          have HBY : Hid (∀ W, KK w11 G W → Calls Tryd.prog 20 #[.slice A5 k c5, .slice A k c] W fun e w' => e = .returned (.bool true) ∧ KK w11 G w') := fun W hW => by
            have h1 := bytes_any A5 A bs bs c5 c W (HAT.out W hW).2.1 (HAT.out W hW).1
            rw [HN.out.2] at h1
            refine h1.mono ?_
            rintro e w' ⟨rfl, rfl⟩
            exact ⟨by simp, hW⟩
          have HF : Hid (∀ W, KK w11 G W → Calls Tryd.prog 14 #[.iface 39 (.int .i64 19), .agg #[.bool true, .slice none 0 0, .int .i64 19]] W fun e w' => e = .returned (.bool true) ∧ KK w11 G w') := fun W hW => by
            refine (fails_plain 19 19 W (HAT.out W hW).2.2.1).mono ?_
            rintro e w' ⟨rfl, hb⟩
            exact ⟨rfl, hW.step hb⟩
          have HSN : Hid (∀ W, KK w11 G W → Calls Tryd.prog 12 #[.pointer none, .int .i64 k1, .int .i64 k2, .slice A k c] W fun e w' => e = .returned (.iface 39 (.int .i64 19)) ∧ KK w11 G w') := fun W hW => by
            refine (send_nil (k1, k2) A k c W).mono ?_
            rintro e w' ⟨rfl, hb⟩
            exact ⟨rfl, hW.step hb⟩
          have HLN : Hid (∀ W, KK w11 G W → Calls Tryd.prog 16 #[.pointer none, .int .i64 k1, .int .i64 k2, .int .i64 0] W fun e w' => e = .returned (.iface 39 (.int .i64 19)) ∧ KK w11 G w') := fun W hW => by
            refine (lose_nil (k1, k2) 0 W).mono ?_
            rintro e w' ⟨rfl, hb⟩
            exact ⟨rfl, hW.step hb⟩
          have HDN : Hid (∀ W, KK w11 G W → Calls Tryd.prog 15 #[.pointer none, .int .i64 k1, .int .i64 k2, .int .i64 0] W fun e w' => e = .returned (.iface 39 (.int .i64 19)) ∧ KK w11 G w') := fun W hW => by
            refine (double_nil (k1, k2) 0 W).mono ?_
            rintro e w' ⟨rfl, hb⟩
            exact ⟨rfl, hW.step hb⟩
          have HWW : Hid (∀ o : Option Addr, (o = none ∨ o = some ⟨w1.heap.size + 1, 0, none⟩) → ∀ W, KK w11 G W → Calls Tryd.prog 21 #[.pointer o] W fun e w' => ∃ A9 c9, e = .returned (.slice A9 0 c9) ∧ KK w11 G w') := fun o ho W hW => by
            rcases ho with rfl | rfl
            · refine (ways_nil W).mono ?_
              rintro e w' ⟨rfl, rfl⟩
              exact ⟨none, 0, rfl, hW⟩
            · refine (ways_empty w1.heap.size (w1.heap.size + 1) W (HAT.out W hW).2.2.2.1 (HAT.out W hW).2.2.2.2.1).mono ?_
              rintro e w' ⟨A9, c9, rfl, hb⟩
              exact ⟨A9, c9, rfl, hW.step hb⟩
          have HEND : Hid (∀ W, KK w11 G W → Below w.heap.size w W) := fun W hW => (HAT.out W hW).2.2.2.2.2
          clear HAT H9' hb11 hG HA HT hb1 d
          simp only [errV]
          go_wp2
          have hKd : KK w11 G w12.drew := hK.step (Below.refl _ _).drew
          go_region_held_law (fun W => W.cell? ⟨G, 0, none⟩ = some (.bool true) ∧ W.cell? ⟨G, 1, none⟩ = some (.slice none 0 0) ∧ W.cell? ⟨G, 2, none⟩ = some (.int .i64 19) ∧ Hid (Below w11.heap.size w11 W))
            (assumption)
            (first
              | (go_at_call 20; refine (HBY.out _ (by assumption)).mono ?_; rintro e w13 ⟨rfl, hK13⟩)
              | (go_at_call 14; refine (HF.out _ (by assumption)).mono ?_; rintro e w13 ⟨rfl, hK13⟩)
              | (go_at_call 12; refine (HSN.out _ (by assumption)).mono ?_; rintro e w13 ⟨rfl, hK13⟩)
              | (go_at_call 16; refine (HLN.out _ (by assumption)).mono ?_; rintro e w13 ⟨rfl, hK13⟩)
              | (go_at_call 15; refine (HDN.out _ (by assumption)).mono ?_; rintro e w13 ⟨rfl, hK13⟩)
              | (go_at_call 21; refine (HWW.out _ (by first | exact .inl rfl | exact .inr rfl) _ (by assumption)).mono ?_; rintro e w13 ⟨A9, c9, rfl, hK13⟩))
          all_goals
            have HLAST := Lib.hid (HEND.out _ hK13)
            clear HBY HF HSN HLN HDN HWW HEND hK hKd
            go_wp2
            go_ret
            exact ⟨rfl, HLAST.out⟩

theorem keeps_out (A : Option Addr) (n c : Nat) (k1 k2 : Int) (w : World) (hn : 1000 < n) :
    Calls Tryd.prog 5 #[.slice A n c, .int .i64 k1, .int .i64 k2] w fun e w' => e = .returned (.bool true) ∧ Below w.heap.size w w' := by
  have d : decide ((n : Int) > 1000) = true := by simp; omega
  go_enter Tryd.func5, Tryd.ntmps5
  go_wp2_with (go_at_call 7; refine (awake_any _).mono ?_; rintro e w1 ⟨rfl, hb⟩)
  go_ret
  exact ⟨rfl, hb⟩

theorem keeps_any (A : Option Addr) (c : Nat) (bs : List UInt8) (k1 k2 : Int) (w : World) (hA : BytesAt w A bs) (hT : ErrT w) :
    Calls Tryd.prog 5 #[.slice A bs.length c, .int .i64 k1, .int .i64 k2] w fun e w' => e = .returned (.bool true) ∧ Below w.heap.size w w' := by
  by_cases h : 1000 < bs.length
  · exact keeps_out A _ c k1 k2 w h
  · exact keeps_in A _ c bs rfl k1 k2 w hA hT h
end Go.Proofs.YtgibpiakeaplbaaDoor
