/-
  The reference's Send, Take and Double, whatever they are handed: lists told by their packets' bytes. Own work.
-/
import Derived.Test.YtgibpiakeaplbaaDoorNetRDouble
set_option linter.unusedSimpArgs false
set_option linter.unusedVariables false
namespace Go.Proofs.YtgibpiakeaplbaaDoor
open Go Go.RowKit

abbrev PB := (Int × Int) × List UInt8
/-- The reference's list, by its bytes: these lie where they lay when the law began (w0). -/
def RefAt (w0 w : World) (A : Option Addr) (n c : Nat) (lb : List PB) : Prop := ∃ lr : List RP, LstAt w A n c lr ∧ lr.map (·.1) = lb.map (·.1) ∧ ∀ (i : Nat) (x : RP) (y : PB), lr[i]? = some x → lb[i]? = some y → x.2.2.1 = y.2.length ∧ BytesAt w0 x.2.1 y.2
theorem RefAt.below {w0 w w' : World} {A : Option Addr} {n c : Nat} {lb : List PB} (h : RefAt w0 w A n c lb) (hb : Below w.heap.size w w') : RefAt w0 w' A n c lb := by
  obtain ⟨lr, h1, h2⟩ := h; exact ⟨lr, h1.below hb, h2⟩
theorem RefAt.keep {w0 w w' : World} {A : Option Addr} {n c : Nat} {lb : List PB} (h : RefAt w0 w A n c lb) (hk : KeepC w w') : RefAt w0 w' A n c lb := by
  obtain ⟨lr, h1, h2⟩ := h; exact ⟨lr, h1.keep hk, h2⟩
theorem RefAt.len {w0 w : World} {A : Option Addr} {n c : Nat} {lb : List PB} (h : RefAt w0 w A n c lb) : lb.length = n := by
  obtain ⟨lr, h1, h2, _⟩ := h
  have := congrArg List.length h2
  simp at this
  rw [← this, h1.len]
theorem RefAt.pack {w0 w : World} {A : Option Addr} {n c : Nat} {lb : List PB} (h : RefAt w0 w A n c lb) : ∃ lr : List RP, lr.length = n ∧ PackAt w A lr ∧ ∀ k, (line k lb).length = cnt k lr := by
  obtain ⟨lr, h1, h2, _⟩ := h
  exact ⟨lr, h1.len, h1.pack, fun k => by rw [cnt_eq_line, line_len_ways k lr lb h2]⟩
theorem RefAt.nil0 (w0 w : World) : RefAt w0 w none 0 0 [] := ⟨[], LstAt.nil0 w, rfl, fun i x y h => by simp at h⟩

def linesOf (lb : List PB) : Lines := fun k => line k lb
theorem linesOf_snoc (lb : List PB) (k : Int × Int) (pb : List UInt8) : updT (linesOf lb) k (linesOf lb k ++ [pb]) = linesOf (lb ++ [(k, pb)]) := by
  funext k'
  unfold updT linesOf
  rw [line_snoc]
  by_cases h : k' = k
  · subst h; simp
  · have h2 : ¬ (k = k') := fun e => h e.symm
    simp [h, h2]
theorem linesOf_erase (lb : List PB) (k : Int × Int) (i : Nat) (hi : i < (line k lb).length) : updT (linesOf lb) k ((linesOf lb k).eraseIdx i) = linesOf (lb.eraseIdx (idx k lb i)) := by
  funext k'
  unfold updT linesOf
  rw [line_erase k k' lb i hi]

theorem wayE_is (k : Int × Int) : wayE k = none ∨ wayE k = some 12 := by
  unfold wayE; split <;> simp

/-- An error's value, by its parts. -/
def eP (x : Option Int) : Value := .agg #[.bool x.isSome, .slice none 0 0, .int .i64 (x.getD 0)]
theorem eV_eP (x : Option Int) : eV x = eP x := eV_eq x

theorem sendref_any (w0 : World) (A : Option Addr) (n c : Nat) (lb : List PB) (k : Int × Int) (Ap : Option Addr) (np cp : Nat) (pb : List UInt8) (hpb : pb.length = np) (w : World) (hL : RefAt w0 w A n c lb) (hn : n ≤ 200) (hp : BytesAt w0 Ap pb) :
    Calls Tryd.prog 22 #[.slice A n c, .int .i64 k.1, .int .i64 k.2, .slice Ap np cp] w fun e w' => ∃ A' n' c', e = .returned (.tuple #[.slice A' n' c', eP (sendT (linesOf lb) k np)]) ∧
      Hid (n' ≤ n + 1 ∧ RefAt w0 w' A' n' c' (if sendT (linesOf lb) k np = none then lb ++ [(k, pb)] else lb) ∧ Below w.heap.size w w') := by
  have hlen := hL.len
  rcases wayE_is k with hk | hk
  · by_cases hl : 1048576 < np
    · have hs : sendT (linesOf lb) k np = some 2 := by simp only [sendT, hk]; rw [if_pos hl]
      refine (sendref_long A n c k Ap np cp w hk hl).mono ?_
      rintro e w' ⟨rfl, hb⟩
      rw [hs, ← eV_eP, if_neg (by simp)]
      exact ⟨A, n, c, rfl, by omega, hL.below hb.out, hb.out⟩
    · have hs : sendT (linesOf lb) k np = none := by
        have h1 : (linesOf lb k).length ≤ 200 := by have : (line k lb).length ≤ lb.length := line_len_le k lb; show (line k lb).length ≤ 200; omega
        simp only [sendT, hk]; rw [if_neg hl, if_neg (by omega)]
      obtain ⟨lr, h1, h2, h3⟩ := hL
      refine (sendref_ok A n c lr k Ap np cp w h1 hn hk hl).mono ?_
      rintro e w' ⟨A', c', rfl, hb⟩
      rw [hs, ← eV_eP, if_pos rfl]
      refine ⟨A', n + 1, c', rfl, Nat.le_refl _, ⟨_, hb.out.1, by simp [h2], fun i x y hx hy => ?_⟩, hb.out.2⟩
      have hll : lr.length = lb.length := by rw [h1.len, hlen]
      by_cases hi : i < lr.length
      · rw [List.getElem?_append_left hi] at hx
        rw [List.getElem?_append_left (by omega)] at hy
        exact h3 i x y hx hy
      · rw [List.getElem?_append_right (by omega)] at hx hy
        have e0 : i - lr.length = 0 := by
          have := (List.getElem?_eq_some_iff.1 hx).1
          simp at this; omega
        rw [e0] at hx
        rw [← hll, e0] at hy
        simp at hx hy
        subst hx hy
        exact ⟨hpb.symm, hp⟩
  · have hs : sendT (linesOf lb) k np = some 12 := by simp only [sendT, hk]
    refine (sendref_way A n c k Ap np cp w hk).mono ?_
    rintro e w' ⟨rfl, hb⟩
    rw [hs, ← eV_eP, if_neg (by simp)]
    exact ⟨A, n, c, rfl, by omega, hL.below hb.out, hb.out⟩

/-- The packet that Take answers. -/
def tookT (T : Lines) (k : Int × Int) (i : Int) : List UInt8 := if placeT T k i = none then (T k).getD i.toNat [] else []

theorem placeT_none {lb : List PB} {k : Int × Int} {i : Int} (hk : wayE k = none) (h0 : 0 ≤ i) (h1 : i.toNat < (line k lb).length) : placeT (linesOf lb) k i = none := by
  have h9 : (linesOf lb k).length = (line k lb).length := rfl
  simp only [placeT, hk]; rw [if_neg (by omega)]
theorem placeT_out {lb : List PB} {k : Int × Int} {i : Int} (hk : wayE k = none) (h : i < 0 ∨ (line k lb).length ≤ i.toNat) : placeT (linesOf lb) k i = some 10 := by
  have h9 : (linesOf lb k).length = (line k lb).length := rfl
  simp only [placeT, hk]; rw [if_pos (by omega)]
theorem placeT_way {T : Lines} {k : Int × Int} {i : Int} (hk : wayE k = some 12) : placeT T k i = some 12 := by simp only [placeT, hk]

theorem takeref_any (w0 : World) (A : Option Addr) (n c : Nat) (lb : List PB) (k : Int × Int) (i : Int) (w : World) (hL : RefAt w0 w A n c lb) (hn : n ≤ 200) :
    Calls Tryd.prog 23 #[.slice A n c, .int .i64 k.1, .int .i64 k.2, .int .i64 i] w fun e w' => ∃ Aq nq cq A' n' c', e = .returned (.tuple #[.slice Aq nq cq, .slice A' n' c', eP (placeT (linesOf lb) k i)]) ∧
      Hid (n' ≤ n + 1 ∧ nq = (tookT (linesOf lb) k i).length ∧ BytesAt w0 Aq (tookT (linesOf lb) k i) ∧ RefAt w0 w' A' n' c' (if placeT (linesOf lb) k i = none then lb.eraseIdx (idx k lb i.toNat) else lb) ∧ Below w.heap.size w w') := by
  have hlen := hL.len
  rcases wayE_is k with hk | hk
  · by_cases hin : 0 ≤ i ∧ i.toNat < (line k lb).length
    · obtain ⟨h0, h1⟩ := hin
      have hs := placeT_none hk h0 h1
      obtain ⟨lr, h2, h3, h4⟩ := hL
      have hll := line_len_ways k lr lb h3
      obtain ⟨x, hx, hxk, hxl⟩ := idx_at k lr i.toNat (by rw [hll]; exact h1)
      obtain ⟨y, hy, hyk, hyl⟩ := idx_at k lb i.toNat h1
      have hid := idx_ways k lr lb h3 i.toNat
      have hxy := h4 _ x y hx (by rw [hid]; exact hy)
      have hi : ((i.toNat : Nat) : Int) = i := by omega
      have hc := takeref_ok A n c lr k i.toNat x w h2 hn hk (by rw [hll]; exact h1) hx
      rw [hi] at hc
      refine hc.mono ?_
      rintro e w' ⟨A', n', c', rfl, hb⟩
      have ht : tookT (linesOf lb) k i = y.2 := by
        unfold tookT
        rw [if_pos hs]
        simp [linesOf, List.getD, hyl]
      rw [hs, ← eV_eP, if_pos rfl, ht]
      have hn' : n' ≤ n + 1 := by
        have h5 := hb.out.1.len
        rw [List.length_eraseIdx] at h5
        have h6 := h2.len
        split at h5 <;> omega
      refine ⟨_, _, _, A', n', c', rfl, hn', hxy.1, hxy.2, ⟨_, hb.out.1, ?_, fun j u v hu hv => ?_⟩, hb.out.2⟩
      · rw [map_erase, map_erase, h3, hid]
      · rw [← hid, List.getElem?_eraseIdx] at hv
        rw [List.getElem?_eraseIdx] at hu
        split at hu
        · rename_i hj
          rw [if_pos hj] at hv
          exact h4 _ u v hu hv
        · rename_i hj
          rw [if_neg hj] at hv
          exact h4 _ u v hu hv
    · have hout : i < 0 ∨ (line k lb).length ≤ i.toNat := by omega
      have hs := placeT_out hk hout
      have hL' := hL
      obtain ⟨lr, h2, h3, h4⟩ := hL'
      have hll := line_len_ways k lr lb h3
      refine (takeref_none A n c lr k i w h2 hn hk (by rw [cnt_eq_line, hll]; omega)).mono ?_
      rintro e w' ⟨rfl, hb⟩
      have ht : tookT (linesOf lb) k i = [] := by unfold tookT; rw [if_neg (by rw [hs]; simp)]
      rw [hs, ← eV_eP, if_neg (by simp), ht]
      exact ⟨none, 0, 0, A, n, c, rfl, by omega, rfl, ⟨fun _ => rfl, fun ad e => by cases e⟩, hL.below hb.out, hb.out⟩
  · have hs := placeT_way (T := linesOf lb) (i := i) hk
    refine (takeref_way A n c k i w hk).mono ?_
    rintro e w' ⟨rfl, hb⟩
    have ht : tookT (linesOf lb) k i = [] := by unfold tookT; rw [if_neg (by rw [hs]; simp)]
    rw [hs, ← eV_eP, if_neg (by simp), ht]
    exact ⟨none, 0, 0, A, n, c, rfl, by omega, rfl, ⟨fun _ => rfl, fun ad e => by cases e⟩, hL.below hb.out, hb.out⟩

theorem doubleref_any (w0 : World) (A : Option Addr) (n c : Nat) (lb : List PB) (k : Int × Int) (i : Int) (w : World) (hL : RefAt w0 w A n c lb) (hn : n ≤ 200) :
    Calls Tryd.prog 24 #[.slice A n c, .int .i64 k.1, .int .i64 k.2, .int .i64 i] w fun e w' => ∃ A' n' c', e = .returned (.tuple #[.slice A' n' c', eP (doubleT (linesOf lb) k i)]) ∧
      Hid (n' ≤ n + 1 ∧ RefAt w0 w' A' n' c' (if doubleT (linesOf lb) k i = none then lb ++ [(k, (linesOf lb k).getD i.toNat [])] else lb) ∧ Below w.heap.size w w') := by
  have hlen := hL.len
  have hll2 : (line k lb).length ≤ 200 := by have := line_len_le k lb; omega
  rcases wayE_is k with hk | hk
  · by_cases hin : 0 ≤ i ∧ i.toNat < (line k lb).length
    · obtain ⟨h0, h1⟩ := hin
      have hs : doubleT (linesOf lb) k i = none := by
        have h9 : (linesOf lb k).length = (line k lb).length := rfl
        simp only [doubleT, placeT_none hk h0 h1]; rw [if_neg (by omega)]
      obtain ⟨lr, h2, h3, h4⟩ := hL
      have hll := line_len_ways k lr lb h3
      obtain ⟨x, hx, hxk, hxl⟩ := idx_at k lr i.toNat (by rw [hll]; exact h1)
      obtain ⟨y, hy, hyk, hyl⟩ := idx_at k lb i.toNat h1
      have hid := idx_ways k lr lb h3 i.toNat
      have hxy := h4 _ x y hx (by rw [hid]; exact hy)
      have hi : ((i.toNat : Nat) : Int) = i := by omega
      have hc := doubleref_ok A n c lr k i.toNat x w h2 hn hk (by rw [hll]; exact h1) hx
      rw [hi] at hc
      refine hc.mono ?_
      rintro e w' ⟨A', n', c', rfl, hb⟩
      have ht : (linesOf lb k).getD i.toNat [] = y.2 := by simp [linesOf, List.getD, hyl]
      rw [hs, ← eV_eP, if_pos rfl, ht]
      have hn' : n' ≤ n + 1 := by
        have h5 := hb.out.1.len
        have h6 := h2.len
        simp at h5; omega
      refine ⟨A', n', c', rfl, hn', ⟨_, hb.out.1, by simp [h3], fun j u v hu hv => ?_⟩, hb.out.2⟩
      have hl : lr.length = lb.length := by rw [h2.len, hlen]
      by_cases hj : j < lr.length
      · rw [List.getElem?_append_left hj] at hu
        rw [List.getElem?_append_left (by omega)] at hv
        exact h4 j u v hu hv
      · rw [List.getElem?_append_right (by omega)] at hu hv
        have e0 : j - lr.length = 0 := by
          have := (List.getElem?_eq_some_iff.1 hu).1
          simp at this; omega
        rw [e0] at hu
        rw [← hl, e0] at hv
        simp at hu hv
        subst hu hv
        exact hxy
    · have hout : i < 0 ∨ (line k lb).length ≤ i.toNat := by omega
      have hp := placeT_out hk hout
      have hs : doubleT (linesOf lb) k i = some 10 := by simp only [doubleT, hp]
      have hL' := hL
      obtain ⟨lr, h2, h3, h4⟩ := hL'
      have hll := line_len_ways k lr lb h3
      refine (doubleref_bad A n c k i 10 w fun W hW => takeref_none A n c lr k i W (h2.below hW) hn hk (by rw [cnt_eq_line, hll]; omega)).mono ?_
      rintro e w' ⟨rfl, hb⟩
      rw [hs, ← eV_eP, if_neg (by simp)]
      exact ⟨A, n, c, rfl, by omega, hL.below hb.out, hb.out⟩
  · have hs : doubleT (linesOf lb) k i = some 12 := by simp only [doubleT, placeT_way hk]
    refine (doubleref_bad A n c k i 12 w fun W hW => takeref_way A n c k i W hk).mono ?_
    rintro e w' ⟨rfl, hb⟩
    rw [hs, ← eV_eP, if_neg (by simp)]
    exact ⟨A, n, c, rfl, by omega, hL.below hb.out, hb.out⟩
end Go.Proofs.YtgibpiakeaplbaaDoor
