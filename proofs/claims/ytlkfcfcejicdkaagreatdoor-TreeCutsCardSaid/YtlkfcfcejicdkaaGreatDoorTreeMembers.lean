/-
  tree: members, walked. Own work.
-/
import Derived.Test.YtlkfcfcejicdkaaGreatDoorTreeLeave
set_option linter.unusedSimpArgs false
set_option linter.unusedVariables false
namespace Go.Proofs.YtlkfcfcejicdkaaGreatDoor
open Go Go.RowKit

theorem mem_take_all {α : Type} {P : α → Prop} {l : List α} {j : Nat} {y : α} (hy : l[j]? = some y) (h : ∀ x ∈ l.take j, P x) (hp : P y) : ∀ x ∈ l.take (j + 1), P x := fun x hx => by
  rw [take_snoc hy] at hx
  rcases List.mem_append.1 hx with h1 | h1
  · exact h x h1
  · have e : x = y := by simpa using h1
    rw [e]; exact hp
section
variable (Am : Option Addr) (n cm : Nat) (Al : Option Addr) (q cl : Nat) (ms : List Int) (ls : List Lk) (A : Option Addr) (m c : Nat) (l : List Int) (w : World)
set_option maxRecDepth 100000 in
set_option maxHeartbeats 4000000 in
theorem members_any (hG : GrAt w Am n Al q ms ls) (hn : n ≤ 1000) (hq : q ≤ 1000) (hl : l.length = m) (hA : RowAt w A (intVs l)) (hm : m ≤ 1000) :
    Calls Tryz.prog 35 #[grV Am n cm Al q cl, .slice A m c] w fun e w' => ∃ v, e = .returned v ∧ Hid (ErrIs w' v (membersE ms ls l) ∧ Below w.heap.size w w') := by
  have HG := Lib.hid hG
  have HA := Lib.hid hA
  have HN : Hid (n ≤ 1000 ∧ q ≤ 1000 ∧ m ≤ 1000 ∧ l.length = m) := ⟨hn, hq, hm, hl⟩
  clear hG hn hq hl hA hm
  have HCK : Hid (∀ W, Below w.heap.size w W → Calls Tryz.prog 26 #[grV Am n cm Al q cl] W fun e w' => ∃ v, e = .returned v ∧ Hid (ErrIs w' v (chk ms ls) ∧ Below W.heap.size W w')) := fun W hW => check_any Am n cm Al q cl ms ls W (HG.out.below hW) HN.out.1 HN.out.2.1
  obtain ⟨b1, hb1⟩ : ∃ b, b = w.heap.size := ⟨_, rfl⟩
  obtain ⟨w1, hw1⟩ : ∃ w1, w1 = w.alloc (.cells #[.slice Am n cm, .slice Al q cl] 25) := ⟨_, rfl⟩
  have HB : Hid (w1.heap[b1]? = some (.cells #[.slice Am n cm, .slice Al q cl] 25 (0, 0)) ∧ Below w.heap.size w w1) := by rw [hw1, hb1]; exact ⟨heap_alloc_new _ _, (Below.refl _ _).alloc (Nat.le_refl _) _⟩
  go_enter Tryz.func35, Tryz.ntmps35
  go_wp2_with fail
  rw [← hw1, ← hb1]
  clear hw1 hb1
  refine (HCK.out w1 HB.out.2).mono ?_
  rintro e w2 ⟨v, rfl, HE⟩
  have HB2 : Hid (w2.heap[b1]? = some (.cells #[.slice Am n cm, .slice Al q cl] 25 (0, 0)) ∧ Below w.heap.size w w2) := ⟨(HE.out.2.block b1 (Array.getElem?_eq_some_iff.1 HB.out.1).1).trans HB.out.1, HB.out.2.trans (HE.out.2.mono HB.out.2.size)⟩
  rcases HE.out.1.cases with ⟨hc, rfl⟩ | ⟨hc, t, y, rfl⟩
  case inr =>
    have HM : Hid (membersE ms ls l = chk ms ls) := by
      unfold membersE
      cases h : chk ms ls with
      | none => exact absurd h hc
      | some e => rfl
    clear hc
    go_wp2
    go_ret
    exact ⟨_, rfl, by rw [HM.out]; exact HE.out.1, HB2.out.2⟩
  case inl =>
  have HM : Hid (membersE ms ls l = if ∃ n ∈ l, n ∉ ms then plainE 12 else none) := by
    unfold membersE; rw [hc]; rfl
  clear hc HE HB HCK
  go_wp2
  go_loopw [15] (fun i wr => ∃ (j : Nat), j ≤ m ∧ i = .int .i64 j ∧ Hid ((∀ x ∈ l.take j, x ∈ ms) ∧ Below w2.heap.size w2 wr)) (fun i _ => m - (intOf i).toNat)
  case atStart => exact ⟨0, Nat.zero_le _, rfl, by simp, Below.refl _ _⟩
  case round =>
    obtain ⟨j, hj, rfl, HS⟩ := hrel
    by_cases hlt : j < m
    · obtain ⟨y, hy⟩ : ∃ y, Hid (l[j]? = some y) := ⟨_, List.getElem?_eq_getElem (by have := HN.out; omega)⟩
      have HBr := Lib.hid (HB2.out.2.trans (HS.out.2.mono HB2.out.2.size))
      obtain ⟨g, off, rfl, d0, hg⟩ := (HA.out.below HBr.out).int hy.out
      obtain ⟨x0, x1, _, _⟩ := cell2 ((HS.out.2.block b1 (Array.getElem?_eq_some_iff.1 HB2.out.1).1).trans HB2.out.1)
      have hw1 : IntKind.i64.wrap ((j : Int) + 1) = ((j + 1 : Nat) : Int) := by have := HN.out; rw [IntKind.wrap_i64]; omega
      have hj0 : ((0 : Int) ≤ j) := by omega
      have hj1 : ((j : Nat) : Int) < m := by omega
      have HH := Lib.hid (has_any Am n cm Al q cl ms y wr HG.out.mlen (HG.out.mrow.below HBr.out) (Nat.le_trans HN.out.1 (by decide)))
      by_cases hxy : y ∈ ms
      · rw [decide_eq_true hxy] at HH
        have HX := Lib.hid hxy
        clear hxy
        go_wp2_with fail
        refine HH.out.mono ?_
        rintro e w3 ⟨rfl, hb3⟩
        go_wp2
        exact ⟨⟨j + 1, hlt, by go_num, mem_take_all hy.out HS.out.1 HX.out, HS.out.2.trans (hb3.mono HS.out.2.size)⟩, by simp [intOf]; omega⟩
      · rw [decide_eq_false hxy] at HH
        have HX : Hid (membersE ms ls l = plainE 12) := by rw [Hid, HM.out, if_pos ⟨y, List.mem_of_getElem? hy.out, hxy⟩]
        clear hxy
        go_wp2_with fail
        refine HH.out.mono ?_
        rintro e w3 ⟨rfl, hb3⟩
        go_wp2
        go_ret
        exact ⟨_, rfl, by rw [HX.out]; rfl, HBr.out.trans (hb3.mono HBr.out.size)⟩
    · have hjn : j = m := by omega
      subst hjn
      have HX : Hid (membersE ms ls l = none) := by
        rw [Hid, HM.out, if_neg]
        rintro ⟨x, hx, hxm⟩
        exact hxm (HS.out.1 x (by rw [List.take_of_length_le (by have := HN.out; omega)]; exact hx))
      go_wp2
      go_ret
      exact ⟨_, rfl, by rw [HX.out]; rfl, HB2.out.2.trans (HS.out.2.mono HB2.out.2.size)⟩
end
/-- What a call answers that gives a list. -/
def GivesL (w0 : World) (e : Ending) (w' : World) (er : Er) (l : List Int) : Prop := ∃ (A : Option Addr) (c : Nat) (v : Value), e = .returned (.tuple #[.slice A l.length c, v]) ∧ Hid (ErrIs w' v er ∧ RowAt w' A (intVs l) ∧ Below w0.heap.size w0 w')
end Go.Proofs.YtlkfcfcejicdkaaGreatDoor
