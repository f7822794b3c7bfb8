/-
  tree: Path, walked. Own work.
-/
import Derived.Test.YtlkfcfcejicdkaaGreatDoorTreePath
set_option linter.unusedSimpArgs false
set_option linter.unusedVariables false
namespace Go.Proofs.YtlkfcfcejicdkaaGreatDoor
open Go Go.RowKit

def wayP (ms : List Int) (ls : List Lk) (a b : Int) : Er × List Int := match membersE ms ls [a, b] with
  | some e => (some e, [])
  | none => (none, (findF ls b 9 a (-1)).getD [])
section
variable (Am : Option Addr) (n cm : Nat) (Al : Option Addr) (q cl : Nat) (ms : List Int) (ls : List Lk) (a b : Int) (w : World)
set_option maxRecDepth 100000 in
set_option maxHeartbeats 4000000 in
theorem pathM_any (hG : GrAt w Am n Al q ms ls) (hn : n ≤ 1000) (hq : q ≤ 1000) :
    Calls Tryz.prog 11 #[grV Am n cm Al q cl, .int .i64 a, .int .i64 b] w fun e w' => GivesL w e w' (wayP ms ls a b).1 (wayP ms ls a b).2 := by
  have HG := Lib.hid hG
  have HN : Hid (n ≤ 1000 ∧ q ≤ 1000) := ⟨hn, hq⟩
  clear hG hn hq
  obtain ⟨b1, hb1⟩ : ∃ b, b = w.heap.size := ⟨_, rfl⟩
  obtain ⟨b5, hb5⟩ : ∃ b, b = w.heap.size + 1 := ⟨_, rfl⟩
  obtain ⟨b2, hb2⟩ : ∃ b, b = w.heap.size + 1 + 1 := ⟨_, rfl⟩
  obtain ⟨w1, hw1⟩ : ∃ w1, w1 = ((w.alloc (.cells #[.slice Am n cm, .slice Al q cl] 25)).alloc (.cells #[.int .i64 b] 3)).alloc (.cells #[.int .i64 a, .int .i64 b] 3) := ⟨_, rfl⟩
  have HB : Hid (w1.heap[b1]? = some (.cells #[.slice Am n cm, .slice Al q cl] 25 (0, 0)) ∧ w1.heap[b5]? = some (.cells #[.int .i64 b] 3 (0, 0)) ∧ w1.heap[b2]? = some (.cells #[.int .i64 a, .int .i64 b] 3 (0, 0)) ∧ Below w.heap.size w w1) := by
    rw [hw1, hb1, hb2, hb5]
    refine ⟨by rw [Below.heap_alloc _ _ _ (by simp; omega), Below.heap_alloc _ _ _ (by simp)]; exact heap_alloc_new _ _, ?_, ?_, (((Below.refl _ _).alloc (Nat.le_refl _) _).alloc (by simp) _).alloc (by simp; omega) _⟩
    · rw [Below.heap_alloc _ _ _ (by simp)]
      have := heap_alloc_new (w.alloc (.cells #[.slice Am n cm, .slice Al q cl] 25)) (.cells #[.int .i64 b] 3)
      simpa using this
    · have := heap_alloc_new ((w.alloc (.cells #[.slice Am n cm, .slice Al q cl] 25)).alloc (.cells #[.int .i64 b] 3)) (.cells #[.int .i64 a, .int .i64 b] 3)
      simpa using this
  have HCM := Lib.hid (members_any Am n cm Al q cl ms ls (some ⟨b2, 0, none⟩) 2 2 [a, b] w1 (HG.out.below HB.out.2.2.2) HN.out.1 HN.out.2 rfl (.inr ⟨b2, 0, rfl, fun j u hu => by
    match j, hu with
    | 0, hu => cases hu; exact (cell2 HB.out.2.2.1).1
    | 1, hu => cases hu; exact (cell2 HB.out.2.2.1).2.1⟩) (by decide))
  go_enter Tryz.func11, Tryz.ntmps11
  go_wp2_with fail
  rw [← hw1, ← hb2, ← hb5, ← hb1]
  clear hw1 hb2 hb5 hb1
  refine HCM.out.mono ?_
  rintro e w2 ⟨v, rfl, HE⟩
  have HB2 : Hid (w2.heap[b1]? = some (.cells #[.slice Am n cm, .slice Al q cl] 25 (0, 0)) ∧ w2.heap[b5]? = some (.cells #[.int .i64 b] 3 (0, 0)) ∧ Below w.heap.size w w2) := ⟨(HE.out.2.block b1 (Array.getElem?_eq_some_iff.1 HB.out.1).1).trans HB.out.1, (HE.out.2.block b5 (Array.getElem?_eq_some_iff.1 HB.out.2.1).1).trans HB.out.2.1, HB.out.2.2.2.trans (HE.out.2.mono HB.out.2.2.2.size)⟩
  rcases HE.out.1.cases with ⟨hc, rfl⟩ | ⟨hc, t, y, rfl⟩
  case inr =>
    have HM : Hid (wayP ms ls a b = (membersE ms ls [a, b], [])) := by
      unfold wayP
      cases h : membersE ms ls [a, b] with
      | none => exact absurd h hc
      | some e => rfl
    clear hc HCM HB
    go_wp2
    refine bodyPost_ret (v := .tuple #[.slice none 0 0, .iface t y]) (by simp [results, Tryz.results11, go_sem]) rfl ?_
    refine ⟨none, 0, _, by rw [HM.out]; rfl, ?_⟩
    rw [HM.out]
    exact ⟨HE.out.1, .nil, HB2.out.2.2⟩
  case inl =>
  have hgd := members_good hc
  obtain ⟨p, hp, hway⟩ := find_way hgd.1.ms_.2 hgd.1.tr (hgd.2 a (by simp)) (hgd.2 b (by simp)) (f := 9) (by omega)
  have HM : Hid (wayP ms ls a b = (none, p)) := by
    unfold wayP; rw [hc, hp]; rfl
  have HFI : Hid (∀ bf W, KF w W b5 b1 bf b (.slice Am n cm) (.slice Al q cl) → Calls Tryz.prog 36 #[.int .i64 a, .int .i64 (-1), .pointer (some ⟨b5, 0, none⟩), .pointer (some ⟨b1, 0, none⟩), .pointer (some ⟨bf, 0, none⟩)] W fun e w' => ∃ (g off c : Nat), e = .returned (.slice (some ⟨g, off, none⟩) p.length c) ∧ Hid (RowAt w' (some ⟨g, off, none⟩) (intVs p) ∧ Below w.heap.size w w')) := fun bf W hK => by
    have h1 := find_any w b5 b1 bf b Am n cm Al q cl ms ls HG.out.llen HG.out.lrow HN.out.2 hgd.1 9 a (-1) [] W (hgd.2 a (by simp)) trivial trivial (fun e => absurd rfl e) (by simp) hK
    rw [hp] at h1
    refine h1.mono ?_
    rintro e w' ⟨g, off, c, rfl, h2⟩
    exact ⟨g, off, c, rfl, h2.out.1, hK.old.trans (h2.out.2.mono hK.old.size)⟩
  have HK : Hid (KF w (w2.alloc (.cells #[.func (.func 36) #[] #[.pointer (some ⟨b5, 0, none⟩), .pointer (some ⟨b1, 0, none⟩), .pointer (some ⟨w2.heap.size, 0, none⟩)]] 67)) b5 b1 w2.heap.size b (.slice Am n cm) (.slice Al q cl)) :=
    ⟨(Below.heap_alloc _ _ _ (Array.getElem?_eq_some_iff.1 HB2.out.2.1).1).trans HB2.out.2.1, (Below.heap_alloc _ _ _ (Array.getElem?_eq_some_iff.1 HB2.out.1).1).trans HB2.out.1, heap_alloc_new _ _, HB2.out.2.2.alloc HB2.out.2.2.size _⟩
  clear hc HCM HB HE hgd hp hway
  go_wp2_with (go_at_call 36; refine (HFI.out _ _ HK.out).mono ?_; rintro e w9 ⟨g9, off9, c9, rfl, H9⟩)
  go_wp2
  refine bodyPost_ret (v := .tuple #[.slice (some ⟨g9, off9, none⟩) p.length c9, .nilIface]) (by simp [results, Tryz.results11, go_sem]) rfl ?_
  refine ⟨_, _, _, by rw [HM.out], ?_⟩
  rw [HM.out]
  exact ⟨rfl, H9.out⟩
end
end Go.Proofs.YtlkfcfcejicdkaaGreatDoor
