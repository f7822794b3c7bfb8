/-
  tree: Near, Side, Path of the program once more: their answers are new memory. Printed by gen_treenew.py. Own work.
  tree: the document's members. Own work.
  tree: the document's Near, Side. Printed by gen_treeside.py. Own work.
  tree: the document's path, Path. Printed by gen_treepath.py. Own work.
  tree: the document's Links, Same, Twin. Own work.
  tree: the document's Twin. Own work.
  tree: the laws' line, small, awake. Own work.
  tree: the laws' arguments, read as the walks want them. Own work.
-/
import Derived.Test.YtlkfcfcejicdkaaGreatDoorTreePath2
import Derived.Test.YtlkfcfcejicdkaaGreatDoorTreeRefA
import Derived.Test.YtlkfcfcejicdkaaGreatDoorTreeFails
import Derived.Test.YtlkfcfcejicdkaaGreatDoorTreeRef4
import Derived.Deep.RegionLaw
import Derived.Test.YtlkfcfcejicdkaaGreatDoorTreeStep
import Derived.Deep.Slices
import Derived.Deep.Strs
import Derived.Lib.SmallJoins
import Derived.ChangeSame
import Derived.ProofKit
set_option linter.unusedSimpArgs false
set_option linter.unusedVariables false
namespace Go.Proofs.YtlkfcfcejicdkaaGreatDoor
open Go Go.RowKit

/-- In new memory. -/
def NewA (b : Nat) (A : Option Addr) : Prop := ∀ a, A = some a → b ≤ a.block
theorem own_new {W : World} {base s n c B : Nat} {e : TypeId} {A : Option Addr} {xs : List Value} (h : W.ownsRow base e s (.slice A n c) n xs) (hb : B ≤ base) : NewA B A := fun a ha => Nat.le_trans hb (own_block h (g := a.block) (by simp [Value.ownBlock, ha])).choose_spec.2.1
theorem RowAt.set_new {W : World} {A : Option Addr} {vs : List Value} {B b i : Nat} (h : RowAt W A vs) (hn : NewA B A) (hb : b < B) (v : Value) : RowAt (W.setCell ⟨b, i, none⟩ v) A vs :=
  h.keep fun g off e _ => Below.heap_setCell _ _ _ _ (by
    have := hn _ e
    show g ≠ b
    simp only at this
    omega)
/-- What a call answers that gives a list, in new memory. -/
def GivesN (w0 : World) (e : Ending) (w' : World) (er : Er) (l : List Int) : Prop := ∃ (A : Option Addr) (c : Nat) (v : Value), e = .returned (.tuple #[.slice A l.length c, v]) ∧ Hid (ErrIs w' v er ∧ RowAt w' A (intVs l) ∧ Below w0.heap.size w0 w' ∧ NewA w0.heap.size A)
def FindN (W : World) (e : Ending) (w' : World) : Option (List Int) → Prop
  | none => e = .returned (.slice none 0 0) ∧ Hid (Below W.heap.size W w')
  | some p => ∃ (g off c : Nat), e = .returned (.slice (some ⟨g, off, none⟩) p.length c) ∧ Hid (RowAt w' (some ⟨g, off, none⟩) (intVs p) ∧ Below W.heap.size W w' ∧ W.heap.size ≤ g)
set_option maxRecDepth 100000 in
set_option maxHeartbeats 4000000 in
theorem side_new (Am : Option Addr) (nm cm : Nat) (Al : Option Addr) (q cl : Nat) (ls : List Lk) (n fr : Int) (w : World) (hl : ls.length = q) (hA : RowAt w Al (lkCells ls)) (hq : q ≤ 1000) (hn : ls.Nodup) (hk : ∀ k ∈ ls, k.1 < k.2 ∧ k.1 ∈ ALL ∧ k.2 ∈ ALL) (hnA : n ∈ ALL) :
    Calls Tryz.prog 40 #[grV Am nm cm Al q cl, .int .i64 n, .int .i64 fr] w fun e w' => ∃ (A : Option Addr) (c : Nat), e = .returned (.slice A (visitF ls 9 [] n fr).length c) ∧ Hid (RowAt w' A (intVs (inOrder (visitF ls 9 [] n fr))) ∧ Below w.heap.size w w' ∧ NewA w.heap.size A) := by
  have hvk := visit_keep ls 9 [] n fr List.nodup_nil (fun x h => by cases h) hnA
  obtain ⟨r, hr⟩ : ∃ r, Hid (visitF ls 9 [] n fr = r) := ⟨_, rfl⟩
  have HV : Hid (∀ (w0 : World) (bg bl bv base : Nat) (W : World), Below w.heap.size w w0 → VSt w0 W bg bl bv base Am nm cm Al q cl none 0 0 [] →
      Calls Tryz.prog 64 #[.int .i64 n, .int .i64 fr, .pointer (some ⟨bl, 0, none⟩), .pointer (some ⟨bg, 0, none⟩), .pointer (some ⟨bv, 0, none⟩)] W fun e w' => e = .returned (.tuple #[]) ∧ Hid (VEnd w0 W w' bg bl bv base Am nm cm Al q cl none r)) := fun w0 bg bl bv base W hw hS => by
    have := visit_any w0 bg bl bv base Am nm cm Al q cl ls hl (hA.below hw) hq hn hk 9 n fr none 0 0 [] W hnA List.nodup_nil (fun x h => by cases h) rfl (by omega) hS
    rw [hr.out] at this; exact this
  rw [hr.out] at hvk ⊢
  have HVK := Lib.hid hvk
  have HLE : Hid (r.length ≤ 8) := nodup_le hvk.1 (m := ALL) hvk.2.1
  clear hA hq hl hn hk hnA hvk hr
  obtain ⟨w1, hw1⟩ : ∃ w1, w1 = ((w.alloc (.cells #[.slice Am nm cm, .slice Al q cl] 25)).alloc (.cells #[.slice none 0 0] 22)).alloc (.cells #[.func (.func 64) #[] #[.pointer (some ⟨w.heap.size + 1, 0, none⟩), .pointer (some ⟨w.heap.size, 0, none⟩), .pointer (some ⟨w.heap.size + 1 + 1, 0, none⟩)]] 89) := ⟨_, rfl⟩
  have HS : Hid (VSt w w1 w.heap.size (w.heap.size + 1) (w.heap.size + 1 + 1) (w.heap.size + 3) Am nm cm Al q cl none 0 0 []) := by
    refine ⟨?_, ?_, ?_, by simpa [intVs] using World.ownsRow_nil _ _ _ _, ?_, by rw [hw1]; simp⟩
    · rw [hw1, Below.heap_alloc _ _ _ (by simp; omega), Below.heap_alloc _ _ _ (by simp)]; exact heap_alloc_new _ _
    · rw [hw1, Below.heap_alloc _ _ _ (by simp)]
      have := heap_alloc_new (w.alloc (.cells #[.slice Am nm cm, .slice Al q cl] 25)) (.cells #[.slice none 0 0] 22)
      simpa using this
    · rw [hw1]
      have := heap_alloc_new ((w.alloc (.cells #[.slice Am nm cm, .slice Al q cl] 25)).alloc (.cells #[.slice none 0 0] 22)) (.cells #[.func (.func 64) #[] #[.pointer (some ⟨w.heap.size + 1, 0, none⟩), .pointer (some ⟨w.heap.size, 0, none⟩), .pointer (some ⟨w.heap.size + 1 + 1, 0, none⟩)]] 89)
      simpa using this
    · rw [hw1]; exact (((Below.refl _ _).alloc (Nat.le_refl _) _).alloc (by simp) _).alloc (by simp; omega) _
  go_enter Tryz.func40, Tryz.ntmps40
  go_wp2_with fail
  rw [← hw1]
  clear hw1
  refine (HV.out w _ _ _ _ w1 (Below.refl _ _) HS.out).mono ?_
  rintro e w5 ⟨rfl, H5⟩
  obtain ⟨A6, m6, c6, hm6, hS6, hF6⟩ := H5.out
  obtain ⟨l0, lf, ll⟩ := cell1 hS6.l
  have HM : Hid (r.length = m6) := hm6
  have H6 := Lib.hid hS6
  have HSI := Lib.hid (sortI_any (w.heap.size + 3) A6 m6 c6 r hm6 w5 hS6.own hS6.low.2.2.2.2 (by have := HLE.out; omega))
  clear hm6 hS6 hF6 H5 HV HS
  go_wp2_with fail
  refine HSI.out.mono ?_
  rintro e w7 ⟨rfl, l', hp, hs, hr, hb⟩
  have e2 : l' = inOrder r := sorted_inOrder hp hs HVK.out.1 HVK.out.2.1
  subst e2
  have HF : Hid (RowAt w7 A6 (intVs (inOrder r)) ∧ Below w.heap.size w w7 ∧ NewA w.heap.size A6) := ⟨hr, H6.out.old.trans (hb.mono (by omega)), fun a e => by
    obtain ⟨_, _, h1, _⟩ := own_block H6.out.own (g := a.block) (by simp [Value.ownBlock, e])
    omega⟩
  have hl7 : w7.heap[w.heap.size + 1]? = some (.cells #[.slice A6 m6 c6] 22 (0, 0)) := (hb.block _ (by omega)).trans H6.out.l
  clear l0 lf ll hr hb hp hs HSI
  obtain ⟨l0, lf, ll⟩ := cell1 hl7
  clear hl7
  go_wp2
  go_ret
  exact ⟨A6, c6, by rw [HM.out]; rfl, HF.out⟩
section
variable (Am : Option Addr) (n cm : Nat) (Al : Option Addr) (q cl : Nat) (ms : List Int) (ls : List Lk) (a b : Int) (w : World)
set_option maxRecDepth 100000 in
set_option maxHeartbeats 4000000 in
theorem nearM_new (hG : GrAt w Am n Al q ms ls) (hn : n ≤ 1000) (hq : q ≤ 1000) :
    Calls Tryz.prog 17 #[grV Am n cm Al q cl, .int .i64 a] w fun e w' => GivesN w e w' (nearP ms ls a).1 (nearP ms ls a).2 := by
  have HG := Lib.hid hG
  have HN : Hid (n ≤ 1000 ∧ q ≤ 1000) := ⟨hn, hq⟩
  clear hG hn hq
  obtain ⟨b1, hb1⟩ : ∃ b, b = w.heap.size := ⟨_, rfl⟩
  obtain ⟨b2, hb2⟩ : ∃ b, b = w.heap.size + 1 := ⟨_, rfl⟩
  obtain ⟨w1, hw1⟩ : ∃ w1, w1 = (w.alloc (.cells #[.slice Am n cm, .slice Al q cl] 25)).alloc (.cells #[.int .i64 a] 3) := ⟨_, rfl⟩
  have HB : Hid (w1.heap[b1]? = some (.cells #[.slice Am n cm, .slice Al q cl] 25 (0, 0)) ∧ w1.heap[b2]? = some (.cells #[.int .i64 a] 3 (0, 0)) ∧ Below w.heap.size w w1) := by
    rw [hw1, hb1, hb2]
    refine ⟨by rw [Below.heap_alloc _ _ _ (by simp)]; exact heap_alloc_new _ _, ?_, ((Below.refl _ _).alloc (Nat.le_refl _) _).alloc (by simp) _⟩
    have := heap_alloc_new (w.alloc (.cells #[.slice Am n cm, .slice Al q cl] 25)) (.cells #[.int .i64 a] 3)
    simpa using this
  have HCM := Lib.hid (members_any Am n cm Al q cl ms ls (some ⟨b2, 0, none⟩) 1 1 [a] w1 (HG.out.below HB.out.2.2) HN.out.1 HN.out.2 rfl (.inr ⟨b2, 0, rfl, fun j u hu => by
    match j, hu with
    | 0, hu => cases hu; exact (cell1 HB.out.2.1).1⟩) (by decide))
  go_enter Tryz.func17, Tryz.ntmps17
  go_wp2_with fail
  rw [← hw1, ← hb2]
  clear hw1 hb2
  refine HCM.out.mono ?_
  rintro e w2 ⟨v, rfl, HE⟩
  have HB2 : Hid (w2.heap[b1]? = some (.cells #[.slice Am n cm, .slice Al q cl] 25 (0, 0)) ∧ Below w.heap.size w w2) := ⟨(HE.out.2.block b1 (Array.getElem?_eq_some_iff.1 HB.out.1).1).trans HB.out.1, HB.out.2.2.trans (HE.out.2.mono HB.out.2.2.size)⟩
  rcases HE.out.1.cases with ⟨hc, rfl⟩ | ⟨hc, t, y, rfl⟩
  case inr =>
    have HM : Hid (nearP ms ls a = (membersE ms ls [a], [])) := by
      unfold nearP
      cases h : membersE ms ls [a] with
      | none => exact absurd h hc
      | some e => rfl
    clear hc HCM HB
    go_wp2
    refine bodyPost_ret (v := .tuple #[.slice none 0 0, .iface t y]) (by simp [results, Tryz.results17, go_sem]) rfl ?_
    refine ⟨none, 0, _, by rw [HM.out]; rfl, ?_⟩
    rw [HM.out]
    exact ⟨HE.out.1, .nil, HB2.out.2, fun a e => by cases e⟩
  case inl =>
  have HM : Hid (nearP ms ls a = (none, nears ls a)) := by
    unfold nearP; rw [hc]; rfl
  have HNR : Hid (Calls Tryz.prog 37 #[grV Am n cm Al q cl, .int .i64 a] w2 fun e w' => ∃ (A : Option Addr) (c : Nat), e = .returned (.slice A (nears ls a).length c) ∧ Hid (RowAt w' A (intVs (nears ls a)) ∧ Below w.heap.size w w' ∧ NewA w.heap.size A)) := by
    have hg := (members_good hc).1
    refine (near_any Am n cm Al q cl ls a w2 HG.out.llen (HG.out.lrow.below HB2.out.2) HN.out.2 hg.ls_.nodup fun k hk => ⟨(hg.ls_.2 k hk).1, hg.ms_.2 _ (hg.ls_.2 k hk).2.1, hg.ms_.2 _ (hg.ls_.2 k hk).2.2⟩).mono ?_
    rintro e w' ⟨A, c, rfl, h⟩
    exact ⟨A, c, rfl, h.out.1, HB2.out.2.trans (h.out.2.1.mono HB2.out.2.size), fun x e => Nat.le_trans HB2.out.2.size (h.out.2.2 x.block (by simp [Value.ownBlock, e])).1⟩
  rw [hb1] at HB2
  obtain ⟨x0, x1, _, _⟩ := cell2 HB2.out.1
  clear hc HCM HB HE hb1
  go_wp2_with fail
  refine HNR.out.mono ?_
  rintro e w3 ⟨A3, d3, rfl, h3⟩
  go_wp2
  refine bodyPost_ret (v := .tuple #[.slice A3 (nears ls a).length d3, .nilIface]) (by simp [results, Tryz.results17, go_sem]) rfl ?_
  refine ⟨A3, d3, _, by rw [HM.out], ?_⟩
  rw [HM.out]
  exact ⟨rfl, h3.out⟩
set_option maxRecDepth 100000 in
set_option maxHeartbeats 4000000 in
theorem sideM_new (hG : GrAt w Am n Al q ms ls) (hn : n ≤ 1000) (hq : q ≤ 1000) :
    Calls Tryz.prog 15 #[grV Am n cm Al q cl, .int .i64 a, .int .i64 b] w fun e w' => GivesN w e w' (sideP ms ls a b).1 (sideP ms ls a b).2 := by
  have HG := Lib.hid hG
  have HN : Hid (n ≤ 1000 ∧ q ≤ 1000) := ⟨hn, hq⟩
  clear hG hn hq
  obtain ⟨b1, hb1⟩ : ∃ b, b = w.heap.size := ⟨_, rfl⟩
  obtain ⟨b2, hb2⟩ : ∃ b, b = w.heap.size + 1 := ⟨_, rfl⟩
  obtain ⟨w1, hw1⟩ : ∃ w1, w1 = (w.alloc (.cells #[.slice Am n cm, .slice Al q cl] 25)).alloc (.cells #[.int .i64 a, .int .i64 b] 3) := ⟨_, rfl⟩
  have HB : Hid (w1.heap[b1]? = some (.cells #[.slice Am n cm, .slice Al q cl] 25 (0, 0)) ∧ w1.heap[b2]? = some (.cells #[.int .i64 a, .int .i64 b] 3 (0, 0)) ∧ Below w.heap.size w w1) := by
    rw [hw1, hb1, hb2]
    refine ⟨by rw [Below.heap_alloc _ _ _ (by simp)]; exact heap_alloc_new _ _, ?_, ((Below.refl _ _).alloc (Nat.le_refl _) _).alloc (by simp) _⟩
    have := heap_alloc_new (w.alloc (.cells #[.slice Am n cm, .slice Al q cl] 25)) (.cells #[.int .i64 a, .int .i64 b] 3)
    simpa using this
  have HCM := Lib.hid (members_any Am n cm Al q cl ms ls (some ⟨b2, 0, none⟩) 2 2 [a, b] w1 (HG.out.below HB.out.2.2) HN.out.1 HN.out.2 rfl (.inr ⟨b2, 0, rfl, fun j u hu => by
    match j, hu with
    | 0, hu => cases hu; exact (cell2 HB.out.2.1).1
    | 1, hu => cases hu; exact (cell2 HB.out.2.1).2.1⟩) (by decide))
  go_enter Tryz.func15, Tryz.ntmps15
  go_wp2_with fail
  rw [← hw1, ← hb2, ← hb1]
  clear hw1 hb2 hb1
  refine HCM.out.mono ?_
  rintro e w2 ⟨v, rfl, HE⟩
  have HB2 : Hid (w2.heap[b1]? = some (.cells #[.slice Am n cm, .slice Al q cl] 25 (0, 0)) ∧ Below w.heap.size w w2) := ⟨(HE.out.2.block b1 (Array.getElem?_eq_some_iff.1 HB.out.1).1).trans HB.out.1, HB.out.2.2.trans (HE.out.2.mono HB.out.2.2.size)⟩
  rcases HE.out.1.cases with ⟨hc, rfl⟩ | ⟨hc, t, y, rfl⟩
  case inr =>
    have HM : Hid (sideP ms ls a b = (membersE ms ls [a, b], [])) := by
      unfold sideP
      cases h : membersE ms ls [a, b] with
      | none => exact absurd h hc
      | some e => rfl
    clear hc HCM HB
    go_wp2
    refine bodyPost_ret (v := .tuple #[.slice none 0 0, .iface t y]) (by simp [results, Tryz.results15, go_sem]) rfl ?_
    refine ⟨none, 0, _, by rw [HM.out]; rfl, ?_⟩
    rw [HM.out]
    exact ⟨HE.out.1, .nil, HB2.out.2, fun a e => by cases e⟩
  case inl =>
  have HM : Hid (sideP ms ls a b = if ofL a b ∈ ls then (none, sideS ls a b) else (plainE 13, [])) := by
    unfold sideP; rw [hc]; rfl
  have HGD := Lib.hid (members_good hc)
  obtain ⟨k1, hk1⟩ : ∃ k1, Hid (min a b = k1) := ⟨_, rfl⟩
  obtain ⟨k2, hk2⟩ : ∃ k2, Hid (max a b = k2) := ⟨_, rfl⟩
  have h3 : ofL a b = (k1, k2) := by unfold ofL; rw [hk1.out, hk2.out]
  rw [h3] at HM
  obtain ⟨x0, x1, _, _⟩ := cell2 HB2.out.1
  have hKG : KG w2 b1 (.slice Am n cm) (.slice Al q cl) w2 := ⟨x0, x1, Lib.hid (Below.refl _ _)⟩
  have hKGd : KG w2 b1 (.slice Am n cm) (.slice Al q cl) w2.drew := hKG.step (Below.refl _ _).drew
  have HOF : Hid (∀ W, KG w2 b1 (.slice Am n cm) (.slice Al q cl) W → Calls Tryz.prog 39 #[.int .i64 a, .int .i64 b] W fun e w' => e = .returned (.agg #[.int .i64 k1, .int .i64 k2]) ∧ KG w2 b1 (.slice Am n cm) (.slice Al q cl) w') := fun W hW => by
    refine (of_any a b W).mono ?_
    rintro e w' ⟨rfl, hb⟩
    rw [hk1.out, hk2.out]
    exact ⟨rfl, hW.step hb⟩
  have HCO : Hid (∀ W, KG w2 b1 (.slice Am n cm) (.slice Al q cl) W → Calls Tryz.prog 38 #[.slice Al q cl, .agg #[.int .i64 k1, .int .i64 k2]] W fun e w' => e = .returned (.bool (decide ((k1, k2) ∈ ls))) ∧ KG w2 b1 (.slice Am n cm) (.slice Al q cl) w') := fun W hW => by
    refine (containsL_any Al q cl ls (k1, k2) W k1 k2 rfl HG.out.llen (HG.out.lrow.below (HB2.out.2.trans (hW.2.2.out.mono HB2.out.2.size))) (Nat.le_trans HN.out.2 (by decide))).mono ?_
    rintro e w' ⟨rfl, hb⟩
    exact ⟨rfl, hW.step hb⟩
  haveI : Nonempty (QW (KG w2 b1 (.slice Am n cm) (.slice Al q cl))) := ⟨⟨w2, hKG⟩⟩
  have q0 : ∀ x : QW (KG w2 b1 (.slice Am n cm) (.slice Al q cl)), x.val.cell? ⟨b1, 0, none⟩ = some (.slice Am n cm) := fun x => x.ok.1
  have q1 : ∀ x : QW (KG w2 b1 (.slice Am n cm) (.slice Al q cl)), x.val.cell? ⟨b1, 1, none⟩ = some (.slice Al q cl) := fun x => x.ok.2.1
  by_cases m1 : (k1, k2) ∈ ls
  case neg =>
    rw [decide_eq_false m1] at HCO
    rw [if_neg m1] at HM
    clear hc HCM HB HE m1 hKG hk1 hk2 h3
    go_wp2
    refine region_in (KG w2 b1 (.slice Am n cm) (.slice Al q cl)) (by kernel_rfl) (by kernel_rfl) hKGd ?_
    repeat (go_big_quiet_step ((first | (go_at_call 39; refine calls_in (HOF.out _ (QW.ok _))) | (go_at_call 38; refine calls_in (HCO.out _ (QW.ok _))))))
    refine wpQuiet_nil ?_
    intro W5 hK5
    go_wp2
    refine bodyPost_ret (v := .tuple #[.slice none 0 0, .iface 41 (.int .i64 13)]) (by simp [results, Tryz.results15, go_sem]) rfl ?_
    refine ⟨none, 0, _, by rw [HM.out]; rfl, ?_⟩
    rw [HM.out]
    exact ⟨rfl, .nil, HB2.out.2.trans (hK5.2.2.out.mono HB2.out.2.size), fun a e => by cases e⟩
  case pos =>
    rw [decide_eq_true m1] at HCO
    rw [if_pos m1] at HM
    have HSI : Hid (∀ W, KG w2 b1 (.slice Am n cm) (.slice Al q cl) W → Calls Tryz.prog 40 #[grV Am n cm Al q cl, .int .i64 a, .int .i64 b] W fun e w' => ∃ (A : Option Addr) (c : Nat), e = .returned (.slice A (sideS ls a b).length c) ∧ Hid (RowAt w' A (intVs (sideS ls a b)) ∧ Below w.heap.size w w' ∧ NewA w.heap.size A)) := fun W hW => by
      have hg := HGD.out.1
      have hb2 := HB2.out.2.trans (hW.2.2.out.mono HB2.out.2.size)
      have hok := fun k hk => (⟨(hg.ls_.2 k hk).1, hg.ms_.2 _ (hg.ls_.2 k hk).2.1, hg.ms_.2 _ (hg.ls_.2 k hk).2.2⟩ : k.1 < k.2 ∧ k.1 ∈ ALL ∧ k.2 ∈ ALL)
      have hvi := side_visit hg (a := a) (b := b) (by rw [h3]; exact m1) (Nat.le_refl 9)
      have hva := (inOrder_len hvi.2.1 hvi.1).symm
      refine (side_new Am n cm Al q cl ls a b W HG.out.llen (HG.out.lrow.below hb2) HN.out.2 hg.ls_.nodup hok (hg.ms_.2 _ (HGD.out.2 a (by simp)))).mono ?_
      rintro e w' ⟨A, c, rfl, h⟩
      have e1 : (visitF ls 9 [] a b).length = (sideS ls a b).length := hva
      rw [e1]
      exact ⟨A, c, rfl, h.out.1, hb2.trans (h.out.2.1.mono hb2.size), fun x e => Nat.le_trans hb2.size (h.out.2.2 x e)⟩
    clear hc HCM HB HE m1 hKG hk1 hk2 h3
    go_wp2
    refine region_in (KG w2 b1 (.slice Am n cm) (.slice Al q cl)) (by kernel_rfl) (by kernel_rfl) hKGd ?_
    repeat (go_big_quiet_step ((first | (go_at_call 39; refine calls_in (HOF.out _ (QW.ok _))) | (go_at_call 38; refine calls_in (HCO.out _ (QW.ok _))))))
    refine wpQuiet_nil ?_
    intro W5 hK5
    have y0 := hK5.1
    have y1 := hK5.2.1
    go_wp2_with fail
    refine (HSI.out W5 hK5).mono ?_
    rintro e w6 ⟨A6, d6, rfl, h6⟩
    go_wp2
    refine bodyPost_ret (v := .tuple #[.slice A6 (sideS ls a b).length d6, .nilIface]) (by simp [results, Tryz.results15, go_sem]) rfl ?_
    refine ⟨A6, d6, _, by rw [HM.out], ?_⟩
    rw [HM.out]
    exact ⟨rfl, h6.out⟩
end
set_option maxRecDepth 100000 in
set_option maxHeartbeats 4000000 in
theorem find_new (w0 : World) (bb bg bf : Nat) (b : Int) (Am : Option Addr) (nm cm : Nat) (Al : Option Addr) (q cl : Nat) (ms : List Int) (ls : List Lk) (hl : ls.length = q) (hA : RowAt w0 Al (lkCells ls)) (hq : q ≤ 1000) (hgd : Good ms ls) :
    ∀ (f : Nat) (n fr : Int) (t : List Int) (W : World), n ∈ ms → Wk ls (n :: t) → NB (n :: t) → (t ≠ [] → t.head? = some fr) → 8 < f + t.length → KF w0 W bb bg bf b (.slice Am nm cm) (.slice Al q cl) →
      Calls Tryz.prog 36 #[.int .i64 n, .int .i64 fr, .pointer (some ⟨bb, 0, none⟩), .pointer (some ⟨bg, 0, none⟩), .pointer (some ⟨bf, 0, none⟩)] W fun e w' => FindN W e w' (findF ls b f n fr) := by
  have HA := Lib.hid hA
  have HN : Hid (q ≤ 1000 ∧ ls.length = q) := ⟨hq, hl⟩
  have HG := Lib.hid hgd
  clear hA hq hl hgd
  intro f
  induction f with
  | zero =>
    intro n fr t W hn hw hb _ hf _
    have h1 := HG.out.tr.simple hw hb
    have h2 : ∀ x ∈ n :: t, x ∈ ms := fun x hx => by
      cases t with
      | nil => simp at hx; rw [hx]; exact hn
      | cons y t => exact Wk.members HG.out.tr hw x hx
    have h3 := nodup_le h1 h2
    have h4 := HG.out.small.1
    simp at h3
    omega
  | succ f ih =>
    intro n fr t W hn hw hb hh hf hS
    have HIH : Hid (∀ (m : Int) (W : World), m ∈ nears ls n → m ≠ fr → KF w0 W bb bg bf b (.slice Am nm cm) (.slice Al q cl) → Calls Tryz.prog 36 #[.int .i64 m, .int .i64 n, .pointer (some ⟨bb, 0, none⟩), .pointer (some ⟨bg, 0, none⟩), .pointer (some ⟨bf, 0, none⟩)] W fun e w' => FindN W e w' (findF ls b f m n)) := fun m W hm hmf hK => by
      have ha := (nears_iff.1 hm).2
      refine ih m n (n :: t) W (HG.out.tr.irr ha).2.2 ⟨adj_symm ha, hw⟩ ?_ (fun _ => rfl) (by simp; omega) hK
      cases t with
      | nil => trivial
      | cons y t => exact ⟨fun e => hmf (by have := hh (by simp); simp at this; rw [e, this]), hb⟩
    have HS := Lib.hid hS
    clear ih hn hw hb hh hf hS
    obtain ⟨l0, lf, ll⟩ := cell1 HS.out.hb_
    obtain ⟨g0, g1, gf, gl⟩ := cell2 HS.out.hg_
    by_cases hnb : n = b
    · have HF : Hid (findF ls b (f + 1) n fr = some [n]) := by rw [findF, if_pos hnb]; rfl
      have e1 : (n == b) = true := by simpa using hnb
      have hnew := Lib.hid (heap_alloc_new W (.cells #[.int .i64 n] 3))
      have hbl : Hid (Below W.heap.size W (W.alloc (.cells #[.int .i64 n] 3))) := (Below.refl _ _).alloc (Nat.le_refl _) _
      clear hnb HIH
      go_enter Tryz.func36, Tryz.ntmps36
      go_wp2
      go_ret
      rw [HF.out]
      refine ⟨W.heap.size, 0, 1, rfl, .inr ⟨_, _, rfl, fun j u hu => ?_⟩, hbl.out, Nat.le_refl _⟩
      match j, hu with
      | 0, hu => cases hu; exact (cell1 hnew.out).1
    · have HF : Hid (findF ls b (f + 1) n fr = (nears ls n).findSome? fun m => if m = fr then none else (findF ls b f m n).map (n :: ·)) := by rw [findF, if_neg hnb]; rfl
      have e1 : (n == b) = false := by simpa using hnb
      obtain ⟨kn, hkn⟩ : ∃ kn, Hid ((nears ls n).length = kn ∧ kn ≤ 8) := ⟨_, rfl, List.length_filter_le _ _⟩
      have HNE : Hid (Calls Tryz.prog 37 #[grV Am nm cm Al q cl, .int .i64 n] W fun e w' => ∃ (A : Option Addr) (c : Nat), e = .returned (.slice A kn c) ∧ Hid (RowAt w' A (intVs (nears ls n)) ∧ Below W.heap.size W w')) := by
        have hg := HG.out
        rw [← hkn.out.1]
        refine (near_any Am nm cm Al q cl ls n W HN.out.2 (HA.out.below HS.out.old) HN.out.1 hg.ls_.nodup fun k hk => ⟨(hg.ls_.2 k hk).1, hg.ms_.2 _ (hg.ls_.2 k hk).2.1, hg.ms_.2 _ (hg.ls_.2 k hk).2.2⟩).mono ?_
        rintro e w' ⟨A, c, rfl, h⟩
        exact ⟨A, c, rfl, h.out.1, h.out.2.1⟩
      obtain ⟨i0, hi, hz0, hz1, hz2⟩ := info_parts int_info
      clear hnb
      go_enter Tryz.func36, Tryz.ntmps36
      go_wp2_with fail
      refine HNE.out.mono ?_
      rintro e w7 ⟨A5, c5, rfl, H7⟩
      clear l0 lf ll g0 g1 gf gl HNE
      go_wp2
      go_loopw [20] (fun i wr => ∃ (j : Nat), j ≤ kn ∧ i = .int .i64 j ∧ Hid ((∀ m ∈ (nears ls n).take j, (if m = fr then none else (findF ls b f m n).map (n :: ·)) = none) ∧ Below w7.heap.size w7 wr)) (fun i _ => kn - (intOf i).toNat)
      case atStart => exact ⟨0, Nat.zero_le _, rfl, by simp, Below.refl _ _⟩
      case round =>
        obtain ⟨j, hj, rfl, HL⟩ := hrel
        have HBW : Hid (Below W.heap.size W wr) := H7.out.2.trans (HL.out.2.mono H7.out.2.size)
        by_cases hlt : j < kn
        · obtain ⟨x, hx⟩ : ∃ x, Hid ((nears ls n)[j]? = some x) := ⟨_, List.getElem?_eq_getElem (by have := hkn.out; omega)⟩
          have hw1 : IntKind.i64.wrap ((j : Int) + 1) = ((j + 1 : Nat) : Int) := by have := hkn.out; rw [IntKind.wrap_i64]; omega
          have hj0 : ((0 : Int) ≤ j) := by omega
          have hj1 : ((j : Nat) : Int) < kn := by omega
          obtain ⟨g, off, rfl, x0, hg⟩ := (H7.out.1.below HL.out.2).int hx.out
          have HK := Lib.hid (HS.out.step HBW.out)
          obtain ⟨v0, vf, vl⟩ := cell1 HK.out.hf_
          by_cases hxf : x = fr
          · have e2 : (x == fr) = true := by simpa using hxf
            have HX : Hid (x = fr) := hxf
            clear hxf
            go_wp2
            exact ⟨⟨j + 1, hlt, by go_num, mem_take_all hx.out HL.out.1 (by rw [if_pos HX.out]), HL.out.2⟩, by simp [intOf]; omega⟩
          · have e2 : (x == fr) = false := by simpa using hxf
            have HX : Hid (x ≠ fr) := hxf
            have HCA := Lib.hid (HIH.out x wr (List.mem_of_getElem? hx.out) hxf HK.out)
            clear hxf
            have hn0 := nil_ne0
            have hn1 := nil_ne1
            cases hfr : findF ls b f x n with
            | none =>
              rw [hfr] at HCA
              have HNO : Hid ((if x = fr then none else (findF ls b f x n).map (n :: ·)) = none) := by rw [if_neg HX.out, hfr]; rfl
              clear hfr
              go_wp2_with (go_at_call 36; refine HCA.out.mono ?_; rintro e w9 ⟨rfl, H9⟩)
              go_wp2
              exact ⟨⟨j + 1, hlt, by go_num, mem_take_all hx.out HL.out.1 HNO.out, HL.out.2.trans (H9.out.mono HL.out.2.size)⟩, by simp [intOf]; omega⟩
            | some p =>
              rw [hfr] at HCA
              have HYES : Hid (findF ls b (f + 1) n fr = some (n :: p)) := by
                rw [Hid, HF.out]
                exact findSome_take hx.out HL.out.1 (by rw [if_neg HX.out, hfr]; rfl)
              have hpl : p.length ≤ 8 ∧ 0 < p.length := by
                have hw := (find_sound hfr).1
                obtain ⟨t, rfl⟩ := hw.cons
                have h1 := HG.out.tr.simple hw.wk hw.nb
                have h2 : ∀ y ∈ x :: t, y ∈ ALL := fun y hy => by
                  cases t with
                  | nil => simp at hy; rw [hy]; exact (nears_iff.1 (List.mem_of_getElem? hx.out)).1
                  | cons z t => exact HG.out.ms_.2 _ (Wk.members HG.out.tr hw.wk y hy)
                exact ⟨nodup_le h1 (m := ALL) h2, by simp⟩
              have HPL := Lib.hid hpl
              clear hfr hpl
              obtain ⟨kp, hkp⟩ : ∃ kp, Hid (p.length = kp) := ⟨_, rfl⟩
              have hm1 : Hid (1 + kp ≤ maxLen) := Nat.le_trans (show 1 + kp ≤ 9 by have := HPL.out; rw [hkp.out] at this; omega) (by decide)
              have hb1 : Hid ((1 + kp) * 8 ≤ 140737488355328) := by have := HPL.out; rw [hkp.out] at this; simp only [Hid]; omega
              have hkp0 : Hid (0 < kp) := by have := HPL.out; rw [hkp.out] at this; exact this.2
              have HCB : Hid (Calls Tryz.prog 36 #[.int .i64 x, .int .i64 n, .pointer (some ⟨bb, 0, none⟩), .pointer (some ⟨bg, 0, none⟩), .pointer (some ⟨bf, 0, none⟩)] wr fun e w' => ∃ (g off c : Nat), e = .returned (.slice (some ⟨g, off, none⟩) kp c) ∧ Hid (RowAt w' (some ⟨g, off, none⟩) (intVs p) ∧ Below wr.heap.size wr w' ∧ wr.heap.size ≤ g)) := by
                rw [← hkp.out]; exact HCA.out
              clear HCA
              have HSZ : Hid (∀ (w9 : World) o, w9.heap.size ≤ (w9.alloc o).heap.size) := fun w9 o => by simp
              have HNW : Hid (∀ w9 : World, (w9.alloc (.cells #[.int .i64 n] 3)).ownsRow w9.heap.size 3 1 (.slice (some ⟨w9.heap.size, 0, none⟩) 1 1) 1 [.int .i64 n]) := fun w9 => World.ownsRow_lit w9 #[.int .i64 n] 1 (Nat.le_refl _) (by decide) (by rfl)
              have HNS : Hid (∀ (w9 : World) (g9 off9 : Nat) o, RowAt w9 (some ⟨g9, off9, none⟩) (intVs p) → ∀ (j : Nat) (u : Value), (intVs p)[j]? = some u → (w9.alloc o).cell? ((⟨g9, off9, none⟩ : Addr).add j) = some u) := fun w9 g9 off9 o h => (h.below ((Below.refl _ _).alloc (Nat.le_refl _) o)).news
              have HLN : Hid ((intVs p).length = kp * 1) := by rw [Hid, intVs_len, hkp.out, Nat.mul_one]
              have HFI : Hid (∀ (w9 w10 : World) (o : Obj) (g8 c8 : Nat), Below W.heap.size W w9 → (w9.alloc o).ownsRow w9.heap.size 3 1 (.slice (some ⟨w9.heap.size, 0, none⟩) 1 1) 1 [.int .i64 n] → w10.ownsRow w9.heap.size 3 1 (.slice (some ⟨g8, 0, none⟩) (1 + kp) c8) (1 + kp) ([.int .i64 n] ++ intVs p) → (w9.alloc o).grownBy w10 (Value.slice (some ⟨w9.heap.size, 0, none⟩) 1 1).ownBlock → FindN W (.returned (.slice (some ⟨g8, 0, none⟩) (1 + kp) c8)) w10 (findF ls b (f + 1) n fr)) := fun w9 w10 o g8 c8 h0 h1 h2 h3 => by
                rw [HYES.out]
                refine ⟨g8, 0, c8, by rw [List.length_cons, hkp.out, Nat.add_comm], RowAt.of_own h2, h0.trans (Below.mono ?_ h0.size), Nat.le_trans h0.size (own_block h2 (g := g8) rfl).choose_spec.2.1⟩
                exact below_push ((Below.refl _ _).alloc (Nat.le_refl _) o) h1 (by simp) h3
              go_wp2_with (first
                | (at_builtin; refine wpList_append_lies _ rfl _ _ 22 rfl w9.heap.size 3 i0 (.int .i64 0) 1 8 Tryz.underlying22 hi hz0 hz1 hz2 rfl (by decide) (.slice (some ⟨w9.heap.size, 0, none⟩) 1 1) 1 _ rfl (HNW.out _) ⟨g9, off9, none⟩ kp c9 (intVs p) rfl HLN.out (HNS.out _ _ _ _ H9.out.1) (intVs_one p) hkp0.out hm1.out hb1.out (HSZ.out _ _) _ rfl ?_; intro g8 c8 w10 hown10 hgrow10 hog10 hlt10; have H10 := HFI.out _ _ _ _ _ (HBW.out.trans (H9.out.2.1.mono HBW.out.size)) (HNW.out _) hown10 hgrow10)
                | (go_at_call 36; refine HCB.out.mono ?_; rintro e w9 ⟨g9, off9, c9, rfl, H9⟩))
              refine bodyPost_ret (v := .slice (some ⟨g8, 0, none⟩) (1 + kp) c8) ?_ rfl ?_
              · simp [results, Tryz.results36, go_sem]
              · exact H10
        · have hjn : j = kn := by omega
          subst hjn
          have hall : (nears ls n).take j = nears ls n := by rw [← hkn.out.1]; exact List.take_length
          have HNO : Hid (findF ls b (f + 1) n fr = none) := by
            have h1 := HL.out.1
            rw [hall] at h1
            rw [Hid, HF.out]
            exact List.findSome?_eq_none_iff.2 h1
          go_wp2
          go_ret
          rw [HNO.out]
          exact ⟨rfl, HBW.out⟩
section
variable (Am : Option Addr) (n cm : Nat) (Al : Option Addr) (q cl : Nat) (ms : List Int) (ls : List Lk) (a b : Int) (w : World)
set_option maxRecDepth 100000 in
set_option maxHeartbeats 4000000 in
theorem pathM_new (hG : GrAt w Am n Al q ms ls) (hn : n ≤ 1000) (hq : q ≤ 1000) :
    Calls Tryz.prog 11 #[grV Am n cm Al q cl, .int .i64 a, .int .i64 b] w fun e w' => GivesN w e w' (wayP ms ls a b).1 (wayP ms ls a b).2 := by
  have HG := Lib.hid hG
  have HN : Hid (n ≤ 1000 ∧ q ≤ 1000) := ⟨hn, hq⟩
  clear hG hn hq
  obtain ⟨b1, hb1⟩ : ∃ b, b = w.heap.size := ⟨_, rfl⟩
  obtain ⟨b5, hb5⟩ : ∃ b, b = w.heap.size + 1 := ⟨_, rfl⟩
  obtain ⟨b2, hb2⟩ : ∃ b, b = w.heap.size + 1 + 1 := ⟨_, rfl⟩
  obtain ⟨w1, hw1⟩ : ∃ w1, w1 = ((w.alloc (.cells #[.slice Am n cm, .slice Al q cl] 25)).alloc (.cells #[.int .i64 b] 3)).alloc (.cells #[.int .i64 a, .int .i64 b] 3) := ⟨_, rfl⟩
  have HB : Hid (w1.heap[b1]? = some (.cells #[.slice Am n cm, .slice Al q cl] 25 (0, 0)) ∧ w1.heap[b5]? = some (.cells #[.int .i64 b] 3 (0, 0)) ∧ w1.heap[b2]? = some (.cells #[.int .i64 a, .int .i64 b] 3 (0, 0)) ∧ Below w.heap.size w w1) := by
    rw [hw1, hb1, hb2, hb5]
    refine ⟨by rw [Below.heap_alloc _ _ _ (by simp; omega), Below.heap_alloc _ _ _ (by simp)]; exact heap_alloc_new _ _, ?_, ?_, (((Below.refl _ _).alloc (Nat.le_refl _) _).alloc (by simp) _).alloc (by simp; omega) _⟩
    · rw [Below.heap_alloc _ _ _ (by simp)]
      have := heap_alloc_new (w.alloc (.cells #[.slice Am n cm, .slice Al q cl] 25)) (.cells #[.int .i64 b] 3)
      simpa using this
    · have := heap_alloc_new ((w.alloc (.cells #[.slice Am n cm, .slice Al q cl] 25)).alloc (.cells #[.int .i64 b] 3)) (.cells #[.int .i64 a, .int .i64 b] 3)
      simpa using this
  have HCM := Lib.hid (members_any Am n cm Al q cl ms ls (some ⟨b2, 0, none⟩) 2 2 [a, b] w1 (HG.out.below HB.out.2.2.2) HN.out.1 HN.out.2 rfl (.inr ⟨b2, 0, rfl, fun j u hu => by
    match j, hu with
    | 0, hu => cases hu; exact (cell2 HB.out.2.2.1).1
    | 1, hu => cases hu; exact (cell2 HB.out.2.2.1).2.1⟩) (by decide))
  go_enter Tryz.func11, Tryz.ntmps11
  go_wp2_with fail
  rw [← hw1, ← hb2, ← hb5, ← hb1]
  clear hw1 hb2 hb5 hb1
  refine HCM.out.mono ?_
  rintro e w2 ⟨v, rfl, HE⟩
  have HB2 : Hid (w2.heap[b1]? = some (.cells #[.slice Am n cm, .slice Al q cl] 25 (0, 0)) ∧ w2.heap[b5]? = some (.cells #[.int .i64 b] 3 (0, 0)) ∧ Below w.heap.size w w2) := ⟨(HE.out.2.block b1 (Array.getElem?_eq_some_iff.1 HB.out.1).1).trans HB.out.1, (HE.out.2.block b5 (Array.getElem?_eq_some_iff.1 HB.out.2.1).1).trans HB.out.2.1, HB.out.2.2.2.trans (HE.out.2.mono HB.out.2.2.2.size)⟩
  rcases HE.out.1.cases with ⟨hc, rfl⟩ | ⟨hc, t, y, rfl⟩
  case inr =>
    have HM : Hid (wayP ms ls a b = (membersE ms ls [a, b], [])) := by
      unfold wayP
      cases h : membersE ms ls [a, b] with
      | none => exact absurd h hc
      | some e => rfl
    clear hc HCM HB
    go_wp2
    refine bodyPost_ret (v := .tuple #[.slice none 0 0, .iface t y]) (by simp [results, Tryz.results11, go_sem]) rfl ?_
    refine ⟨none, 0, _, by rw [HM.out]; rfl, ?_⟩
    rw [HM.out]
    exact ⟨HE.out.1, .nil, HB2.out.2.2, fun a e => by cases e⟩
  case inl =>
  have hgd := members_good hc
  obtain ⟨p, hp, hway⟩ := find_way hgd.1.ms_.2 hgd.1.tr (hgd.2 a (by simp)) (hgd.2 b (by simp)) (f := 9) (by omega)
  have HM : Hid (wayP ms ls a b = (none, p)) := by
    unfold wayP; rw [hc, hp]; rfl
  have HFI : Hid (∀ bf W, KF w W b5 b1 bf b (.slice Am n cm) (.slice Al q cl) → Calls Tryz.prog 36 #[.int .i64 a, .int .i64 (-1), .pointer (some ⟨b5, 0, none⟩), .pointer (some ⟨b1, 0, none⟩), .pointer (some ⟨bf, 0, none⟩)] W fun e w' => ∃ (g off c : Nat), e = .returned (.slice (some ⟨g, off, none⟩) p.length c) ∧ Hid (RowAt w' (some ⟨g, off, none⟩) (intVs p) ∧ Below w.heap.size w w' ∧ NewA w.heap.size (some ⟨g, off, none⟩))) := fun bf W hK => by
    have h1 := find_new w b5 b1 bf b Am n cm Al q cl ms ls HG.out.llen HG.out.lrow HN.out.2 hgd.1 9 a (-1) [] W (hgd.2 a (by simp)) trivial trivial (fun e => absurd rfl e) (by simp) hK
    rw [hp] at h1
    refine h1.mono ?_
    rintro e w' ⟨g, off, c, rfl, h2⟩
    exact ⟨g, off, c, rfl, h2.out.1, hK.old.trans (h2.out.2.1.mono hK.old.size), fun x e => by cases e; exact Nat.le_trans hK.old.size h2.out.2.2⟩
  have HK : Hid (KF w (w2.alloc (.cells #[.func (.func 36) #[] #[.pointer (some ⟨b5, 0, none⟩), .pointer (some ⟨b1, 0, none⟩), .pointer (some ⟨w2.heap.size, 0, none⟩)]] 67)) b5 b1 w2.heap.size b (.slice Am n cm) (.slice Al q cl)) :=
    ⟨(Below.heap_alloc _ _ _ (Array.getElem?_eq_some_iff.1 HB2.out.2.1).1).trans HB2.out.2.1, (Below.heap_alloc _ _ _ (Array.getElem?_eq_some_iff.1 HB2.out.1).1).trans HB2.out.1, heap_alloc_new _ _, HB2.out.2.2.alloc HB2.out.2.2.size _⟩
  clear hc HCM HB HE hgd hp hway
  go_wp2_with (go_at_call 36; refine (HFI.out _ _ HK.out).mono ?_; rintro e w9 ⟨g9, off9, c9, rfl, H9⟩)
  go_wp2
  refine bodyPost_ret (v := .tuple #[.slice (some ⟨g9, off9, none⟩) p.length c9, .nilIface]) (by simp [results, Tryz.results11, go_sem]) rfl ?_
  refine ⟨_, _, _, by rw [HM.out], ?_⟩
  rw [HM.out]
  exact ⟨rfl, H9.out⟩
end
end Go.Proofs.YtlkfcfcejicdkaaGreatDoor
set_option linter.unusedSimpArgs false
set_option linter.unusedVariables false
namespace Go.Proofs.YtlkfcfcejicdkaaGreatDoor
open Go Go.RowKit

section
variable {ms : List Int} {ls : List Lk} {l : List Int} {j : Nat} {y : Int}
theorem memE_zero : membersE ms ls [] = chk ms ls := by
  unfold membersE
  cases chk ms ls with
  | some e => rfl
  | none => simp
theorem memE_keep (hy : l[j]? = some y) (h : membersE ms ls (l.take j) ≠ none) : membersE ms ls (l.take (j + 1)) = membersE ms ls (l.take j) := by
  unfold membersE at h ⊢
  cases hc : chk ms ls with
  | some e => rfl
  | none =>
    rw [hc] at h
    simp only at h ⊢
    by_cases h1 : ∃ n ∈ l.take j, n ∉ ms
    · rw [if_pos h1, if_pos]
      obtain ⟨n, h2, h3⟩ := h1
      exact ⟨n, by rw [take_snoc hy]; exact List.mem_append_left _ h2, h3⟩
    · rw [if_neg h1] at h; exact absurd rfl h
theorem memE_next (hy : l[j]? = some y) (h : membersE ms ls (l.take j) = none) : membersE ms ls (l.take (j + 1)) = if y ∈ ms then none else plainE 12 := by
  unfold membersE at h ⊢
  cases hc : chk ms ls with
  | some e => rw [hc] at h; cases h
  | none =>
    rw [hc] at h
    simp only at h ⊢
    by_cases h1 : ∃ n ∈ l.take j, n ∉ ms
    · rw [if_pos h1] at h; cases h
    · by_cases h2 : y ∈ ms
      · rw [if_pos h2, if_neg]
        rintro ⟨n, h3, h4⟩
        rw [take_snoc hy] at h3
        rcases List.mem_append.1 h3 with h5 | h5
        · exact h1 ⟨n, h5, h4⟩
        · have e : n = y := by simpa using h5
          rw [e] at h4; exact h4 h2
      · rw [if_neg h2, if_pos ⟨y, by rw [take_snoc hy]; simp, h2⟩]
end
/-- What a call of the document's answers that gives an error alone. -/
def GivesE (w0 : World) (e : Ending) (w' : World) (er : Er) : Prop := ∃ (bb : Bool) (Ae : Option Addr) (me ce : Nat) (ie : Int), e = .returned (eVal bb Ae me ce ie) ∧ Hid (EIs w' (eVal bb Ae me ce ie) er ∧ Below w0.heap.size w0 w')
theorem EIs.bad {w : World} {bb : Bool} {Ae : Option Addr} {me ce : Nat} {ie : Int} {er : Er} (h : EIs w (eVal bb Ae me ce ie) er) : bb = er.isSome := by
  obtain ⟨A, m, cp, c, e⟩ := h.form
  injection e with e
  have := congrArg (fun a : Array Value => a.toList) e
  simp at this
  exact this.1
set_option maxRecDepth 100000 in
set_option maxHeartbeats 4000000 in
theorem rmembers_any (Am : Option Addr) (n cm : Nat) (Al : Option Addr) (q cl : Nat) (ms : List Int) (ls : List Lk) (A : Option Addr) (m c : Nat) (l : List Int) (w : World) (hG : GrAt w Am n Al q ms ls) (hn : n ≤ 1000) (hq : q ≤ 1000) (hl : l.length = m) (hA : RowAt w A (intVs l)) (hm : m ≤ 1000) :
    Calls Tryz.prog 41 #[grV Am n cm Al q cl, .slice A m c] w fun e w' => GivesE w e w' (membersE ms ls l) := by
  have HG := Lib.hid hG
  have HA := Lib.hid hA
  have HN : Hid (n ≤ 1000 ∧ q ≤ 1000 ∧ m ≤ 1000 ∧ l.length = m) := ⟨hn, hq, hm, hl⟩
  clear hG hn hq hl hA hm
  obtain ⟨bg, hbg⟩ : ∃ b, b = w.heap.size := ⟨_, rfl⟩
  obtain ⟨b4, hb4⟩ : ∃ b, b = w.heap.size + 1 := ⟨_, rfl⟩
  obtain ⟨w1, hw1⟩ : ∃ w1, w1 = (w.alloc (.cells #[.slice Am n cm, .slice Al q cl] 25)).alloc (.cells #[.bool false, .slice none 0 0, .int .i64 0] 43) := ⟨_, rfl⟩
  have HR : Hid (w1.heap[bg]? = some (.cells #[.slice Am n cm, .slice Al q cl] 25 (0, 0)) ∧ w1.heap[b4]? = some (.cells #[.bool false, .slice none 0 0, .int .i64 0] 43 (0, 0)) ∧ Below w.heap.size w w1 ∧ w.heap.size ≤ b4 ∧ b4 < w1.heap.size ∧ bg < w1.heap.size) := by
    rw [hw1, hbg, hb4]
    refine ⟨by rw [Below.heap_alloc _ _ _ (by simp)]; exact heap_alloc_new _ _, ?_, ((Below.refl _ _).alloc (Nat.le_refl _) _).alloc (by simp) _, by omega, by simp, by simp; omega⟩
    have := heap_alloc_new (w.alloc (.cells #[.slice Am n cm, .slice Al q cl] 25)) (.cells #[.bool false, .slice none 0 0, .int .i64 0] 43)
    simpa using this
  have HCK := Lib.hid (rcheck_any Am n cm Al q cl ms ls w1 (HG.out.below HR.out.2.2.1) (Nat.le_trans HN.out.1 (by decide)) (Nat.le_trans HN.out.2.1 (by decide)))
  have HC : Hid (∀ W, Bl w1 W → W.cell? ⟨bg, 0, none⟩ = some (.slice Am n cm) ∧ W.cell? ⟨bg, 1, none⟩ = some (.slice Al q cl)) := fun W hW => by
    obtain ⟨a1, a2, _⟩ := cell2 ((Below.block hW bg HR.out.2.2.2.2.2).trans HR.out.1)
    exact ⟨a1, a2⟩
  go_enter Tryz.func41, Tryz.ntmps41
  go_wp2_with fail
  rw [← hw1, ← hb4, ← hbg]
  clear hw1 hbg hb4
  refine HCK.out.mono ?_
  rintro e w2 ⟨v, rfl, HE⟩
  have HB2 : Hid (Bl w1 w2) := HE.out.2
  obtain ⟨A0, m0, c0, i0, rfl⟩ := HE.out.1.form
  obtain ⟨b0, hb0⟩ : ∃ b, Hid ((chk ms ls).isSome = b) := ⟨_, rfl⟩
  rw [hb0.out] at HE
  rw [hb0.out]
  obtain ⟨b8, hb8⟩ : ∃ b, b = w2.heap.size := ⟨_, rfl⟩
  have HK : Hid (KE w1 (w2.alloc (.cells #[.bool b0, .slice A0 m0 c0, .int .i64 i0] 43)) b8 (.bool b0) (.slice A0 m0 c0) (.int .i64 i0) ∧ EIs (w2.alloc (.cells #[.bool b0, .slice A0 m0 c0, .int .i64 i0] 43)) (eVal b0 A0 m0 c0 i0) (chk ms ls)) := ⟨KE.fresh HB2.out hb8, HE.out.1.below ((Below.refl _ _).alloc (Nat.le_refl _) _)⟩
  clear HCK HE hb0
  go_wp2
  rw [← hb8]
  clear hb8
  go_loopw [12] (fun i wr => ∃ (j : Nat) (bb : Bool) (Ae : Option Addr) (me ce : Nat) (ie : Int), j ≤ m ∧ i = .int .i64 j ∧ Hid (KE w1 wr b8 (.bool bb) (.slice Ae me ce) (.int .i64 ie) ∧ EIs wr (eVal bb Ae me ce ie) (membersE ms ls (l.take j)))) (fun i _ => m - (intOf i).toNat)
  case atStart => exact ⟨0, b0, A0, m0, c0, i0, Nat.zero_le _, rfl, HK.out.1, by rw [List.take_zero, memE_zero]; exact HK.out.2⟩
  case round =>
    obtain ⟨j, bb, Ae, me, ce, ie, hj, rfl, HL⟩ := hrel
    have HLB : Hid (Below w.heap.size w wr) := HR.out.2.2.1.trans (Below.mono HL.out.1.old HR.out.2.2.1.size)
    obtain ⟨k0, k1, k2, kf, kl⟩ := cell3 HL.out.1.e8
    obtain ⟨c0, c1⟩ := HC.out _ HL.out.1.old
    by_cases hlt : j < m
    · obtain ⟨y, hy⟩ : ∃ y, Hid (l[j]? = some y) := ⟨_, List.getElem?_eq_getElem (by have := HN.out; omega)⟩
      obtain ⟨g, off, rfl, d0, hg⟩ := (HA.out.below HLB.out).int hy.out
      have hw1 : IntKind.i64.wrap ((j : Int) + 1) = ((j + 1 : Nat) : Int) := by have := HN.out; rw [IntKind.wrap_i64]; omega
      have hj0 : ((0 : Int) ≤ j) := by omega
      have hj1 : ((j : Nat) : Int) < m := by omega
      cases bb with
      | true =>
        have HX : Hid (membersE ms ls (l.take (j + 1)) = membersE ms ls (l.take j)) := memE_keep hy.out (fun e => by have := HL.out.2.bad; rw [e] at this; simp at this)
        go_wp2
        exact ⟨⟨j + 1, _, _, _, _, _, hlt, by go_num, HL.out.1, by rw [HX.out]; exact HL.out.2⟩, by simp [intOf]; omega⟩
      | false =>
        have HX := Lib.hid (memE_next hy.out (show membersE ms ls (l.take j) = none by
          have := HL.out.2.bad
          cases h : membersE ms ls (l.take j) with
          | none => rfl
          | some e => rw [h] at this; simp at this))
        have HH := Lib.hid (rhas_any Am n cm ms y wr HG.out.mlen (HG.out.mrow.below HLB.out) (Nat.le_trans HN.out.1 (by decide)))
        by_cases hym : y ∈ ms
        · rw [decide_eq_true hym] at HH
          rw [if_pos hym] at HX
          clear hym
          go_wp2_with fail
          refine HH.out.mono ?_
          rintro e w5 ⟨rfl, he5⟩
          subst he5
          go_wp2
          have hv : EIs w5 (eVal false Ae me ce ie) none := by
            have := HL.out.2
            rw [show membersE ms ls (l.take j) = none by
              have := HL.out.2.bad
              cases h : membersE ms ls (l.take j) with
              | none => rfl
              | some e => rw [h] at this; simp at this] at this
            exact this
          exact ⟨⟨j + 1, _, _, _, _, _, hlt, by go_num, HL.out.1, by rw [HX.out]; exact hv⟩, by simp [intOf]; omega⟩
        · rw [decide_eq_false hym] at HH
          rw [if_neg hym] at HX
          clear hym
          go_wp2_with fail
          refine HH.out.mono ?_
          rintro e w5 ⟨rfl, he5⟩
          subst he5
          go_wp2_with (go_at_call 34; refine (rn_any 12 _).mono ?_; rintro e w6 ⟨rfl, hb6⟩; have HK6 := Lib.hid (HL.out.1.step hb6); obtain ⟨k0, k1, k2, kf, kl⟩ := cell3 HK6.out.e8)
          exact ⟨⟨j + 1, true, none, 0, 0, 12, hlt, by go_num, HK6.out.set _ _ _, by rw [HX.out]; rfl⟩, by simp [intOf]; omega⟩
    · have hjn : j = m := by omega
      subst hjn
      have hall : l.take j = l := by rw [← HN.out.2.2.2]; exact List.take_length
      rw [hall] at HL
      have HR4 : Hid (wr.heap[b4]? = some (.cells #[.bool false, .slice none 0 0, .int .i64 0] 43 (0, 0))) := (Below.block HL.out.1.old b4 HR.out.2.2.2.2.1).trans HR.out.2.1
      obtain ⟨r0, r1, r2, rf, rl⟩ := cell3 HR4.out
      have n48 : ¬ (b4 = b8) := by have := HL.out.1.n; have := HR.out; omega
      have n84 : ¬ (b8 = b4) := by omega
      go_wp2
      refine bodyPost_ret (v := eVal bb Ae me ce ie) ?_ rfl ?_
      · simp [results, Tryz.results41, go_sem, r0, r1, r2, rf, n48, n84]
      · exact ⟨_, _, _, _, _, rfl, HL.out.2.fin HR4.out HR.out.2.2.2.1 HLB.out⟩
end Go.Proofs.YtlkfcfcejicdkaaGreatDoor
set_option linter.unusedSimpArgs false
set_option linter.unusedVariables false
namespace Go.Proofs.YtlkfcfcejicdkaaGreatDoor
open Go Go.RowKit

set_option maxRecDepth 100000 in
set_option maxHeartbeats 2000000 in
theorem rnear_own (Am : Option Addr) (nm cm : Nat) (Al : Option Addr) (q cl : Nat) (ls : List Lk) (n : Int) (w : World) (hl : ls.length = q) (hA : RowAt w Al (lkCells ls)) (hq : q ≤ 1000) (hk : ∀ k ∈ ls, k.1 < k.2 ∧ k.1 ∈ ALL ∧ k.2 ∈ ALL) :
    Calls Tryz.prog 42 #[grV Am nm cm Al q cl, .int .i64 n] w fun e w' => ∃ (A : Option Addr) (c : Nat), e = .returned (.slice A (nears ls n).length c) ∧ Hid (w'.ownsRow w.heap.size 3 1 (.slice A (nears ls n).length c) (nears ls n).length (intVs (nears ls n)) ∧ Below w.heap.size w w') := by
  have HA := Lib.hid hA
  have HN : Hid (q ≤ 1000 ∧ ls.length = q) := ⟨hq, hl⟩
  have HK : Hid (∀ k ∈ ls, k.1 < k.2 ∧ k.1 ∈ ALL ∧ k.2 ∈ ALL) := hk
  clear hA hq hl hk
  obtain ⟨i0, hi, hz0, hz1, hz2⟩ := info_parts int_info
  obtain ⟨G, hG⟩ : ∃ G, G = w.heap.size := ⟨_, rfl⟩
  obtain ⟨W1, hW1⟩ : ∃ W1, W1 = w.alloc (.cells #[.slice Am nm cm, .slice Al q cl] 25) := ⟨_, rfl⟩
  have HB : Hid (W1.heap[G]? = some (.cells #[.slice Am nm cm, .slice Al q cl] 25 (0, 0)) ∧ Below w.heap.size w W1) := by
    rw [hW1, hG]; exact ⟨heap_alloc_new _ _, (Below.refl _ _).alloc (Nat.le_refl _) _⟩
  obtain ⟨v0, v1, _, _⟩ := cell2 HB.out.1
  go_enter Tryz.func42, Tryz.ntmps42
  go_wp2
  rw [← hW1, ← hG]
  clear hW1 hG
  go_loopw [5, 11] (fun l i wr => ∃ (j m : Nat) (A5 : Option Addr) (c5 : Nat), j ≤ q ∧ i = .int .i64 j ∧ l = .slice A5 m c5 ∧ Hid (m ≤ j ∧ (nbrF (ls.take j) n).length = m ∧ wr.ownsRow w.heap.size 3 1 (.slice A5 m c5) m (intVs (nbrF (ls.take j) n)) ∧ Below w.heap.size w wr)) (fun _ i _ => q - (intOf i).toNat)
  case atStart => exact ⟨0, 0, none, 0, Nat.zero_le _, rfl, rfl, Nat.le_refl _, by simp [nbrF], by simpa [nbrF, intVs] using World.ownsRow_nil _ _ _ _, HB.out.2⟩
  case round =>
    obtain ⟨j, m, A5, c5, hj, rfl, rfl, HL⟩ := hrel
    by_cases hlt : j < q
    · obtain ⟨k, hk⟩ : ∃ k, Hid (ls[j]? = some k) := ⟨_, List.getElem?_eq_getElem (by have := HN.out; omega)⟩
      obtain ⟨g, off, rfl, x0, x1, hg⟩ := (HA.out.below HL.out.2.2.2).lk hk.out
      have hsn := Lib.hid (nbrF_snoc n hk.out)
      have hkk := HK.out k (List.mem_of_getElem? hk.out)
      obtain ⟨k1, hk1⟩ : ∃ k1, Hid (k.1 = k1) := ⟨_, rfl⟩
      obtain ⟨k2, hk2⟩ : ∃ k2, Hid (k.2 = k2) := ⟨_, rfl⟩
      rw [hk1.out] at x0
      rw [hk2.out] at x1
      have hlt12 : Hid (k1 < k2) := by rw [← hk1.out, ← hk2.out]; exact hkk.1
      clear hkk
      have hw1 : IntKind.i64.wrap ((j : Int) + 1) = ((j + 1 : Nat) : Int) := by have := HN.out; rw [IntKind.wrap_i64]; omega
      have hj0 : ((0 : Int) ≤ j) := by omega
      have hj1 : ((j : Nat) : Int) < q := by omega
      have hm1 : Hid (m + 1 ≤ maxLen) := Nat.le_trans (show m + 1 ≤ 1002 by have := HN.out; have := HL.out.1; clear hw1; omega) (by decide)
      have hb1 : Hid ((m + 1) * 8 ≤ 140737488355328) := by have := HN.out; have := HL.out.1; clear hw1; simp only [Hid]; omega
      have hzz : Hid (∀ o1 o2, w.heap.size ≤ ((wr.alloc o1).alloc o2).heap.size) := fun o1 o2 => Nat.le_trans HL.out.2.2.2.size (by simp; omega)
      have HA1 : Hid (∀ o, Below w.heap.size w (wr.alloc o)) := fun o => HL.out.2.2.2.alloc HL.out.2.2.2.size o
      have HA2 : Hid (∀ o1 o2, Below w.heap.size w ((wr.alloc o1).alloc o2)) := fun o1 o2 => (HL.out.2.2.2.alloc HL.out.2.2.2.size o1).alloc (Nat.le_trans HL.out.2.2.2.size (by simp)) o2
      have HO2 : Hid (∀ o1 o2, ((wr.alloc o1).alloc o2).ownsRow w.heap.size 3 1 (.slice A5 m c5) m (intVs (nbrF (ls.take j) n))) := fun o1 o2 => (HL.out.2.2.1.alloc o1).alloc o2
      have HGC : Hid (∀ w5 o2, ((wr.alloc (.cells #[.int .i64 k1, .int .i64 k2] 35)).alloc o2).grownBy w5 (Value.slice A5 m c5).ownBlock → w5.heap[wr.heap.size]? = some (.cells #[.int .i64 k1, .int .i64 k2] 35 (0, 0))) := fun w5 o2 h => by
        rw [h.block wr.heap.size (by simp; omega) (fun e => by
          obtain ⟨_, _, _, h2⟩ := own_block HL.out.2.2.1 e.symm
          omega), Below.heap_alloc _ _ _ (by simp)]
        exact heap_alloc_new _ _
      by_cases e1 : k1 = n
      · subst e1
        have hne : (k2 == k1) = false := by have := hlt12.out; simp; omega
        have HE : Hid (nbr1 k k1 = [k2]) := by unfold nbr1; rw [if_pos hk1.out.symm, hk2.out]; rfl
        go_wp2_with (at_builtin; refine wpList_append_own _ rfl _ _ 22 rfl w.heap.size 3 i0 (.int .i64 0) 1 8 Tryz.underlying22 hi hz0 hz1 hz2 rfl (by decide) (.slice A5 m c5) m _ rfl (HO2.out _ _) ⟨wr.heap.size + 1, 0, none⟩ 1 1 [.int .i64 k2] rfl rfl (new1 _ _ _ _ (by simp)) (by simp [Value.oneCell']) hm1.out hb1.out (hzz.out _ _) ?_; intro v' w5 hown5 hgrow5 hnil5; obtain ⟨z0, z1, zf, zl⟩ := cell2 (HGC.out _ _ hgrow5))
        obtain ⟨A8, c8, rfl⟩ := own_slice hown5
        refine ⟨⟨j + 1, m + 1, A8, c8, hlt, by go_num, rfl, by have := HL.out.1; omega, by rw [hsn.out, HE.out, List.length_append, HL.out.2.1]; rfl, by rw [hsn.out, HE.out, intVs_append]; exact hown5, below_push (HA2.out _ _) (HO2.out _ _) (hzz.out _ _) hgrow5⟩, by simp [intOf]; omega⟩
      · have hne1 : (k1 == n) = false := by simpa using e1
        by_cases e2 : k2 = n
        · subst e2
          have HE : Hid (nbr1 k k2 = [k1]) := by unfold nbr1; rw [if_neg (by rw [hk1.out]; exact fun e => e1 e.symm), if_pos hk2.out.symm, hk1.out]; rfl
          clear e1
          go_wp2_with (at_builtin; refine wpList_append_own _ rfl _ _ 22 rfl w.heap.size 3 i0 (.int .i64 0) 1 8 Tryz.underlying22 hi hz0 hz1 hz2 rfl (by decide) (.slice A5 m c5) m _ rfl (HO2.out _ _) ⟨wr.heap.size + 1, 0, none⟩ 1 1 [.int .i64 k1] rfl rfl (new1 _ _ _ _ (by simp)) (by simp [Value.oneCell']) hm1.out hb1.out (hzz.out _ _) ?_; intro v' w5 hown5 hgrow5 hnil5)
          obtain ⟨A8, c8, rfl⟩ := own_slice hown5
          refine ⟨⟨j + 1, m + 1, A8, c8, hlt, by go_num, rfl, by have := HL.out.1; omega, by rw [hsn.out, HE.out, List.length_append, HL.out.2.1]; rfl, by rw [hsn.out, HE.out, intVs_append]; exact hown5, below_push (HA2.out _ _) (HO2.out _ _) (hzz.out _ _) hgrow5⟩, by simp [intOf]; omega⟩
        · have hne2 : (k2 == n) = false := by simpa using e2
          have HE : Hid (nbr1 k n = []) := by unfold nbr1; rw [if_neg (by rw [hk1.out]; exact fun e => e1 e.symm), if_neg (by rw [hk2.out]; exact fun e => e2 e.symm)]; rfl
          clear e1 e2
          go_wp2
          exact ⟨⟨j + 1, m, A5, c5, hlt, by go_num, rfl, by have := HL.out.1; omega, by rw [hsn.out, HE.out, List.append_nil]; exact HL.out.2.1, by rw [hsn.out, HE.out, List.append_nil]; exact HL.out.2.2.1.alloc _, HA1.out _⟩, by simp [intOf]; omega⟩
    · have hjn : j = q := by omega
      subst hjn
      have hall : ls.take j = ls := by rw [← HN.out.2]; exact List.take_length
      rw [hall] at HL
      obtain ⟨h1, h2⟩ := nears_nbr (n := n) HK.out
      have HS := Lib.hid (sorted_any A5 m c5 (nbrF ls n) wr HL.out.2.1 (RowAt.of_own HL.out.2.2.1) (by have := HN.out; have := HL.out.1; omega) h1)
      rw [h2] at HS
      clear h1 h2
      go_wp2_with fail
      refine HS.out.mono ?_
      rintro e w5 ⟨A9, c9, rfl, h9⟩
      go_wp2
      go_ret
      exact ⟨A9, c9, rfl, ownsRow_mono h9.out.1 HL.out.2.2.2.size, HL.out.2.2.2.trans (h9.out.2.mono HL.out.2.2.2.size)⟩
/-- What a call of the document's answers that gives a list. -/
def GivesLE (w0 : World) (e : Ending) (w' : World) (er : Er) (l : List Int) : Prop := ∃ (A : Option Addr) (c : Nat) (bb : Bool) (Ae : Option Addr) (me ce : Nat) (ie : Int), e = .returned (.tuple #[.slice A l.length c, eVal bb Ae me ce ie]) ∧ Hid (EIs w' (eVal bb Ae me ce ie) er ∧ RowAt w' A (intVs l) ∧ Below w0.heap.size w0 w' ∧ NewA w0.heap.size A)
abbrev KEf (w1 : World) (b8 : Nat) (a b c : Value) (W : World) : Prop := KE w1 W b8 a b c
theorem EIs.finX {w W X : World} {R : Nat} {x y z a b c : Value} {e : Er} (h : EIs W (.agg #[a, b, c]) e) (hR : W.heap[R]? = some (.cells #[x, y, z] 43 (0, 0))) (hw : w.heap.size ≤ R) (hb : Below w.heap.size w W)
    (h1 : X.heap = (((W.setCell ⟨R, 0, none⟩ a).setCell ⟨R, 1, none⟩ b).setCell ⟨R, 2, none⟩ c).heap) (h2 : X.os = W.os) (h3 : X.tape = W.tape) (h4 : X.output = W.output) : Hid (EIs X (.agg #[a, b, c]) e ∧ Below w.heap.size w X) := by
  have h9 := h.fin hR hw hb
  exact ⟨h9.1.keep fun g x hg => by rw [h1], ⟨h2.trans hb.os, h3.trans hb.tape, h4.trans hb.output, by rw [h1]; exact h9.2.size, fun k hk => by rw [h1]; exact h9.2.block k hk⟩⟩
/-- A row of numbers behind a store into the box of an error. -/
theorem own_setE {W : World} {base n R i : Nat} {v : Value} {xs : List Value} {a b c : Value} (h : W.ownsRow base 3 1 v n xs) (hR : W.heap[R]? = some (.cells #[a, b, c] 43 (0, 0))) (x : Value) : (W.setCell ⟨R, i, none⟩ x).ownsRow base 3 1 v n xs :=
  ownsRow_keep h fun g hg => Below.heap_setCell _ _ _ _ (fun e => by
    obtain ⟨cur, hh, _⟩ := own_block h hg
    rw [show g = R from e, hR] at hh
    injection hh with hh
    injection hh with _ hh _
    exact absurd hh (by decide))
theorem own_set3 {W : World} {base n R : Nat} {v : Value} {xs : List Value} {a b c : Value} (h : W.ownsRow base 3 1 v n xs) (hR : W.heap[R]? = some (.cells #[a, b, c] 43 (0, 0))) (x y z : Value) : (((W.setCell ⟨R, 0, none⟩ x).setCell ⟨R, 1, none⟩ y).setCell ⟨R, 2, none⟩ z).ownsRow base 3 1 v n xs := by
  obtain ⟨h1, h2, _⟩ := three_set hR x y z
  exact own_setE (own_setE (own_setE h hR x) h1 y) h2 z
section
variable (Am : Option Addr) (n cm : Nat) (Al : Option Addr) (q cl : Nat) (ms : List Int) (ls : List Lk) (a b : Int) (w : World)
set_option maxRecDepth 100000 in
set_option maxHeartbeats 4000000 in
theorem rNear_any (hG : GrAt w Am n Al q ms ls) (hn : n ≤ 1000) (hq : q ≤ 1000) :
    Calls Tryz.prog 18 #[grV Am n cm Al q cl, .int .i64 a] w fun e w' => GivesLE w e w' (nearP ms ls a).1 (nearP ms ls a).2 := by
  have HG := Lib.hid hG
  have HN : Hid (n ≤ 1000 ∧ q ≤ 1000) := ⟨hn, hq⟩
  clear hG hn hq
  obtain ⟨bg, hbg⟩ : ∃ b, b = w.heap.size := ⟨_, rfl⟩
  obtain ⟨b5, hb5⟩ : ∃ b, b = w.heap.size + 1 := ⟨_, rfl⟩
  obtain ⟨b2, hb2⟩ : ∃ b, b = w.heap.size + 1 + 1 := ⟨_, rfl⟩
  obtain ⟨w1, hw1⟩ : ∃ w1, w1 = ((w.alloc (.cells #[.slice Am n cm, .slice Al q cl] 25)).alloc (.cells #[.bool false, .slice none 0 0, .int .i64 0] 43)).alloc (.cells #[.int .i64 a] 3) := ⟨_, rfl⟩
  have HA := Lib.hid (alloc3 w (.cells #[.slice Am n cm, .slice Al q cl] 25) (.cells #[.bool false, .slice none 0 0, .int .i64 0] 43) (.cells #[.int .i64 a] 3))
  rw [← hw1, ← hb2, ← hb5, ← hbg] at HA
  have HR : Hid (w1.heap[bg]? = some (.cells #[.slice Am n cm, .slice Al q cl] 25 (0, 0)) ∧ w1.heap[b5]? = some (.cells #[.bool false, .slice none 0 0, .int .i64 0] 43 (0, 0)) ∧ Below w.heap.size w w1 ∧ w.heap.size ≤ b5 ∧ b5 < w1.heap.size ∧ bg < w1.heap.size) := ⟨HA.out.1, HA.out.2.1, by rw [← hbg]; exact HA.out.2.2.2.2, by omega, by have := HA.out.2.2.2.1; omega, by have := HA.out.2.2.2.1; omega⟩
  have HCM := Lib.hid (rmembers_any Am n cm Al q cl ms ls (some ⟨b2, 0, none⟩) 1 1 [a] w1 (HG.out.below HR.out.2.2.1) HN.out.1 HN.out.2 rfl (.inr ⟨b2, 0, rfl, fun j u hu => by
    match j, hu with
    | 0, hu =>
      cases hu
      exact (cell1 (show w1.heap[b2]? = some (.cells #[.int .i64 a] 3 (0, 0)) from HA.out.2.2.1)).1⟩) (by decide))
  clear HA
  have HC : Hid (∀ W, Bl w1 W → W.cell? ⟨bg, 0, none⟩ = some (.slice Am n cm) ∧ W.cell? ⟨bg, 1, none⟩ = some (.slice Al q cl) ∧ W.heap[b5]? = some (.cells #[.bool false, .slice none 0 0, .int .i64 0] 43 (0, 0))) := fun W hW => by
    obtain ⟨a1, a2, _⟩ := cell2 ((Below.block hW bg HR.out.2.2.2.2.2).trans HR.out.1)
    exact ⟨a1, a2, (Below.block hW b5 HR.out.2.2.2.2.1).trans HR.out.2.1⟩
  go_enter Tryz.func18, Tryz.ntmps18
  go_wp2_with fail
  rw [← hw1, ← hb2, ← hb5, ← hbg]
  clear hw1 hbg hb2 hb5
  refine HCM.out.mono ?_
  rintro e w2 ⟨b0, A0, m0, c0_1, i0, rfl, HE⟩
  have HB2 : Hid (Bl w1 w2) := HE.out.2
  obtain ⟨b8, hb8⟩ : ∃ b, b = w2.heap.size := ⟨_, rfl⟩
  obtain ⟨n58, n85⟩ : ¬ (b5 = b8) ∧ ¬ (b8 = b5) := by
    have := HR.out; have := HB2.out.size; exact ⟨by omega, by omega⟩
  have HBW : Hid (∀ W, Bl w1 W → Below w.heap.size w W) := fun W hW => HR.out.2.2.1.trans (Below.mono hW HR.out.2.2.1.size)
  obtain ⟨c0, c1, hR2⟩ := HC.out w2 HB2.out
  obtain ⟨r0, r1, r2, rf, rl⟩ := cell3 hR2
  have l1 : bg < w2.heap.size := Nat.lt_of_lt_of_le HR.out.2.2.2.2.2 HB2.out.size
  have n1 : ¬ (bg = w2.heap.size) := by omega
  have n1' : ¬ (w2.heap.size = bg) := by omega
  cases hc : membersE ms ls [a] with
  | some er =>
    rw [hc] at HE
    obtain rfl : b0 = true := HE.out.1.bad
    have HM : Hid (nearP ms ls a = (some er, [])) := by unfold nearP; rw [hc]; rfl
    clear hc HCM
    go_wp2_with fail
    obtain ⟨w5, hw5⟩ : ∃ w5, w5 = w2.alloc (.cells #[.bool true, .slice A0 m0 c0_1, .int .i64 i0] 43) := ⟨_, rfl⟩
    have HK5 : Hid (KE w1 w5 b8 (.bool true) (.slice A0 m0 c0_1) (.int .i64 i0)) := by rw [hw5]; exact KE.fresh HB2.out hb8
    have HE5 : Hid (EIs w5 (eVal true A0 m0 c0_1 i0) (some er)) := by rw [hw5]; exact HE.out.1.below ((Below.refl _ _).alloc (Nat.le_refl _) _)
    rw [← hw5, ← hb8]
    clear hw5 hb8 c0 c1 r0 r1 r2 rf rl hR2 l1 n1 n1'
    obtain ⟨k0, k1, k2, kf, kl⟩ := cell3 HK5.out.e8
    obtain ⟨c0, c1, hR5⟩ := HC.out w5 HK5.out.old
    have HR5 := Lib.hid hR5
    clear hR5
    obtain ⟨r0, r1, r2, rf, rl⟩ := cell3 HR5.out
    go_region
    all_goals
      go_wp2
      refine bodyPost_ret (v := .tuple #[.slice none 0 0, eVal true A0 m0 c0_1 i0]) ?_ rfl ?_
      · simp [results, Tryz.results18, go_sem, r0, r1, r2, rf, n58, n85, k0, k1, k2, kf]
      · refine ⟨none, 0, _, _, _, _, _, by rw [HM.out]; rfl, ?_⟩
        rw [HM.out]
        have key : ∀ X : World, X.heap = (((w5.setCell ⟨b5, 0, none⟩ (.bool true)).setCell ⟨b5, 1, none⟩ (.slice A0 m0 c0_1)).setCell ⟨b5, 2, none⟩ (.int .i64 i0)).heap → X.os = w5.os → X.tape = w5.tape → X.output = w5.output → Hid (EIs X (eVal true A0 m0 c0_1 i0) (some er) ∧ RowAt X none (intVs []) ∧ Below w.heap.size w X ∧ NewA w.heap.size none) := fun X x1 x2 x3 x4 => by
          have h9 := HE5.out.finX HR5.out HR.out.2.2.2.1 (HBW.out _ HK5.out.old) x1 x2 x3 x4
          exact ⟨h9.out.1, .nil, h9.out.2, fun a e => by cases e⟩
        exact key _ rfl rfl rfl rfl
  | none =>
    have HM : Hid (nearP ms ls a = (none, nears ls a)) := by unfold nearP; rw [hc]; rfl
    have HGD := Lib.hid (members_good hc)
    rw [hc] at HE
    have hz := HE.out.1
    obtain ⟨rfl, ⟨rfl, rfl, rfl⟩, rfl⟩ : b0 = false ∧ (A0 = none ∧ m0 = 0 ∧ c0_1 = 0) ∧ i0 = 0 := by
      have := hz
      simpa [EIs] using this
    clear hz hc HCM
    go_wp2_with fail
    obtain ⟨w5, hw5⟩ : ∃ w5, w5 = w2.alloc (.cells #[.bool false, .slice none 0 0, .int .i64 0] 43) := ⟨_, rfl⟩
    have HK5 : Hid (KE w1 w5 b8 (.bool false) (.slice none 0 0) (.int .i64 0)) := by rw [hw5]; exact KE.fresh HB2.out hb8
    rw [← hw5, ← hb8]
    clear hw5 hb8 c0 c1 r0 r1 r2 rf rl hR2 l1 n1 n1'
    obtain ⟨k0, k1, k2, kf, kl⟩ := cell3 HK5.out.e8
    obtain ⟨c0, c1, hR5⟩ := HC.out w5 HK5.out.old
    have HR5 := Lib.hid hR5
    clear hR5
    obtain ⟨r0, r1, r2, rf, rl⟩ := cell3 HR5.out
    have hg := HGD.out.1
    refine (rnear_own Am n cm Al q cl ls a w5 HG.out.llen (HG.out.lrow.below (HBW.out w5 HK5.out.old)) HN.out.2 fun k hk => ⟨(hg.ls_.2 k hk).1, hg.ms_.2 _ (hg.ls_.2 k hk).2.1, hg.ms_.2 _ (hg.ls_.2 k hk).2.2⟩).mono ?_
    rintro e w6 ⟨A6, c6, rfl, H6⟩
    have HB6 : Hid (Bl w1 w6) := bchain HK5.out.old H6.out.2
    clear hg k0 k1 k2 kf kl c0 c1 r0 r1 r2 rf rl
    obtain ⟨c0, c1, hR6⟩ := HC.out w6 HB6.out
    have HR6 := Lib.hid hR6
    clear hR6
    obtain ⟨r0, r1, r2, rf, rl⟩ := cell3 HR6.out
    go_wp2
    refine bodyPost_ret (v := .tuple #[.slice A6 (nears ls a).length c6, eVal false none 0 0 0]) ?_ rfl ?_
    · simp [results, Tryz.results18, go_sem, r0, r1, r2, rf]
    · refine ⟨A6, c6, _, _, _, _, _, by rw [HM.out], ?_⟩
      rw [HM.out]
      have h9 := (EIs.zero w6).fin HR6.out HR.out.2.2.2.1 (HBW.out _ HB6.out)
      exact ⟨h9.out.1, RowAt.of_own (own_set3 H6.out.1 HR6.out _ _ _), h9.out.2, own_new H6.out.1 (HBW.out w5 HK5.out.old).size⟩
set_option maxRecDepth 100000 in
set_option maxHeartbeats 8000000 in
theorem rSide_any (hG : GrAt w Am n Al q ms ls) (hn : n ≤ 1000) (hq : q ≤ 1000) :
    Calls Tryz.prog 22 #[grV Am n cm Al q cl, .int .i64 a, .int .i64 b] w fun e w' => GivesLE w e w' (sideP ms ls a b).1 (sideP ms ls a b).2 := by
  have HG := Lib.hid hG
  have HN : Hid (n ≤ 1000 ∧ q ≤ 1000) := ⟨hn, hq⟩
  clear hG hn hq
  obtain ⟨bg, hbg⟩ : ∃ b, b = w.heap.size := ⟨_, rfl⟩
  obtain ⟨b5, hb5⟩ : ∃ b, b = w.heap.size + 1 := ⟨_, rfl⟩
  obtain ⟨b2, hb2⟩ : ∃ b, b = w.heap.size + 1 + 1 := ⟨_, rfl⟩
  obtain ⟨w1, hw1⟩ : ∃ w1, w1 = ((w.alloc (.cells #[.slice Am n cm, .slice Al q cl] 25)).alloc (.cells #[.bool false, .slice none 0 0, .int .i64 0] 43)).alloc (.cells #[.int .i64 a, .int .i64 b] 3) := ⟨_, rfl⟩
  have HA := Lib.hid (alloc3 w (.cells #[.slice Am n cm, .slice Al q cl] 25) (.cells #[.bool false, .slice none 0 0, .int .i64 0] 43) (.cells #[.int .i64 a, .int .i64 b] 3))
  rw [← hw1, ← hb2, ← hb5, ← hbg] at HA
  have HR : Hid (w1.heap[bg]? = some (.cells #[.slice Am n cm, .slice Al q cl] 25 (0, 0)) ∧ w1.heap[b5]? = some (.cells #[.bool false, .slice none 0 0, .int .i64 0] 43 (0, 0)) ∧ Below w.heap.size w w1 ∧ w.heap.size ≤ b5 ∧ b5 < w1.heap.size ∧ bg < w1.heap.size) := ⟨HA.out.1, HA.out.2.1, by rw [← hbg]; exact HA.out.2.2.2.2, by omega, by have := HA.out.2.2.2.1; omega, by have := HA.out.2.2.2.1; omega⟩
  have HCM := Lib.hid (rmembers_any Am n cm Al q cl ms ls (some ⟨b2, 0, none⟩) 2 2 [a, b] w1 (HG.out.below HR.out.2.2.1) HN.out.1 HN.out.2 rfl (.inr ⟨b2, 0, rfl, fun j u hu => by
    match j, hu with
    | 0, hu =>
      cases hu
      exact (cell2 (show w1.heap[b2]? = some (.cells #[.int .i64 a, .int .i64 b] 3 (0, 0)) from HA.out.2.2.1)).1
    | 1, hu =>
      cases hu
      exact (cell2 (show w1.heap[b2]? = some (.cells #[.int .i64 a, .int .i64 b] 3 (0, 0)) from HA.out.2.2.1)).2.1⟩) (by decide))
  clear HA
  have HC : Hid (∀ W, Bl w1 W → W.cell? ⟨bg, 0, none⟩ = some (.slice Am n cm) ∧ W.cell? ⟨bg, 1, none⟩ = some (.slice Al q cl) ∧ W.heap[b5]? = some (.cells #[.bool false, .slice none 0 0, .int .i64 0] 43 (0, 0))) := fun W hW => by
    obtain ⟨a1, a2, _⟩ := cell2 ((Below.block hW bg HR.out.2.2.2.2.2).trans HR.out.1)
    exact ⟨a1, a2, (Below.block hW b5 HR.out.2.2.2.2.1).trans HR.out.2.1⟩
  go_enter Tryz.func22, Tryz.ntmps22
  go_wp2_with fail
  rw [← hw1, ← hb2, ← hb5, ← hbg]
  clear hw1 hbg hb2 hb5
  refine HCM.out.mono ?_
  rintro e w2 ⟨b0, A0, m0, c0_1, i0, rfl, HE⟩
  have HB2 : Hid (Bl w1 w2) := HE.out.2
  obtain ⟨b8, hb8⟩ : ∃ b, b = w2.heap.size := ⟨_, rfl⟩
  obtain ⟨n58, n85⟩ : ¬ (b5 = b8) ∧ ¬ (b8 = b5) := by
    have := HR.out; have := HB2.out.size; exact ⟨by omega, by omega⟩
  have HBW : Hid (∀ W, Bl w1 W → Below w.heap.size w W) := fun W hW => HR.out.2.2.1.trans (Below.mono hW HR.out.2.2.1.size)
  obtain ⟨c0, c1, hR2⟩ := HC.out w2 HB2.out
  obtain ⟨r0, r1, r2, rf, rl⟩ := cell3 hR2
  have l1 : bg < w2.heap.size := Nat.lt_of_lt_of_le HR.out.2.2.2.2.2 HB2.out.size
  have n1 : ¬ (bg = w2.heap.size) := by omega
  have n1' : ¬ (w2.heap.size = bg) := by omega
  cases hc : membersE ms ls [a, b] with
  | some er =>
    rw [hc] at HE
    obtain rfl : b0 = true := HE.out.1.bad
    have HM : Hid (sideP ms ls a b = (some er, [])) := by unfold sideP; rw [hc]; rfl
    clear hc HCM
    go_wp2_with fail
    obtain ⟨w5, hw5⟩ : ∃ w5, w5 = w2.alloc (.cells #[.bool true, .slice A0 m0 c0_1, .int .i64 i0] 43) := ⟨_, rfl⟩
    have HK5 : Hid (KE w1 w5 b8 (.bool true) (.slice A0 m0 c0_1) (.int .i64 i0)) := by rw [hw5]; exact KE.fresh HB2.out hb8
    have HE5 : Hid (EIs w5 (eVal true A0 m0 c0_1 i0) (some er)) := by rw [hw5]; exact HE.out.1.below ((Below.refl _ _).alloc (Nat.le_refl _) _)
    rw [← hw5, ← hb8]
    clear hw5 hb8 c0 c1 r0 r1 r2 rf rl hR2 l1 n1 n1'
    obtain ⟨k0, k1, k2, kf, kl⟩ := cell3 HK5.out.e8
    obtain ⟨c0, c1, hR5⟩ := HC.out w5 HK5.out.old
    have HR5 := Lib.hid hR5
    clear hR5
    obtain ⟨r0, r1, r2, rf, rl⟩ := cell3 HR5.out
    go_quiet (fail)
    go_wp2_with fail
    go_region
    all_goals
      go_wp2
      refine bodyPost_ret (v := .tuple #[.slice none 0 0, eVal true A0 m0 c0_1 i0]) ?_ rfl ?_
      · simp [results, Tryz.results22, go_sem, r0, r1, r2, rf, n58, n85, k0, k1, k2, kf]
      · refine ⟨none, 0, _, _, _, _, _, by rw [HM.out]; rfl, ?_⟩
        rw [HM.out]
        have key : ∀ X : World, X.heap = (((w5.setCell ⟨b5, 0, none⟩ (.bool true)).setCell ⟨b5, 1, none⟩ (.slice A0 m0 c0_1)).setCell ⟨b5, 2, none⟩ (.int .i64 i0)).heap → X.os = w5.os → X.tape = w5.tape → X.output = w5.output → Hid (EIs X (eVal true A0 m0 c0_1 i0) (some er) ∧ RowAt X none (intVs []) ∧ Below w.heap.size w X ∧ NewA w.heap.size none) := fun X x1 x2 x3 x4 => by
          have h9 := HE5.out.finX HR5.out HR.out.2.2.2.1 (HBW.out _ HK5.out.old) x1 x2 x3 x4
          exact ⟨h9.out.1, .nil, h9.out.2, fun a e => by cases e⟩
        exact key _ rfl rfl rfl rfl
  | none =>
    have HM : Hid (sideP ms ls a b = if ofL a b ∈ ls then (none, sideS ls a b) else (plainE 13, [])) := by unfold sideP; rw [hc]; rfl
    have HGD := Lib.hid (members_good hc)
    rw [hc] at HE
    have hz := HE.out.1
    obtain ⟨rfl, ⟨rfl, rfl, rfl⟩, rfl⟩ : b0 = false ∧ (A0 = none ∧ m0 = 0 ∧ c0_1 = 0) ∧ i0 = 0 := by
      have := hz
      simpa [EIs] using this
    obtain ⟨z1, hz1⟩ : ∃ k1, Hid (min a b = k1) := ⟨_, rfl⟩
    obtain ⟨z2, hz2⟩ : ∃ k2, Hid (max a b = k2) := ⟨_, rfl⟩
    have HOL : Hid (ofL a b = (z1, z2)) := by unfold ofL; rw [hz1.out, hz2.out]; exact rfl
    rw [HOL.out] at HM
    clear hz hc HCM
    have HOF : Hid (∀ W, KEf w1 b8 (.bool false) (.slice none 0 0) (.int .i64 0) W → Calls Tryz.prog 14 #[.int .i64 a, .int .i64 b] W fun e w' => e = .returned (.agg #[.int .i64 z1, .int .i64 z2]) ∧ KEf w1 b8 (.bool false) (.slice none 0 0) (.int .i64 0) w') := fun W hW => by
      refine (rof_any a b W).mono ?_
      rintro e w' ⟨rfl, hb⟩
      rw [hz1.out, hz2.out]
      exact ⟨rfl, KE.step hW hb⟩
    have HHL : Hid (∀ W, KEf w1 b8 (.bool false) (.slice none 0 0) (.int .i64 0) W → Calls Tryz.prog 13 #[grV Am n cm Al q cl, .agg #[.int .i64 z1, .int .i64 z2]] W fun e w' => e = .returned (.bool (decide ((z1, z2) ∈ ls))) ∧ KEf w1 b8 (.bool false) (.slice none 0 0) (.int .i64 0) w') := fun W hW =>
      (rHas_any Am n cm Al q cl ls W z1 z2 HG.out.llen (HG.out.lrow.below (HBW.out W hW.old)) (Nat.le_trans HN.out.2 (by decide))).mono fun _ _ h => ⟨h.1, KE.step hW h.2⟩
    go_wp2_with fail
    obtain ⟨w5, hw5⟩ : ∃ w5, w5 = w2.alloc (.cells #[.bool false, .slice none 0 0, .int .i64 0] 43) := ⟨_, rfl⟩
    have HK5 : Hid (KE w1 w5 b8 (.bool false) (.slice none 0 0) (.int .i64 0)) := by rw [hw5]; exact KE.fresh HB2.out hb8
    rw [← hw5, ← hb8]
    clear hw5 hb8 c0 c1 r0 r1 r2 rf rl hR2 l1 n1 n1'
    obtain ⟨k0, k1, k2, kf, kl⟩ := cell3 HK5.out.e8
    obtain ⟨c0, c1, hR5⟩ := HC.out w5 HK5.out.old
    have HR5 := Lib.hid hR5
    clear hR5
    obtain ⟨r0, r1, r2, rf, rl⟩ := cell3 HR5.out
    clear c0 c1 k0 k1 k2 kf kl r0 r1 r2 rf rl
    have hK0 : KEf w1 b8 (.bool false) (.slice none 0 0) (.int .i64 0) w5 := HK5.out
    have hKd : KEf w1 b8 (.bool false) (.slice none 0 0) (.int .i64 0) w5.drew := KE.step hK0 (Below.refl _ _).drew
    haveI : Nonempty (QW (KEf w1 b8 (.bool false) (.slice none 0 0) (.int .i64 0))) := ⟨⟨w5, hK0⟩⟩
    have q0 : ∀ x : QW (KEf w1 b8 (.bool false) (.slice none 0 0) (.int .i64 0)), x.val.cell? ⟨bg, 0, none⟩ = some (.slice Am n cm) := fun x => (HC.out _ (KE.old x.ok)).1
    have q1 : ∀ x : QW (KEf w1 b8 (.bool false) (.slice none 0 0) (.int .i64 0)), x.val.cell? ⟨bg, 1, none⟩ = some (.slice Al q cl) := fun x => (HC.out _ (KE.old x.ok)).2.1
    have q2 : ∀ x : QW (KEf w1 b8 (.bool false) (.slice none 0 0) (.int .i64 0)), x.val.cell? ⟨b8, 0, none⟩ = some (.bool false) := fun x => (cell3 (KE.e8 x.ok)).1
    by_cases m1 : (z1, z2) ∈ ls
    case neg =>
      rw [decide_eq_false m1] at HHL
      rw [if_neg m1] at HM
      clear m1 hK0 hz1 hz2
      refine region_in (KEf w1 b8 (.bool false) (.slice none 0 0) (.int .i64 0)) (by kernel_rfl) (by kernel_rfl) hKd ?_
      repeat (go_big_quiet_step ((first | (go_at_call 14; refine calls_in (HOF.out _ (QW.ok _))) | (go_at_call 13; refine calls_in (HHL.out _ (QW.ok _))))))
      refine wpQuiet_nil ?_
      intro W6 hK6
      go_wp2_with fail
      refine (rn_any 13 _).mono ?_
      rintro e w7 ⟨rfl, hb7⟩
      have HK7 := Lib.hid (KE.step hK6 hb7)
      obtain ⟨k0, k1, k2, kf, kl⟩ := cell3 HK7.out.e8
      go_wp2_with fail
      obtain ⟨w8, hw8⟩ : ∃ w8, w8 = ((w7.setCell ⟨b8, 0, none⟩ (.bool true)).setCell ⟨b8, 1, none⟩ (.slice none 0 0)).setCell ⟨b8, 2, none⟩ (.int .i64 13) := ⟨_, rfl⟩
      have HK8 : Hid (KE w1 w8 b8 (.bool true) (.slice none 0 0) (.int .i64 13)) := by rw [hw8]; exact HK7.out.set _ _ _
      have HE8 : Hid (EIs w8 (eVal true none 0 0 13) (plainE 13)) := rfl
      rw [← hw8]
      clear hw8 k0 k1 k2 kf kl
      obtain ⟨k0, k1, k2, kf, kl⟩ := cell3 HK8.out.e8
      obtain ⟨c0, c1, hR8⟩ := HC.out w8 HK8.out.old
      have HR8 := Lib.hid hR8
      clear hR8
      obtain ⟨r0, r1, r2, rf, rl⟩ := cell3 HR8.out
      go_region
      all_goals
        go_wp2
        refine bodyPost_ret (v := .tuple #[.slice none 0 0, eVal true none 0 0 13]) ?_ rfl ?_
        · simp [results, Tryz.results22, go_sem, r0, r1, r2, rf, n58, n85, k0, k1, k2, kf]
        · refine ⟨none, 0, _, _, _, _, _, by rw [HM.out]; rfl, ?_⟩
          rw [HM.out]
          have key : ∀ X : World, X.heap = (((w8.setCell ⟨b5, 0, none⟩ (.bool true)).setCell ⟨b5, 1, none⟩ (.slice none 0 0)).setCell ⟨b5, 2, none⟩ (.int .i64 13)).heap → X.os = w8.os → X.tape = w8.tape → X.output = w8.output → Hid (EIs X (eVal true none 0 0 13) (plainE 13) ∧ RowAt X none (intVs []) ∧ Below w.heap.size w X ∧ NewA w.heap.size none) := fun X x1 x2 x3 x4 => by
            have h9 := HE8.out.finX HR8.out HR.out.2.2.2.1 (HBW.out _ HK8.out.old) x1 x2 x3 x4
            exact ⟨h9.out.1, .nil, h9.out.2, fun a e => by cases e⟩
          exact key _ rfl rfl rfl rfl
    case pos =>
      rw [decide_eq_true m1] at HHL
      rw [if_pos m1] at HM
      have HSR : Hid (∀ W, Bl w1 W → Calls Tryz.prog 47 #[grV Am n cm Al q cl, .int .i64 a, .agg #[.int .i64 z1, .int .i64 z2]] W fun e w' => ∃ (A : Option Addr) (m c : Nat), e = .returned (.slice A m c) ∧ Bl w1 w' ∧ Hid ((∃ S : List Int, S.length = m ∧ m ≤ 8 ∧ (∀ x ∈ S, x ∈ ALL) ∧ inOrder S = sideS ls a b ∧ RowAt w' A (intVs S)) ∧ Below W.heap.size W w')) := fun W hW => by
        have hg := HGD.out.1
        refine (reach_any Am n cm Al q cl ls a z1 z2 W HG.out.llen (HG.out.lrow.below (HBW.out W hW)) HN.out.2 (fun k hk => ⟨(hg.ls_.2 k hk).1, hg.ms_.2 _ (hg.ls_.2 k hk).2.1, hg.ms_.2 _ (hg.ls_.2 k hk).2.2⟩) (hg.ms_.2 _ (HGD.out.2 a (by simp)))).mono ?_
        rintro e w' ⟨A, m, c, rfl, S, h1, h2, h3, h4, h5, h6⟩
        refine ⟨A, m, c, rfl, bchain hW h6, ⟨S, h1, by rw [← h1]; exact nodup_le h2 (m := ALL) h3, h3, ?_, h5⟩, h6⟩
        refine side_of hg (by rw [HOL.out]; exact m1) fun x => ?_
        rw [HOL.out]
        exact h4 x
      have HSO : Hid (∀ (A : Option Addr) (m c : Nat) W, Bl w1 W → Hid (∃ S : List Int, S.length = m ∧ m ≤ 8 ∧ (∀ x ∈ S, x ∈ ALL) ∧ inOrder S = sideS ls a b ∧ RowAt W A (intVs S)) → Calls Tryz.prog 46 #[.slice A m c] W fun e w' => ∃ (A8 : Option Addr) (c8 : Nat), e = .returned (.slice A8 (sideS ls a b).length c8) ∧ Bl w1 w' ∧ Hid (w'.ownsRow w1.heap.size 3 1 (.slice A8 (sideS ls a b).length c8) (sideS ls a b).length (intVs (sideS ls a b)) ∧ Below W.heap.size W w')) := fun A m c W hW h => by
        obtain ⟨S, h1, h2, h3, h4, h5⟩ := h.out
        refine (sorted_any A m c S W h1 h5 (by omega) h3).mono ?_
        rintro e w' ⟨A8, c8, rfl, h⟩
        have h8 := h.out.1
        rw [h4] at h8
        rw [h4]
        exact ⟨A8, c8, rfl, bchain hW h.out.2, ownsRow_mono h8 (Below.size hW), h.out.2⟩
      have HOF2 : Hid (∀ W, Bl w1 W → Calls Tryz.prog 14 #[.int .i64 a, .int .i64 b] W fun e w' => e = .returned (.agg #[.int .i64 z1, .int .i64 z2]) ∧ Bl w1 w' ∧ Below W.heap.size W w') := fun W hW => by
        refine (rof_any a b W).mono ?_
        rintro e w' ⟨rfl, hb⟩
        rw [hz1.out, hz2.out]
        exact ⟨rfl, bchain hW hb, hb⟩
      clear m1 hK0 hz1 hz2
      refine region_in (KEf w1 b8 (.bool false) (.slice none 0 0) (.int .i64 0)) (by kernel_rfl) (by kernel_rfl) hKd ?_
      repeat (go_big_quiet_step ((first | (go_at_call 14; refine calls_in (HOF.out _ (QW.ok _))) | (go_at_call 13; refine calls_in (HHL.out _ (QW.ok _))))))
      refine wpQuiet_nil ?_
      intro W6 hK6
      have HK6 := Lib.hid hK6
      clear hK6 hKd
      have hbl : Bl w1 W6 := HK6.out.old
      obtain ⟨k0, k1, k2, kf, kl⟩ := cell3 HK6.out.e8
      obtain ⟨c0, c1, hR6⟩ := HC.out W6 HK6.out.old
      clear hR6
      have HEC : Hid (∀ W, KE w1 W b8 (.bool false) (.slice none 0 0) (.int .i64 0) → W.cell? ⟨bg, 0, none⟩ = some (.slice Am n cm) ∧ W.cell? ⟨bg, 1, none⟩ = some (.slice Al q cl) ∧ W.cell? ⟨b8, 0, none⟩ = some (.bool false) ∧ W.cell? ⟨b8, 1, none⟩ = some (.slice none 0 0) ∧ W.cell? ⟨b8, 2, none⟩ = some (.int .i64 0)) := fun W hW => by
        obtain ⟨h1, h2, _⟩ := HC.out W hW.old
        obtain ⟨h3, h4, h5, _⟩ := cell3 hW.e8
        exact ⟨h1, h2, h3, h4, h5⟩
      have HES : Hid (∀ W, KE w1 W b8 (.bool false) (.slice none 0 0) (.int .i64 0) → ∀ x y z, (((W.setCell ⟨b5, 0, none⟩ x).setCell ⟨b5, 1, none⟩ y).setCell ⟨b5, 2, none⟩ z).cell? ⟨bg, 0, none⟩ = some (.slice Am n cm) ∧ (((W.setCell ⟨b5, 0, none⟩ x).setCell ⟨b5, 1, none⟩ y).setCell ⟨b5, 2, none⟩ z).cell? ⟨bg, 1, none⟩ = some (.slice Al q cl) ∧ (((W.setCell ⟨b5, 0, none⟩ x).setCell ⟨b5, 1, none⟩ y).setCell ⟨b5, 2, none⟩ z).cell? ⟨b8, 0, none⟩ = some (.bool false) ∧ (((W.setCell ⟨b5, 0, none⟩ x).setCell ⟨b5, 1, none⟩ y).setCell ⟨b5, 2, none⟩ z).cell? ⟨b8, 1, none⟩ = some (.slice none 0 0) ∧ (((W.setCell ⟨b5, 0, none⟩ x).setCell ⟨b5, 1, none⟩ y).setCell ⟨b5, 2, none⟩ z).cell? ⟨b8, 2, none⟩ = some (.int .i64 0)) := fun W hW x y z => by
        have hbg5 : bg ≠ b5 := fun e => by
          have h1 := HR.out.1
          rw [e, HR.out.2.1] at h1
          injection h1 with h1
          injection h1 with _ h1 _
          exact absurd h1 (by decide)
        have key : ∀ g, g ≠ b5 → (((W.setCell ⟨b5, 0, none⟩ x).setCell ⟨b5, 1, none⟩ y).setCell ⟨b5, 2, none⟩ z).heap[g]? = W.heap[g]? := fun g hg => by
          rw [Below.heap_setCell _ _ _ _ (by exact hg), Below.heap_setCell _ _ _ _ (by exact hg), Below.heap_setCell _ _ _ _ (by exact hg)]
        obtain ⟨h1, h2, _⟩ := cell2 ((key bg hbg5).trans ((Below.block hW.old bg HR.out.2.2.2.2.2).trans HR.out.1))
        obtain ⟨h3, h4, h5, _⟩ := cell3 ((key b8 n85).trans hW.e8)
        exact ⟨h1, h2, h3, h4, h5⟩
      have hke : KE w1 W6 b8 (.bool false) (.slice none 0 0) (.int .i64 0) := HK6.out
      go_wp2_with fail
      (go_region_held_law (fun W => W.cell? ⟨bg, 0, none⟩ = some (.slice Am n cm) ∧ W.cell? ⟨bg, 1, none⟩ = some (.slice Al q cl) ∧ W.cell? ⟨b8, 0, none⟩ = some (.bool false) ∧ W.cell? ⟨b8, 1, none⟩ = some (.slice none 0 0) ∧ W.cell? ⟨b8, 2, none⟩ = some (.int .i64 0))
        (first | (refine HEC.out _ ?_; first | with_reducible assumption | (refine KE.step (by with_reducible assumption) ?_; exact (Below.refl _ _).drew)) | (refine HES.out _ ?_ _ _ _; with_reducible assumption) | fail)
        (first
          | (go_at_call 14; refine (HOF2.out _ (by first | (with_reducible refine Bl.dr ?_; (first | with_reducible assumption | (with_reducible refine Bl.al ?_ _; first | with_reducible assumption | (with_reducible refine Bl.al ?_ _; first | with_reducible assumption | (with_reducible refine Bl.al ?_ _; with_reducible assumption))))) | (first | with_reducible assumption | (with_reducible refine Bl.al ?_ _; first | with_reducible assumption | (with_reducible refine Bl.al ?_ _; first | with_reducible assumption | (with_reducible refine Bl.al ?_ _; with_reducible assumption)))))).mono ?_; rintro e w7 ⟨rfl, hb7, hb7w⟩; have hk7 := KE.step (KE.step hke (Below.refl _ _).drew) hb7w)
          | (go_at_call 47; refine (HSR.out _ (by with_reducible assumption)).mono ?_; rintro e w8 ⟨A8, m8, c8, rfl, hb8, H8⟩; have hk8 := KE.step hk7 H8.out.2)
          | (go_at_call 46; refine (HSO.out _ _ _ _ (by with_reducible assumption) (Lib.hid H8.out.1)).mono ?_; rintro e w9 ⟨A9, c9, rfl, hb9, H9⟩; have hk9 := KE.step hk8 H9.out.2; obtain ⟨_, _, hR9⟩ := HC.out w9 hb9; have HR9 := Lib.hid hR9; clear hR9; obtain ⟨r0, r1, r2, rf, rl⟩ := cell3 HR9.out)
          | fail))
      all_goals
        go_wp2
        refine bodyPost_ret (v := .tuple #[.slice A9 (sideS ls a b).length c9, eVal false none 0 0 0]) ?_ rfl ?_
        · simp [results, Tryz.results22, go_sem, r0, r1, r2, rf]
        · refine ⟨A9, c9, _, _, _, _, _, by rw [HM.out], ?_⟩
          rw [HM.out]
          have h9 := (EIs.zero w9).fin HR9.out HR.out.2.2.2.1 (HBW.out _ hb9)
          exact ⟨h9.out.1, RowAt.of_own (own_set3 H9.out.1 HR9.out _ _ _), h9.out.2, own_new H9.out.1 HR.out.2.2.1.size⟩
end
end Go.Proofs.YtlkfcfcejicdkaaGreatDoor
set_option linter.unusedSimpArgs false
set_option linter.unusedVariables false
namespace Go.Proofs.YtlkfcfcejicdkaaGreatDoor
open Go Go.RowKit

theorem wpList_append_any {P : Program} (w : World) {ops : Array Oper} {rest : List Oper} {o : Oper} {a : Act} {Q : Exit → Act → World → Prop} (hgd : o.guard = none) (s x : Operand) (t : TypeId)
    (ho : o.op = .call { callee := .builtin .append, args := #[s, x], argTypes := #[t, t] })
    (base : Nat) (e : TypeId) (i : TypeInfo) (z : Value) (size bytes : Nat) (ht : P.underlying t = some (.slice e)) (hi : P.info? e = some i) (hz : i.zero = some z)
    (hsize : i.size = size) (hby : i.bytes = bytes) (hzs : z.cells.size = size) (hsz : 0 < size)
    (v : Value) (n : Nat) (xs : List Value) (hs : a.eval s = v) (hown : w.ownsRow base e size v n xs)
    (A : Option Addr) (m c : Nat) (news : List Value) (hx : a.eval x = .slice A m c) (hA : A = none → m = 0 ∧ news = []) (hl : news.length = m * size) (hnews : ∀ ad, A = some ad → ∀ j u, news[j]? = some u → w.cell? (ad.add j) = some u) (h1 : ∀ u ∈ news, u.oneCell' = true)
    (h63 : n + m ≤ maxLen) (hbytes : (n + m) * bytes ≤ 140737488355328) (hbase : base ≤ w.heap.size)
    (h : ∀ v' w', w'.ownsRow base e size v' (n + m) (xs ++ news) → w.grownBy w' v.ownBlock → wpList P ops Q rest (a.put o.dst v') w') : wpList P ops Q (o :: rest) a w :=
  wpList_step fun K hK => step_append_any w hgd s x t ho base e i z size bytes ht hi hz hsize hby hzs hsz v n xs hs hown A m c news hx hA hl hnews h1 h63 hbytes hbase fun v' w' h2 h3 => hK _ _ (h v' w' h2 h3)
/-- What the document's search answers. -/
def PathR (W : World) (e : Ending) (w' : World) : Option (List Int) → Prop
  | none => e = .returned (.slice none 0 0) ∧ Hid (Below W.heap.size W w')
  | some p => ∃ (A : Option Addr) (c : Nat), e = .returned (.slice A p.length c) ∧ Hid (w'.ownsRow W.heap.size 3 1 (.slice A p.length c) p.length (intVs p) ∧ Below W.heap.size W w')
theorem pathF_pos {ls : List Lk} {b : Int} {f : Nat} {a : Int} {gone p : List Int} (h : pathF ls b f a gone = some p) : 0 < p.length := by
  cases f with
  | zero => simp [pathF] at h
  | succ f =>
    rw [pathF] at h
    split at h
    · obtain rfl : [b] = p := by simpa using h
      simp
    · obtain ⟨m, _, h2⟩ := List.exists_of_findSome?_eq_some h
      split at h2
      · cases h2
      · rw [Option.map_eq_some_iff] at h2
        obtain ⟨q, _, rfl⟩ := h2
        simp
theorem pathF_len {ls : List Lk} {b : Int} : ∀ {f : Nat} {a : Int} {gone p : List Int}, pathF ls b f a gone = some p → p.length ≤ f
  | 0, a, gone, p, h => by simp [pathF] at h
  | f + 1, a, gone, p, h => by
    rw [pathF] at h
    split at h
    · obtain rfl : [b] = p := by simpa using h
      simp
    · obtain ⟨m, _, h2⟩ := List.exists_of_findSome?_eq_some h
      split at h2
      · cases h2
      · rw [Option.map_eq_some_iff] at h2
        obtain ⟨q, hq, rfl⟩ := h2
        have := pathF_len hq
        simp; omega
theorem own_lit1 {w : World} {x : Int} {B : Nat} (hB : B = w.heap.size) : (w.alloc (.cells #[.int .i64 x] 3)).ownsRow w.heap.size 3 1 (.slice (some ⟨B, 0, none⟩) 1 1) 1 [.int .i64 x] := by
  subst hB
  exact World.ownsRow_lit w #[.int .i64 x] 1 (Nat.le_refl _) (by decide) (by rfl)
theorem rowat_hA {w : World} {A : Option Addr} {l : List Int} {m : Nat} (h : RowAt w A (intVs l)) (hl : l.length = m) : A = none → m = 0 ∧ intVs l = [] := fun e => by
  have hn := h.nil_len e
  have := congrArg List.length hn
  rw [intVs_len, hl] at this
  exact ⟨this, hn⟩
set_option maxRecDepth 100000 in
set_option maxHeartbeats 4000000 in
theorem rpath_any (w0 : World) (b : Int) (Am : Option Addr) (nm cm : Nat) (Al : Option Addr) (q cl : Nat) (ms : List Int) (ls : List Lk) (hl : ls.length = q) (hA : RowAt w0 Al (lkCells ls)) (hq : q ≤ 1000) (hgd : Good ms ls) :
    ∀ (f : Nat) (a : Int) (gone : List Int) (A : Option Addr) (m c : Nat) (W : World), f ≤ 9 → a ∈ ms → gone.Nodup → (∀ x ∈ gone, x ∈ ms) → a ∉ gone → 8 < f + gone.length → gone.length = m → RowAt W A (intVs gone) → Bl w0 W →
      Calls Tryz.prog 45 #[grV Am nm cm Al q cl, .int .i64 a, .int .i64 b, .slice A m c] W fun e w' => PathR W e w' (pathF ls b f a gone) := by
  have HA := Lib.hid hA
  have HN : Hid (q ≤ 1000 ∧ ls.length = q) := ⟨hq, hl⟩
  have HG := Lib.hid hgd
  clear hA hq hl hgd
  intro f
  induction f with
  | zero =>
    intro a gone A m c W hf9 ha hnd hin hna hf _ _ _
    have h2 : ∀ x ∈ a :: gone, x ∈ ms := fun x hx => by
      rcases List.mem_cons.1 hx with e | h
      · rw [e]; exact ha
      · exact hin x h
    have h3 := nodup_le (List.nodup_cons.2 ⟨hna, hnd⟩) h2
    have h4 := HG.out.small.1
    simp at h3
    omega
  | succ f ih =>
    intro a gone A m c W hf9 ha hnd hin hna hf hm hR hS
    have HIH : Hid (∀ (x : Int) (A : Option Addr) (c : Nat) (W : World), x ∈ nears ls a → x ∉ gone → RowAt W A (intVs (gone ++ [a])) → Bl w0 W → Calls Tryz.prog 45 #[grV Am nm cm Al q cl, .int .i64 x, .int .i64 b, .slice A (m + 1) c] W fun e w' => PathR W e w' (pathF ls b f x (gone ++ [a]))) := fun x A c W hx hxg hR hB => by
      have hadj := (nears_iff.1 hx).2
      have hir := HG.out.tr.irr hadj
      refine ih x (gone ++ [a]) A (m + 1) c W (by omega) hir.2.2 (List.nodup_append.2 ⟨hnd, by simp, fun y hy z hz e => ?_⟩) (fun y hy => ?_) (fun h => ?_) (by simp; omega) (by simp [hm]) hR hB
      · have e2 : z = a := by simpa using hz
        rw [e, e2] at hy; exact hna hy
      · rcases List.mem_append.1 hy with h | h
        · exact hin y h
        · have e2 : y = a := by simpa using h
          rw [e2]; exact ha
      · rcases List.mem_append.1 h with h | h
        · exact hxg h
        · have e2 : x = a := by simpa using h
          exact hir.1 e2.symm
    have hm8 : m ≤ 8 := by
      have h2 := nodup_le hnd hin
      have := HG.out.small.1
      omega
    have HF9 : Hid (f + 1 ≤ 9) := hf9
    have HM : Hid (gone.length = m ∧ m ≤ 8) := ⟨hm, hm8⟩
    have HR := Lib.hid hR
    have HS := Lib.hid hS
    clear ih hf9 ha hnd hin hna hf hm hR hS hm8
    obtain ⟨bg, hbg⟩ : ∃ b, b = W.heap.size := ⟨_, rfl⟩
    obtain ⟨w1, hw1⟩ : ∃ w1, w1 = W.alloc (.cells #[.slice Am nm cm, .slice Al q cl] 25) := ⟨_, rfl⟩
    have HB : Hid (w1.heap[bg]? = some (.cells #[.slice Am nm cm, .slice Al q cl] 25 (0, 0)) ∧ Below W.heap.size W w1 ∧ bg < w1.heap.size ∧ W.heap.size ≤ w1.heap.size) := by
      rw [hw1, hbg]; exact ⟨heap_alloc_new _ _, (Below.refl _ _).alloc (Nat.le_refl _) _, by simp, by simp⟩
    have HC : Hid (∀ X, Bl w1 X → X.cell? ⟨bg, 0, none⟩ = some (.slice Am nm cm) ∧ X.cell? ⟨bg, 1, none⟩ = some (.slice Al q cl)) := fun X hX => by
      obtain ⟨h1, h2, _⟩ := cell2 ((Below.block hX bg HB.out.2.2.1).trans HB.out.1)
      exact ⟨h1, h2⟩
    have HW : Hid (∀ X, Bl w1 X → Below W.heap.size W X) := fun X hX => HB.out.2.1.trans (Below.mono hX HB.out.2.2.2)
    by_cases hnb : a = b
    · have HF : Hid (pathF ls b (f + 1) a gone = some [b]) := by rw [pathF, if_pos hnb]; rfl
      have e1 : (a == b) = true := by simpa using hnb
      have HO : Hid ((w1.alloc (.cells #[.int .i64 b] 3)).ownsRow w1.heap.size 3 1 (.slice (some ⟨w1.heap.size, 0, none⟩) 1 1) 1 [.int .i64 b] ∧ Bl w1 (w1.alloc (.cells #[.int .i64 b] 3))) := ⟨own_lit1 rfl, (Bl.refl _).al _⟩
      clear hnb HIH
      go_enter Tryz.func45, Tryz.ntmps45
      go_wp2
      rw [← hw1]
      refine bodyPost_ret (v := .slice (some ⟨w1.heap.size, 0, none⟩) 1 1) (by rw [hw1]; simp [results, Tryz.results45, go_sem]) rfl ?_
      rw [HF.out]
      exact ⟨some ⟨w1.heap.size, 0, none⟩, 1, rfl, ownsRow_mono HO.out.1 HB.out.2.2.2, HW.out _ HO.out.2⟩
    · have HF : Hid (pathF ls b (f + 1) a gone = (nears ls a).findSome? fun x => if x ∈ gone then none else (pathF ls b f x (gone ++ [a])).map (a :: ·)) := by rw [pathF, if_neg hnb]; rfl
      have e1 : (a == b) = false := by simpa using hnb
      obtain ⟨kn, hkn⟩ : ∃ kn, Hid ((nears ls a).length = kn ∧ kn ≤ 8) := ⟨_, rfl, List.length_filter_le _ _⟩
      have HNE : Hid (Calls Tryz.prog 42 #[grV Am nm cm Al q cl, .int .i64 a] w1 fun e w' => ∃ (A : Option Addr) (c : Nat), e = .returned (.slice A kn c) ∧ Hid (RowAt w' A (intVs (nears ls a)) ∧ Bl w1 w')) := by
        have hg := HG.out
        rw [← hkn.out.1]
        refine (rnear_any Am nm cm Al q cl ls a w1 HN.out.2 ((HA.out.below HS.out).below HB.out.2.1) HN.out.1 fun k hk => ⟨(hg.ls_.2 k hk).1, hg.ms_.2 _ (hg.ls_.2 k hk).2.1, hg.ms_.2 _ (hg.ls_.2 k hk).2.2⟩).mono ?_
        rintro e w' ⟨A, c, rfl, h⟩
        exact ⟨A, c, rfl, h.out.1, h.out.2⟩
      obtain ⟨i0, hi, hz0, hz1, hz2⟩ := info_parts int_info
      clear hnb
      go_enter Tryz.func45, Tryz.ntmps45
      go_wp2_with fail
      rw [← hw1, ← hbg]
      clear hw1 hbg
      refine HNE.out.mono ?_
      rintro e w7 ⟨A5, c5, rfl, H7⟩
      clear HNE
      go_wp2
      go_loopw [22] (fun i wr => ∃ (j : Nat), j ≤ kn ∧ i = .int .i64 j ∧ Hid ((∀ x ∈ (nears ls a).take j, (if x ∈ gone then none else (pathF ls b f x (gone ++ [a])).map (a :: ·)) = none) ∧ Bl w7 wr)) (fun i _ => kn - (intOf i).toNat)
      case atStart => exact ⟨0, Nat.zero_le _, rfl, by simp, Bl.refl _⟩
      case round =>
        obtain ⟨j, hj, rfl, HL⟩ := hrel
        have HBL : Hid (Bl w1 wr) := bchain H7.out.2 HL.out.2
        by_cases hlt : j < kn
        · obtain ⟨x, hx⟩ : ∃ x, Hid ((nears ls a)[j]? = some x) := ⟨_, List.getElem?_eq_getElem (by have := hkn.out; omega)⟩
          have hw1 : IntKind.i64.wrap ((j : Int) + 1) = ((j + 1 : Nat) : Int) := by have := hkn.out; rw [IntKind.wrap_i64]; omega
          have hj0 : ((0 : Int) ≤ j) := by omega
          have hj1 : ((j : Nat) : Int) < kn := by omega
          obtain ⟨g, off, rfl, x0, hg⟩ := (H7.out.1.below HL.out.2).int hx.out
          have HRR : Hid (∀ X, Bl w1 X → RowAt X A (intVs gone)) := fun X hX => HR.out.below (HW.out X hX)
          have HH : Hid (Calls Tryz.prog 16 #[.slice A m c, .int .i64 x] wr fun e w' => e = .returned (.bool (decide (x ∈ gone))) ∧ wr = w') := (rhas_any A m c gone x wr HM.out.1 (HRR.out _ HBL.out) (by have := HM.out.2; omega)).mono fun _ _ h => ⟨h.1, h.2.symm⟩
          by_cases hxg : x ∈ gone
          · rw [decide_eq_true hxg] at HH
            have HX := Lib.hid hxg
            clear hxg
            go_wp2_with fail
            refine HH.out.mono ?_
            rintro e w8 ⟨rfl, rfl⟩
            go_wp2
            exact ⟨⟨j + 1, hlt, by go_num, mem_take_all hx.out HL.out.1 (by rw [if_pos HX.out]), HL.out.2⟩, by simp [intOf]; omega⟩
          · rw [decide_eq_false hxg] at HH
            have HX := Lib.hid hxg
            clear hxg
            have HMX : Hid (0 + m ≤ maxLen ∧ (0 + m) * 8 ≤ 140737488355328 ∧ m + 1 ≤ maxLen ∧ (m + 1) * 8 ≤ 140737488355328) := ⟨Nat.le_trans (show 0 + m ≤ 8 by have := HM.out; omega) (by decide), by have := HM.out; omega, Nat.le_trans (show m + 1 ≤ 9 by have := HM.out; omega) (by decide), by have := HM.out; omega⟩
            have HL1 : Hid ((intVs gone).length = m * 1) := by rw [Hid, intVs_len, HM.out.1, Nat.mul_one]
            have HRH : Hid (A = none → m = 0 ∧ intVs gone = []) := rowat_hA HR.out HM.out.1
            have HNW : Hid (∀ ad, A = some ad → ∀ j u, (intVs gone)[j]? = some u → wr.cell? (ad.add j) = some u) := (HRR.out _ HBL.out).newsA
            have HSZ : Hid (w7.heap.size ≤ wr.heap.size) := Below.size HL.out.2
            have HBX : Hid (∀ w8, wr.grownBy w8 (Value.slice none 0 0).ownBlock → Below wr.heap.size wr w8) := fun w8 hg => Below.grown (Below.refl _ _) hg (Nat.le_refl _) fun k hk => by simp [Value.ownBlock] at hk
            have HC7 : Hid (∀ X, Bl w7 X → X.cell? ⟨bg, 0, none⟩ = some (.slice Am nm cm) ∧ X.cell? ⟨bg, 1, none⟩ = some (.slice Al q cl)) := fun X hX => HC.out X (bchain H7.out.2 hX)
            go_wp2_with fail
            refine HH.out.mono ?_
            rintro e w8 ⟨rfl, rfl⟩
            go_wp2_with (at_builtin; refine wpList_append_any _ rfl _ _ 22 rfl w7.heap.size 3 i0 (.int .i64 0) 1 8 Tryz.underlying22 hi hz0 hz1 hz2 rfl (by decide) (.slice none 0 0) 0 [] rfl (World.ownsRow_nil _ _ _ _) A m c (intVs gone) rfl HRH.out HL1.out HNW.out (intVs_one _) HMX.out.1 HMX.out.2.1 HSZ.out ?_; intro v8 w8 hown8 hgrow8; obtain ⟨A8, c8, rfl⟩ := own_slice hown8; rw [Nat.zero_add, List.nil_append] at hown8)
            have HB8 : Hid (Bl w7 w8 ∧ w8.ownsRow w7.heap.size 3 1 (.slice A8 m c8) m (intVs gone)) := ⟨bchain HL.out.2 (HBX.out _ hgrow8), hown8⟩
            have hbl8 : Bl w7 w8 := HB8.out.1
            clear hown8 hgrow8 HBX HNW HH
            obtain ⟨c0, c1⟩ := HC7.out w8 hbl8
            have HIX : Hid (∀ (A : Option Addr) (c : Nat) X, Bl w7 X → X.ownsRow w7.heap.size 3 1 (.slice A (m + 1) c) (m + 1) (intVs gone ++ [.int .i64 a]) → Calls Tryz.prog 45 #[grV Am nm cm Al q cl, .int .i64 x, .int .i64 b, .slice A (m + 1) c] X fun e w' => PathR X e w' (pathF ls b f x (gone ++ [a]))) := fun A c X hX ho => by
              have e : intVs gone ++ [.int .i64 a] = intVs (gone ++ [a]) := by rw [intVs_append]; rfl
              rw [e] at ho
              exact HIH.out x A c X (List.mem_of_getElem? hx.out) HX.out (RowAt.of_own ho) (bchain (bchain (bchain HS.out HB.out.2.1) H7.out.2) hX)
            have HN1 : Hid (∀ X : World, ∀ j u, [Value.int .i64 a][j]? = some u → (X.alloc (.cells #[.int .i64 a] 3)).cell? ((⟨X.heap.size, 0, none⟩ : Addr).add j) = some u) := fun X => new1 X _ _ _ rfl
            have HO8 : Hid ((w8.alloc (.cells #[.int .i64 a] 3)).ownsRow w7.heap.size 3 1 (.slice A8 m c8) m (intVs gone) ∧ w7.heap.size ≤ (w8.alloc (.cells #[.int .i64 a] 3)).heap.size) := ⟨HB8.out.2.alloc _, Nat.le_trans (Below.size hbl8) (by simp)⟩
            have HG7 : Hid (∀ w9 : World, (w8.alloc (.cells #[.int .i64 a] 3)).grownBy w9 (Value.slice A8 m c8).ownBlock → Bl w7 w9) := fun w9 h => below_push (hbl8.al _) HO8.out.1 HO8.out.2 h
            have HG7d : Hid (∀ w9 : World, (w8.alloc (.cells #[.int .i64 a] 3)).drew.grownBy w9 (Value.slice A8 m c8).ownBlock → Bl w7 w9) := fun w9 h => below_push (hbl8.al _).dr (own_dr HO8.out.1) HO8.out.2 h
            have hcf : Hid (∀ p, pathF ls b f x (gone ++ [a]) = some p → pathF ls b (f + 1) a gone = some (a :: p)) := fun p hp => by
              rw [HF.out]
              exact findSome_take hx.out HL.out.1 (by rw [if_neg HX.out, hp]; rfl)
            cases hpf : pathF ls b f x (gone ++ [a]) with
            | none =>
              rw [hpf] at HIX
              have HNO : Hid ((if x ∈ gone then none else (pathF ls b f x (gone ++ [a])).map (a :: ·)) = none) := by rw [if_neg HX.out, hpf]; rfl
              clear hpf hcf
              go_wp2_with fail
              (go_region_held_law (fun W => W.cell? ⟨bg, 0, none⟩ = some (.slice Am nm cm) ∧ W.cell? ⟨bg, 1, none⟩ = some (.slice Al q cl))
                (first | (refine HC7.out _ ?_; (first | (with_reducible refine Bl.dr ?_; (first | with_reducible assumption | (with_reducible refine Bl.al ?_ _; first | with_reducible assumption | (with_reducible refine Bl.al ?_ _; first | with_reducible assumption | (with_reducible refine Bl.al ?_ _; with_reducible assumption))))) | (first | with_reducible assumption | (with_reducible refine Bl.al ?_ _; first | with_reducible assumption | (with_reducible refine Bl.al ?_ _; first | with_reducible assumption | (with_reducible refine Bl.al ?_ _; with_reducible assumption))))); done) | fail)
                (first
                  | (refine step_append_own _ (by rfl) _ _ _ (by rfl) w7.heap.size 3 i0 (.int .i64 0) 1 8 Tryz.underlying22 hi hz0 hz1 hz2 rfl (by decide) (.slice A8 m c8) m (intVs gone) (by rfl) (by first | exact HO8.out.1 | exact own_dr HO8.out.1) ⟨w8.heap.size, 0, none⟩ 1 1 [.int .i64 a] (by rfl) rfl (by exact HN1.out w8) (by simp [Value.oneCell']) HMX.out.2.2.1 HMX.out.2.2.2 (by exact HO8.out.2) ?_; intro v9 w9 hown9 hgrow9; obtain ⟨A9, c9, rfl⟩ := own_slice hown9; have hbl9 : Bl w7 w9 := (by first | exact HG7.out w9 hgrow9 | exact HG7d.out w9 hgrow9))
                  | (go_at_call 45; refine (HIX.out _ _ _ (by with_reducible assumption) hown9).mono ?_; rintro e w10 ⟨rfl, H10⟩; have hbl10 : Bl w7 w10 := bchain hbl9 H10.out)
                  | fail))
              all_goals
                go_wp2
                exact ⟨⟨j + 1, hlt, by go_num, mem_take_all hx.out HL.out.1 HNO.out, hbl10⟩, by simp [intOf]; omega⟩
            | some p =>
              rw [hpf] at HIX
              have HYES := Lib.hid (hcf.out p hpf)
              have HPL : Hid (0 < p.length ∧ p.length ≤ 9) := ⟨pathF_pos hpf, by have := pathF_len hpf; have := HF9.out; omega⟩
              obtain ⟨kp, hkp⟩ : ∃ kp, Hid (p.length = kp) := ⟨_, rfl⟩
              have HMP : Hid (1 + kp ≤ maxLen ∧ (1 + kp) * 8 ≤ 140737488355328) := ⟨Nat.le_trans (show 1 + kp ≤ 10 by have := HPL.out; rw [hkp.out] at this; omega) (by decide), by have := HPL.out; rw [hkp.out] at this; omega⟩
              have hkp0 : 0 < kp := by have := HPL.out; rw [hkp.out] at this; omega
              have HIY : Hid (∀ (A : Option Addr) (c : Nat) X, Bl w7 X → X.ownsRow w7.heap.size 3 1 (.slice A (m + 1) c) (m + 1) (intVs gone ++ [.int .i64 a]) → Calls Tryz.prog 45 #[grV Am nm cm Al q cl, .int .i64 x, .int .i64 b, .slice A (m + 1) c] X fun e w' => ∃ (A : Option Addr) (c : Nat), e = .returned (.slice A kp c) ∧ Hid (w'.ownsRow X.heap.size 3 1 (.slice A kp c) kp (intVs p) ∧ Below X.heap.size X w')) := fun A c X hX ho => by
                have := HIX.out A c X hX ho
                rw [← hkp.out]
                exact this
              have HLP : Hid ((intVs p).length = kp * 1) := by rw [Hid, intVs_len, hkp.out, Nat.mul_one]
              have HFI : Hid (∀ (w10 w11 : World) (A11 : Option Addr) (c11 : Nat), Bl w7 w10 → (w10.alloc (.cells #[.int .i64 a] 3)).grownBy w11 (Value.slice (some ⟨w10.heap.size, 0, none⟩) 1 1).ownBlock → w11.ownsRow w10.heap.size 3 1 (.slice A11 (1 + kp) c11) (1 + kp) ([.int .i64 a] ++ intVs p) → PathR W (.returned (.slice A11 (1 + kp) c11)) w11 (pathF ls b (f + 1) a gone)) := fun w10 w11 A11 c11 h1 h2 h3 => by
                rw [HYES.out]
                have hs : W.heap.size ≤ w10.heap.size := (HW.out w10 (bchain H7.out.2 h1)).size
                refine ⟨A11, c11, by rw [List.length_cons, hkp.out, Nat.add_comm], ?_, (HW.out w10 (bchain H7.out.2 h1)).trans (Below.mono ?_ hs)⟩
                · rw [List.length_cons, hkp.out, Nat.add_comm kp 1]
                  exact ownsRow_mono h3 hs
                · exact below_push ((Below.refl _ _).alloc (Nat.le_refl _) _) (own_lit1 (x := a) rfl) (by simp) h2
              clear hpf hcf HIX
              go_wp2_with fail
              (go_region_held_law (fun W => W.cell? ⟨bg, 0, none⟩ = some (.slice Am nm cm) ∧ W.cell? ⟨bg, 1, none⟩ = some (.slice Al q cl))
                (first | (refine HC7.out _ ?_; (first | (with_reducible refine Bl.dr ?_; (first | with_reducible assumption | (with_reducible refine Bl.al ?_ _; first | with_reducible assumption | (with_reducible refine Bl.al ?_ _; first | with_reducible assumption | (with_reducible refine Bl.al ?_ _; with_reducible assumption))))) | (first | with_reducible assumption | (with_reducible refine Bl.al ?_ _; first | with_reducible assumption | (with_reducible refine Bl.al ?_ _; first | with_reducible assumption | (with_reducible refine Bl.al ?_ _; with_reducible assumption))))); done) | fail)
                (first
                  | (refine step_append_own _ (by rfl) _ _ _ (by rfl) w7.heap.size 3 i0 (.int .i64 0) 1 8 Tryz.underlying22 hi hz0 hz1 hz2 rfl (by decide) (.slice A8 m c8) m (intVs gone) (by rfl) (by first | exact HO8.out.1 | exact own_dr HO8.out.1) ⟨w8.heap.size, 0, none⟩ 1 1 [.int .i64 a] (by rfl) rfl (by exact HN1.out w8) (by simp [Value.oneCell']) HMX.out.2.2.1 HMX.out.2.2.2 (by exact HO8.out.2) ?_; intro v9 w9 hown9 hgrow9; obtain ⟨A9, c9, rfl⟩ := own_slice hown9; have hbl9 : Bl w7 w9 := (by first | exact HG7.out w9 hgrow9 | exact HG7d.out w9 hgrow9))
                  | (go_at_call 45; refine (HIY.out _ _ _ (by with_reducible assumption) hown9).mono ?_; rintro e w10 ⟨A10, c10, rfl, H10⟩; have hbl10 : Bl w7 w10 := bchain hbl9 H10.out.2)
                  | fail))
              all_goals
                have HRO := Lib.hid (RowAt.of_own H10.out.1)
                have HNP : Hid (∀ ad, A10 = some ad → ∀ j u, (intVs p)[j]? = some u → (w10.alloc (.cells #[.int .i64 a] 3)).cell? (ad.add j) = some u) := (HRO.out.below ((Below.refl _ _).alloc (Nat.le_refl _) _)).newsA
                have HAP : Hid (A10 = none → kp = 0 ∧ intVs p = []) := rowat_hA HRO.out hkp.out
                have hkpI : (0 : Int) < (kp : Int) := by omega
                have HOL : Hid ((w10.alloc (.cells #[.int .i64 a] 3)).ownsRow w10.heap.size 3 1 (.slice (some ⟨w10.heap.size, 0, none⟩) 1 1) 1 [.int .i64 a] ∧ w10.heap.size ≤ (w10.alloc (.cells #[.int .i64 a] 3)).heap.size) := ⟨own_lit1 rfl, by simp⟩
                go_wp2_with (at_builtin; refine wpList_append_any _ rfl _ _ 22 rfl w10.heap.size 3 i0 (.int .i64 0) 1 8 Tryz.underlying22 hi hz0 hz1 hz2 rfl (by decide) (.slice (some ⟨w10.heap.size, 0, none⟩) 1 1) 1 _ rfl HOL.out.1 A10 kp c10 (intVs p) rfl HAP.out HLP.out HNP.out (intVs_one _) HMP.out.1 HMP.out.2 HOL.out.2 ?_; intro v11 w11 hown11 hgrow11; obtain ⟨A11, c11, rfl⟩ := own_slice hown11; have H11 := HFI.out _ _ _ _ hbl10 hgrow11 hown11)
                refine bodyPost_ret (v := .slice A11 (1 + kp) c11) ?_ rfl ?_
                · simp [results, Tryz.results45, go_sem]
                · exact H11
        · have hjn : j = kn := by omega
          subst hjn
          have hall : (nears ls a).take j = nears ls a := by rw [← hkn.out.1]; exact List.take_length
          have HNO : Hid (pathF ls b (f + 1) a gone = none) := by
            have h1 := HL.out.1
            rw [hall] at h1
            rw [Hid, HF.out]
            exact List.findSome?_eq_none_iff.2 h1
          go_wp2
          go_ret
          rw [HNO.out]
          exact ⟨rfl, HW.out _ HBL.out⟩
section
variable (Am : Option Addr) (n cm : Nat) (Al : Option Addr) (q cl : Nat) (ms : List Int) (ls : List Lk) (a b : Int) (w : World)
set_option maxRecDepth 100000 in
set_option maxHeartbeats 4000000 in
theorem rPath_any (hG : GrAt w Am n Al q ms ls) (hn : n ≤ 1000) (hq : q ≤ 1000) :
    Calls Tryz.prog 21 #[grV Am n cm Al q cl, .int .i64 a, .int .i64 b] w fun e w' => GivesLE w e w' (wayP ms ls a b).1 (wayP ms ls a b).2 := by
  have HG := Lib.hid hG
  have HN : Hid (n ≤ 1000 ∧ q ≤ 1000) := ⟨hn, hq⟩
  clear hG hn hq
  obtain ⟨bg, hbg⟩ : ∃ b, b = w.heap.size := ⟨_, rfl⟩
  obtain ⟨b5, hb5⟩ : ∃ b, b = w.heap.size + 1 := ⟨_, rfl⟩
  obtain ⟨b2, hb2⟩ : ∃ b, b = w.heap.size + 1 + 1 := ⟨_, rfl⟩
  obtain ⟨w1, hw1⟩ : ∃ w1, w1 = ((w.alloc (.cells #[.slice Am n cm, .slice Al q cl] 25)).alloc (.cells #[.bool false, .slice none 0 0, .int .i64 0] 43)).alloc (.cells #[.int .i64 a, .int .i64 b] 3) := ⟨_, rfl⟩
  have HA := Lib.hid (alloc3 w (.cells #[.slice Am n cm, .slice Al q cl] 25) (.cells #[.bool false, .slice none 0 0, .int .i64 0] 43) (.cells #[.int .i64 a, .int .i64 b] 3))
  rw [← hw1, ← hb2, ← hb5, ← hbg] at HA
  have HR : Hid (w1.heap[bg]? = some (.cells #[.slice Am n cm, .slice Al q cl] 25 (0, 0)) ∧ w1.heap[b5]? = some (.cells #[.bool false, .slice none 0 0, .int .i64 0] 43 (0, 0)) ∧ Below w.heap.size w w1 ∧ w.heap.size ≤ b5 ∧ b5 < w1.heap.size ∧ bg < w1.heap.size) := ⟨HA.out.1, HA.out.2.1, by rw [← hbg]; exact HA.out.2.2.2.2, by omega, by have := HA.out.2.2.2.1; omega, by have := HA.out.2.2.2.1; omega⟩
  have HCM := Lib.hid (rmembers_any Am n cm Al q cl ms ls (some ⟨b2, 0, none⟩) 2 2 [a, b] w1 (HG.out.below HR.out.2.2.1) HN.out.1 HN.out.2 rfl (.inr ⟨b2, 0, rfl, fun j u hu => by
    match j, hu with
    | 0, hu =>
      cases hu
      exact (cell2 (show w1.heap[b2]? = some (.cells #[.int .i64 a, .int .i64 b] 3 (0, 0)) from HA.out.2.2.1)).1
    | 1, hu =>
      cases hu
      exact (cell2 (show w1.heap[b2]? = some (.cells #[.int .i64 a, .int .i64 b] 3 (0, 0)) from HA.out.2.2.1)).2.1⟩) (by decide))
  clear HA
  have HC : Hid (∀ W, Bl w1 W → W.cell? ⟨bg, 0, none⟩ = some (.slice Am n cm) ∧ W.cell? ⟨bg, 1, none⟩ = some (.slice Al q cl) ∧ W.heap[b5]? = some (.cells #[.bool false, .slice none 0 0, .int .i64 0] 43 (0, 0))) := fun W hW => by
    obtain ⟨a1, a2, _⟩ := cell2 ((Below.block hW bg HR.out.2.2.2.2.2).trans HR.out.1)
    exact ⟨a1, a2, (Below.block hW b5 HR.out.2.2.2.2.1).trans HR.out.2.1⟩
  go_enter Tryz.func21, Tryz.ntmps21
  go_wp2_with fail
  rw [← hw1, ← hb2, ← hb5, ← hbg]
  clear hw1 hbg hb2 hb5
  refine HCM.out.mono ?_
  rintro e w2 ⟨b0, A0, m0, c0_1, i0, rfl, HE⟩
  have HB2 : Hid (Bl w1 w2) := HE.out.2
  obtain ⟨b8, hb8⟩ : ∃ b, b = w2.heap.size := ⟨_, rfl⟩
  obtain ⟨n58, n85⟩ : ¬ (b5 = b8) ∧ ¬ (b8 = b5) := by
    have := HR.out; have := HB2.out.size; exact ⟨by omega, by omega⟩
  have HBW : Hid (∀ W, Bl w1 W → Below w.heap.size w W) := fun W hW => HR.out.2.2.1.trans (Below.mono hW HR.out.2.2.1.size)
  obtain ⟨c0, c1, hR2⟩ := HC.out w2 HB2.out
  obtain ⟨r0, r1, r2, rf, rl⟩ := cell3 hR2
  have l1 : bg < w2.heap.size := Nat.lt_of_lt_of_le HR.out.2.2.2.2.2 HB2.out.size
  have n1 : ¬ (bg = w2.heap.size) := by omega
  have n1' : ¬ (w2.heap.size = bg) := by omega
  cases hc : membersE ms ls [a, b] with
  | some er =>
    rw [hc] at HE
    obtain rfl : b0 = true := HE.out.1.bad
    have HM : Hid (wayP ms ls a b = (some er, [])) := by unfold wayP; rw [hc]; rfl
    clear hc HCM
    go_wp2_with fail
    obtain ⟨w5, hw5⟩ : ∃ w5, w5 = w2.alloc (.cells #[.bool true, .slice A0 m0 c0_1, .int .i64 i0] 43) := ⟨_, rfl⟩
    have HK5 : Hid (KE w1 w5 b8 (.bool true) (.slice A0 m0 c0_1) (.int .i64 i0)) := by rw [hw5]; exact KE.fresh HB2.out hb8
    have HE5 : Hid (EIs w5 (eVal true A0 m0 c0_1 i0) (some er)) := by rw [hw5]; exact HE.out.1.below ((Below.refl _ _).alloc (Nat.le_refl _) _)
    rw [← hw5, ← hb8]
    clear hw5 hb8 c0 c1 r0 r1 r2 rf rl hR2 l1 n1 n1'
    obtain ⟨k0, k1, k2, kf, kl⟩ := cell3 HK5.out.e8
    obtain ⟨c0, c1, hR5⟩ := HC.out w5 HK5.out.old
    have HR5 := Lib.hid hR5
    clear hR5
    obtain ⟨r0, r1, r2, rf, rl⟩ := cell3 HR5.out
    go_region
    all_goals
      go_wp2
      refine bodyPost_ret (v := .tuple #[.slice none 0 0, eVal true A0 m0 c0_1 i0]) ?_ rfl ?_
      · simp [results, Tryz.results21, go_sem, r0, r1, r2, rf, n58, n85, k0, k1, k2, kf]
      · refine ⟨none, 0, _, _, _, _, _, by rw [HM.out]; rfl, ?_⟩
        rw [HM.out]
        have key : ∀ X : World, X.heap = (((w5.setCell ⟨b5, 0, none⟩ (.bool true)).setCell ⟨b5, 1, none⟩ (.slice A0 m0 c0_1)).setCell ⟨b5, 2, none⟩ (.int .i64 i0)).heap → X.os = w5.os → X.tape = w5.tape → X.output = w5.output → Hid (EIs X (eVal true A0 m0 c0_1 i0) (some er) ∧ RowAt X none (intVs []) ∧ Below w.heap.size w X ∧ NewA w.heap.size none) := fun X x1 x2 x3 x4 => by
          have h9 := HE5.out.finX HR5.out HR.out.2.2.2.1 (HBW.out _ HK5.out.old) x1 x2 x3 x4
          exact ⟨h9.out.1, .nil, h9.out.2, fun a e => by cases e⟩
        exact key _ rfl rfl rfl rfl
  | none =>
    have HGD := Lib.hid (members_good hc)
    rw [hc] at HE
    have hz := HE.out.1
    obtain ⟨rfl, ⟨rfl, rfl, rfl⟩, rfl⟩ : b0 = false ∧ (A0 = none ∧ m0 = 0 ∧ c0_1 = 0) ∧ i0 = 0 := by
      have := hz
      simpa [EIs] using this
    obtain ⟨p, hp1, hp2, hway⟩ := ways_same HGD.out.1.ms_.2 HGD.out.1.tr (HGD.out.2 a (by simp)) (HGD.out.2 b (by simp)) (f := 9) (g := 9) (by omega) (by omega)
    have HM : Hid (wayP ms ls a b = (none, p)) := by unfold wayP; rw [hc, hp1]; rfl
    have HP : Hid (pathF ls b 9 a [] = some p) := hp2
    clear hz hc HCM hp1 hp2 hway
    go_wp2_with fail
    obtain ⟨w5, hw5⟩ : ∃ w5, w5 = w2.alloc (.cells #[.bool false, .slice none 0 0, .int .i64 0] 43) := ⟨_, rfl⟩
    have HK5 : Hid (KE w1 w5 b8 (.bool false) (.slice none 0 0) (.int .i64 0)) := by rw [hw5]; exact KE.fresh HB2.out hb8
    rw [← hw5, ← hb8]
    clear hw5 hb8 c0 c1 r0 r1 r2 rf rl hR2 l1 n1 n1'
    obtain ⟨k0, k1, k2, kf, kl⟩ := cell3 HK5.out.e8
    obtain ⟨c0, c1, hR5⟩ := HC.out w5 HK5.out.old
    have HR5 := Lib.hid hR5
    clear hR5
    obtain ⟨r0, r1, r2, rf, rl⟩ := cell3 HR5.out
    have hcall := rpath_any w b Am n cm Al q cl ms ls HG.out.llen HG.out.lrow HN.out.2 HGD.out.1 9 a [] none 0 0 w5 (by omega) (HGD.out.2 a (by simp)) (by simp) (by simp) (by simp) (by simp) rfl (.nil) (HBW.out w5 HK5.out.old)
    rw [HP.out] at hcall
    refine hcall.mono ?_
    rintro e w6 ⟨A6, c6, rfl, H6⟩
    have HB6 : Hid (Bl w1 w6) := bchain HK5.out.old H6.out.2
    clear hcall k0 k1 k2 kf kl c0 c1 r0 r1 r2 rf rl
    obtain ⟨c0, c1, hR6⟩ := HC.out w6 HB6.out
    have HR6 := Lib.hid hR6
    clear hR6
    obtain ⟨r0, r1, r2, rf, rl⟩ := cell3 HR6.out
    go_wp2
    refine bodyPost_ret (v := .tuple #[.slice A6 p.length c6, eVal false none 0 0 0]) ?_ rfl ?_
    · simp [results, Tryz.results21, go_sem, r0, r1, r2, rf]
    · refine ⟨A6, c6, _, _, _, _, _, by rw [HM.out], ?_⟩
      rw [HM.out]
      have h9 := (EIs.zero w6).fin HR6.out HR.out.2.2.2.1 (HBW.out _ HB6.out)
      exact ⟨h9.out.1, RowAt.of_own (own_set3 H6.out.1 HR6.out _ _ _), h9.out.2, own_new H6.out.1 (HBW.out w5 HK5.out.old).size⟩
end
end Go.Proofs.YtlkfcfcejicdkaaGreatDoor
set_option linter.unusedSimpArgs false
set_option linter.unusedVariables false
namespace Go.Proofs.YtlkfcfcejicdkaaGreatDoor
open Go Go.RowKit

section
set_option maxHeartbeats 2000000 in
theorem links_same (A B : Option Addr) (n c d : Nat) (l : List Lk) (w : World) (hl : l.length = n) (hA : RowAt w A (lkCells l)) (hB : RowAt w B (lkCells l)) (hn : n ≤ 4611686018427387904) :
    Calls Tryz.prog 33 #[.slice A n c, .slice B n d] w fun e w' => e = .returned (.bool true) ∧ Below w.heap.size w w' := by
  have HA := Lib.hid hA
  have HB := Lib.hid hB
  have HN : Hid (n ≤ 4611686018427387904 ∧ l.length = n) := ⟨hn, hl⟩
  clear hA hB hn hl
  go_enter Tryz.func33, Tryz.ntmps33
  go_wp2
  go_loopw [13] (fun i wr => ∃ (j : Nat), j ≤ n ∧ i = .int .i64 j ∧ Hid (Below w.heap.size w wr)) (fun i _ => n - (intOf i).toNat)
  case atStart => exact ⟨0, Nat.zero_le _, rfl, Below.refl _ _⟩
  case round =>
    obtain ⟨j, hj, rfl, HS⟩ := hrel
    by_cases hlt : j < n
    · obtain ⟨y, hy⟩ : ∃ y, Hid (l[j]? = some y) := ⟨_, List.getElem?_eq_getElem (by have := HN.out; omega)⟩
      obtain ⟨g, off, rfl, d0, d1, hg⟩ := (HA.out.below HS.out).lk hy.out
      obtain ⟨g2, off2, rfl, f0, f1, hg2⟩ := (HB.out.below HS.out).lk hy.out
      obtain ⟨y1, hy1⟩ : ∃ x, Hid (y.1 = x) := ⟨_, rfl⟩
      obtain ⟨y2, hy2⟩ : ∃ x, Hid (y.2 = x) := ⟨_, rfl⟩
      rw [hy1.out] at d0 f0
      rw [hy2.out] at d1 f1
      have hw1 : IntKind.i64.wrap ((j : Int) + 1) = ((j + 1 : Nat) : Int) := by have := HN.out; rw [IntKind.wrap_i64]; omega
      have hj0 : ((0 : Int) ≤ j) := by omega
      have hj1 : ((j : Nat) : Int) < n := by omega
      have heq2 : ∀ w, (Op.equalIn 10000 35 (.agg #[.int .i64 y1, .int .i64 y2]) (.agg #[.int .i64 y1, .int .i64 y2])).run Tryz.prog w = .ok true w := fun w => by rw [lk_equal]; simp
      go_wp2
      go_quiet (fail)
      go_wp2
      exact ⟨⟨j + 1, hlt, by go_num, bdrewN HS.out _⟩, by simp [intOf]; omega⟩
    · have hjn : j = n := by omega
      subst hjn
      go_wp2
      go_ret
      exact ⟨rfl, HS.out⟩
theorem same_any (Am Bm : Option Addr) (n cm dm : Nat) (Al Bl : Option Addr) (q cl dl : Nat) (ms : List Int) (ls : List Lk) (w : World) (hG : GrAt w Am n Al q ms ls) (hH : GrAt w Bm n Bl q ms ls) (hn : n ≤ 4611686018427387904) (hq : q ≤ 4611686018427387904) :
    Calls Tryz.prog 25 #[grV Am n cm Al q cl, grV Bm n dm Bl q dl] w fun e w' => e = .returned (.bool true) ∧ Below w.heap.size w w' := by
  obtain ⟨W1, hW1⟩ : ∃ W1, W1 = (w.alloc (.cells #[.slice Am n cm, .slice Al q cl] 25)).alloc (.cells #[.slice Bm n dm, .slice Bl q dl] 25) := ⟨_, rfl⟩
  obtain ⟨b1, hb1⟩ : ∃ b, b = w.heap.size := ⟨_, rfl⟩
  obtain ⟨b2, hb2⟩ : ∃ b, b = w.heap.size + 1 := ⟨_, rfl⟩
  have HW : Hid (Below w.heap.size w W1 ∧ W1.heap[b1]? = some (.cells #[.slice Am n cm, .slice Al q cl] 25 (0, 0)) ∧ W1.heap[b2]? = some (.cells #[.slice Bm n dm, .slice Bl q dl] 25 (0, 0))) := by
    rw [hW1, hb1, hb2]
    refine ⟨((Below.refl _ _).alloc (Nat.le_refl _) _).alloc (by simp) _, by rw [Below.heap_alloc _ _ _ (by simp)]; exact heap_alloc_new _ _, ?_⟩
    have := heap_alloc_new (w.alloc (.cells #[.slice Am n cm, .slice Al q cl] 25)) (.cells #[.slice Bm n dm, .slice Bl q dl] 25)
    simpa using this
  have HI := Lib.hid (ints_same Am Bm n cm dm ms W1 hG.mlen (hG.mrow.below HW.out.1) (hH.mrow.below HW.out.1) hn)
  have HL : Hid (∀ W, Below w.heap.size w W → Calls Tryz.prog 33 #[.slice Al q cl, .slice Bl q dl] W fun e w' => e = .returned (.bool true) ∧ Below W.heap.size W w') := fun W hW => links_same Al Bl q cl dl ls W hG.llen (hG.lrow.below hW) (hH.lrow.below hW) hq
  clear hG hH hn hq
  go_enter Tryz.func25, Tryz.ntmps25
  go_wp2_with fail
  rw [← hW1, ← hb2, ← hb1]
  clear hW1 hb1 hb2
  refine HI.out.mono ?_
  rintro e w5 ⟨rfl, hb5⟩
  obtain ⟨x0, x1, _, _⟩ := cell2 ((hb5.block b1 (Array.getElem?_eq_some_iff.1 HW.out.2.1).1).trans HW.out.2.1)
  obtain ⟨y0, y1, _, _⟩ := cell2 ((hb5.block b2 (Array.getElem?_eq_some_iff.1 HW.out.2.2).1).trans HW.out.2.2)
  have HB5 : Hid (Below w.heap.size w w5) := HW.out.1.trans (hb5.mono HW.out.1.size)
  clear hb5
  go_wp2_with fail
  refine (HL.out w5 HB5.out).mono ?_
  rintro e w6 ⟨rfl, hb6⟩
  go_wp2
  go_ret
  exact ⟨rfl, HB5.out.trans (hb6.mono HB5.out.size)⟩
end
end Go.Proofs.YtlkfcfcejicdkaaGreatDoor
set_option linter.unusedSimpArgs false
set_option linter.unusedVariables false
namespace Go.Proofs.YtlkfcfcejicdkaaGreatDoor
open Go Go.RowKit

set_option maxRecDepth 100000 in
set_option maxHeartbeats 4000000 in
theorem twin_any (Am : Option Addr) (n cm : Nat) (Al : Option Addr) (q cl : Nat) (ms : List Int) (ls : List Lk) (w : World) (hG : GrAt w Am n Al q ms ls) (hn : n ≤ 1000) (hq : q ≤ 1000) :
    Calls Tryz.prog 12 #[grV Am n cm Al q cl] w fun e w' => ∃ (Am' : Option Addr) (cm' : Nat) (Al' : Option Addr) (cl' : Nat), e = .returned (grV Am' n cm' Al' q cl') ∧ Hid (GrOwn w.heap.size w' Am' n cm' Al' q cl' ms ls ∧ Below w.heap.size w w') := by
  have HG := Lib.hid hG
  have HN : Hid (n ≤ 1000 ∧ q ≤ 1000) := ⟨hn, hq⟩
  clear hG hn hq
  obtain ⟨iI, hI, hI0, hI1, hI2⟩ := info_parts int_info
  obtain ⟨iL, hL, hL0, hL1, hL2⟩ := info_parts link_info
  obtain ⟨b1, hb1⟩ : ∃ b, b = w.heap.size := ⟨_, rfl⟩
  obtain ⟨b4, hb4⟩ : ∃ b, b = w.heap.size + 1 := ⟨_, rfl⟩
  obtain ⟨W0, hW0⟩ : ∃ w1, w1 = (w.alloc (.cells #[.slice Am n cm, .slice Al q cl] 25)).alloc (.cells #[.slice none 0 0, .slice none 0 0] 25) := ⟨_, rfl⟩
  have HB : Hid (KJ w W0 b1 b4 (.slice Am n cm) (.slice Al q cl)) := by rw [hW0, hb1, hb4]; exact KJ.of (kb_new w _ _)
  have H0 : Bl W0 W0 := Bl.refl _
  have HLM : Hid ((intVs ms).length = n * 1) := by rw [Hid, intVs_len, HG.out.mlen, Nat.mul_one]
  have HLL : Hid ((lkCells ls).length = q * 2) := by rw [Hid, lkCells_len, HG.out.llen]
  have HM1 : Hid (n ≤ maxLen) := Nat.le_trans (show n ≤ 1000 by have := HN.out; omega) (by decide)
  have HM2 : Hid (n * 8 ≤ 140737488355328) := by have := HN.out; simp only [Hid]; omega
  have HL1 : Hid (q ≤ maxLen) := Nat.le_trans (show q ≤ 1000 by have := HN.out; omega) (by decide)
  have HL2 : Hid (q * 16 ≤ 140737488355328) := by have := HN.out; simp only [Hid]; omega
  have HRM : Hid (∀ W, Bl W0 W → RowAt W Am (intVs ms)) := fun W hW => HG.out.mrow.below (HB.out.old.trans (Below.mono hW HB.out.old.size))
  have HRL : Hid (∀ W, Bl W0 W → RowAt W Al (lkCells ls)) := fun W hW => HG.out.lrow.below (HB.out.old.trans (Below.mono hW HB.out.old.size))
  have HKJ : Hid (∀ W, Bl W0 W → KJ w W b1 b4 (.slice Am n cm) (.slice Al q cl)) := fun W hW => HB.out.step hW
  have HKC : Hid (∀ W, Bl W0 W → W.cell? ⟨b1, 0, none⟩ = some (.slice Am n cm) ∧ W.cell? ⟨b1, 1, none⟩ = some (.slice Al q cl)) := fun W hW => ⟨(HKJ.out W hW).1, (HKJ.out W hW).2.1⟩
  have HKS : Hid (∀ W x y, Bl W0 W → ((W.setCell ⟨b4, 0, none⟩ x).setCell ⟨b4, 1, none⟩ y).cell? ⟨b1, 0, none⟩ = some (.slice Am n cm) ∧ ((W.setCell ⟨b4, 0, none⟩ x).setCell ⟨b4, 1, none⟩ y).cell? ⟨b1, 1, none⟩ = some (.slice Al q cl)) := fun W x y hW => ⟨((HKJ.out W hW).set x y).1, ((HKJ.out W hW).set x y).2.1⟩
  obtain ⟨c0, c1, _⟩ := id HB.out
  go_enter Tryz.func12, Tryz.ntmps12
  go_wp2_with fail
  rw [← hW0, ← hb4, ← hb1]
  clear hW0 hb1 hb4
  go_region_held_law (fun W => W.cell? ⟨b1, 0, none⟩ = some (.slice Am n cm) ∧ W.cell? ⟨b1, 1, none⟩ = some (.slice Al q cl))
    (first | (refine HKC.out _ ?_; (repeat (first | with_reducible assumption | refine Bl.dr ?_ | refine Bl.al ?_ _)); done) | (refine HKS.out _ _ _ ?_; (repeat (first | with_reducible assumption | refine Bl.dr ?_ | refine Bl.al ?_ _)); done) | fail)
    (first
      | (refine step_lit (W0 := W0) (by rfl) _ _ _ (by rfl) 3 iI (.int .i64 0) 1 8 Tryz.underlying22 hI hI0 hI1 hI2 rfl (by decide) _ (by rfl) _ _ _ (by rfl) (by first | exact (Lit.new (by first | (refine Bl.dr ?_; (first | with_reducible assumption | (refine Bl.al ?_ _; first | with_reducible assumption | (refine Bl.al ?_ _; first | with_reducible assumption | (refine Bl.al ?_ _; with_reducible assumption))))) | (first | with_reducible assumption | (refine Bl.al ?_ _; first | with_reducible assumption | (refine Bl.al ?_ _; first | with_reducible assumption | (refine Bl.al ?_ _; with_reducible assumption))))) (by simp)) | exact (Lit.dr (Lit.new (by first | (refine Bl.dr ?_; (first | with_reducible assumption | (refine Bl.al ?_ _; first | with_reducible assumption | (refine Bl.al ?_ _; first | with_reducible assumption | (refine Bl.al ?_ _; with_reducible assumption))))) | (first | with_reducible assumption | (refine Bl.al ?_ _; first | with_reducible assumption | (refine Bl.al ?_ _; first | with_reducible assumption | (refine Bl.al ?_ _; with_reducible assumption))))) (by simp))) | exact (Lit.al (Lit.new (by first | (refine Bl.dr ?_; (first | with_reducible assumption | (refine Bl.al ?_ _; first | with_reducible assumption | (refine Bl.al ?_ _; first | with_reducible assumption | (refine Bl.al ?_ _; with_reducible assumption))))) | (first | with_reducible assumption | (refine Bl.al ?_ _; first | with_reducible assumption | (refine Bl.al ?_ _; first | with_reducible assumption | (refine Bl.al ?_ _; with_reducible assumption))))) (by simp)) _) | exact (Lit.dr (Lit.al (Lit.new (by first | (refine Bl.dr ?_; (first | with_reducible assumption | (refine Bl.al ?_ _; first | with_reducible assumption | (refine Bl.al ?_ _; first | with_reducible assumption | (refine Bl.al ?_ _; with_reducible assumption))))) | (first | with_reducible assumption | (refine Bl.al ?_ _; first | with_reducible assumption | (refine Bl.al ?_ _; first | with_reducible assumption | (refine Bl.al ?_ _; with_reducible assumption))))) (by simp)) _)) | exact hcarL _ _ (by decide) (Lit.new (by first | (refine Bl.dr ?_; (first | with_reducible assumption | (refine Bl.al ?_ _; first | with_reducible assumption | (refine Bl.al ?_ _; first | with_reducible assumption | (refine Bl.al ?_ _; with_reducible assumption))))) | (first | with_reducible assumption | (refine Bl.al ?_ _; first | with_reducible assumption | (refine Bl.al ?_ _; first | with_reducible assumption | (refine Bl.al ?_ _; with_reducible assumption))))) (by simp)) | exact hcarL _ _ (by decide) (Lit.dr (Lit.new (by first | (refine Bl.dr ?_; (first | with_reducible assumption | (refine Bl.al ?_ _; first | with_reducible assumption | (refine Bl.al ?_ _; first | with_reducible assumption | (refine Bl.al ?_ _; with_reducible assumption))))) | (first | with_reducible assumption | (refine Bl.al ?_ _; first | with_reducible assumption | (refine Bl.al ?_ _; first | with_reducible assumption | (refine Bl.al ?_ _; with_reducible assumption))))) (by simp))) | exact hcarL _ _ (by decide) (Lit.al (Lit.new (by first | (refine Bl.dr ?_; (first | with_reducible assumption | (refine Bl.al ?_ _; first | with_reducible assumption | (refine Bl.al ?_ _; first | with_reducible assumption | (refine Bl.al ?_ _; with_reducible assumption))))) | (first | with_reducible assumption | (refine Bl.al ?_ _; first | with_reducible assumption | (refine Bl.al ?_ _; first | with_reducible assumption | (refine Bl.al ?_ _; with_reducible assumption))))) (by simp)) _) | exact hcarL _ _ (by decide) (Lit.dr (Lit.al (Lit.new (by first | (refine Bl.dr ?_; (first | with_reducible assumption | (refine Bl.al ?_ _; first | with_reducible assumption | (refine Bl.al ?_ _; first | with_reducible assumption | (refine Bl.al ?_ _; with_reducible assumption))))) | (first | with_reducible assumption | (refine Bl.al ?_ _; first | with_reducible assumption | (refine Bl.al ?_ _; first | with_reducible assumption | (refine Bl.al ?_ _; with_reducible assumption))))) (by simp)) _))) (intVs ms) HLM.out (HRM.out _ (by first | (refine Bl.dr ?_; (first | with_reducible assumption | (refine Bl.al ?_ _; first | with_reducible assumption | (refine Bl.al ?_ _; first | with_reducible assumption | (refine Bl.al ?_ _; with_reducible assumption))))) | (first | with_reducible assumption | (refine Bl.al ?_ _; first | with_reducible assumption | (refine Bl.al ?_ _; first | with_reducible assumption | (refine Bl.al ?_ _; with_reducible assumption)))))) (intVs_one ms) HM1.out HM2.out (by first | (refine Bl.dr ?_; (first | with_reducible assumption | (refine Bl.al ?_ _; first | with_reducible assumption | (refine Bl.al ?_ _; first | with_reducible assumption | (refine Bl.al ?_ _; with_reducible assumption))))) | (first | with_reducible assumption | (refine Bl.al ?_ _; first | with_reducible assumption | (refine Bl.al ?_ _; first | with_reducible assumption | (refine Bl.al ?_ _; with_reducible assumption))))) ?_; intro Am5 cm5 wm hrm hbm hcarM hcrM; obtain ⟨_, _, hkb⟩ := (HKJ.out _ hbm).kb; obtain ⟨_, _, r0, r1, rf, _, _, n12, n21⟩ := hkb.cells; try (have hrl2 := hcrM 35 _ _ _ _ _ (by decide) (by first | exact hrl | exact hrl.alloc _ | exact own_dr hrl | exact own_dr (hrl.alloc _))))
      | (refine step_lit (W0 := W0) (by rfl) _ _ _ (by rfl) 35 iL (.agg #[.int .i64 0, .int .i64 0]) 2 16 Tryz.underlying23 hL hL0 hL1 hL2 rfl (by decide) _ (by rfl) _ _ _ (by rfl) (by first | exact (Lit.new (by first | (refine Bl.dr ?_; (first | with_reducible assumption | (refine Bl.al ?_ _; first | with_reducible assumption | (refine Bl.al ?_ _; first | with_reducible assumption | (refine Bl.al ?_ _; with_reducible assumption))))) | (first | with_reducible assumption | (refine Bl.al ?_ _; first | with_reducible assumption | (refine Bl.al ?_ _; first | with_reducible assumption | (refine Bl.al ?_ _; with_reducible assumption))))) (by simp)) | exact (Lit.dr (Lit.new (by first | (refine Bl.dr ?_; (first | with_reducible assumption | (refine Bl.al ?_ _; first | with_reducible assumption | (refine Bl.al ?_ _; first | with_reducible assumption | (refine Bl.al ?_ _; with_reducible assumption))))) | (first | with_reducible assumption | (refine Bl.al ?_ _; first | with_reducible assumption | (refine Bl.al ?_ _; first | with_reducible assumption | (refine Bl.al ?_ _; with_reducible assumption))))) (by simp))) | exact (Lit.al (Lit.new (by first | (refine Bl.dr ?_; (first | with_reducible assumption | (refine Bl.al ?_ _; first | with_reducible assumption | (refine Bl.al ?_ _; first | with_reducible assumption | (refine Bl.al ?_ _; with_reducible assumption))))) | (first | with_reducible assumption | (refine Bl.al ?_ _; first | with_reducible assumption | (refine Bl.al ?_ _; first | with_reducible assumption | (refine Bl.al ?_ _; with_reducible assumption))))) (by simp)) _) | exact (Lit.dr (Lit.al (Lit.new (by first | (refine Bl.dr ?_; (first | with_reducible assumption | (refine Bl.al ?_ _; first | with_reducible assumption | (refine Bl.al ?_ _; first | with_reducible assumption | (refine Bl.al ?_ _; with_reducible assumption))))) | (first | with_reducible assumption | (refine Bl.al ?_ _; first | with_reducible assumption | (refine Bl.al ?_ _; first | with_reducible assumption | (refine Bl.al ?_ _; with_reducible assumption))))) (by simp)) _)) | exact hcarM _ _ (by decide) (Lit.new (by first | (refine Bl.dr ?_; (first | with_reducible assumption | (refine Bl.al ?_ _; first | with_reducible assumption | (refine Bl.al ?_ _; first | with_reducible assumption | (refine Bl.al ?_ _; with_reducible assumption))))) | (first | with_reducible assumption | (refine Bl.al ?_ _; first | with_reducible assumption | (refine Bl.al ?_ _; first | with_reducible assumption | (refine Bl.al ?_ _; with_reducible assumption))))) (by simp)) | exact hcarM _ _ (by decide) (Lit.dr (Lit.new (by first | (refine Bl.dr ?_; (first | with_reducible assumption | (refine Bl.al ?_ _; first | with_reducible assumption | (refine Bl.al ?_ _; first | with_reducible assumption | (refine Bl.al ?_ _; with_reducible assumption))))) | (first | with_reducible assumption | (refine Bl.al ?_ _; first | with_reducible assumption | (refine Bl.al ?_ _; first | with_reducible assumption | (refine Bl.al ?_ _; with_reducible assumption))))) (by simp))) | exact hcarM _ _ (by decide) (Lit.al (Lit.new (by first | (refine Bl.dr ?_; (first | with_reducible assumption | (refine Bl.al ?_ _; first | with_reducible assumption | (refine Bl.al ?_ _; first | with_reducible assumption | (refine Bl.al ?_ _; with_reducible assumption))))) | (first | with_reducible assumption | (refine Bl.al ?_ _; first | with_reducible assumption | (refine Bl.al ?_ _; first | with_reducible assumption | (refine Bl.al ?_ _; with_reducible assumption))))) (by simp)) _) | exact hcarM _ _ (by decide) (Lit.dr (Lit.al (Lit.new (by first | (refine Bl.dr ?_; (first | with_reducible assumption | (refine Bl.al ?_ _; first | with_reducible assumption | (refine Bl.al ?_ _; first | with_reducible assumption | (refine Bl.al ?_ _; with_reducible assumption))))) | (first | with_reducible assumption | (refine Bl.al ?_ _; first | with_reducible assumption | (refine Bl.al ?_ _; first | with_reducible assumption | (refine Bl.al ?_ _; with_reducible assumption))))) (by simp)) _))) (lkCells ls) HLL.out (HRL.out _ (by first | (refine Bl.dr ?_; (first | with_reducible assumption | (refine Bl.al ?_ _; first | with_reducible assumption | (refine Bl.al ?_ _; first | with_reducible assumption | (refine Bl.al ?_ _; with_reducible assumption))))) | (first | with_reducible assumption | (refine Bl.al ?_ _; first | with_reducible assumption | (refine Bl.al ?_ _; first | with_reducible assumption | (refine Bl.al ?_ _; with_reducible assumption)))))) (lkCells_one ls) HL1.out HL2.out (by first | (refine Bl.dr ?_; (first | with_reducible assumption | (refine Bl.al ?_ _; first | with_reducible assumption | (refine Bl.al ?_ _; first | with_reducible assumption | (refine Bl.al ?_ _; with_reducible assumption))))) | (first | with_reducible assumption | (refine Bl.al ?_ _; first | with_reducible assumption | (refine Bl.al ?_ _; first | with_reducible assumption | (refine Bl.al ?_ _; with_reducible assumption))))) ?_; intro Al5 cl5 wl hrl hbl hcarL hcrL; obtain ⟨_, _, hkb⟩ := (HKJ.out _ hbl).kb; obtain ⟨_, _, r0, r1, rf, _, _, n12, n21⟩ := hkb.cells; try (have hrm2 := hcrL 3 _ _ _ _ _ (by decide) (by first | exact hrm | exact hrm.alloc _ | exact own_dr hrm | exact own_dr (hrm.alloc _))))
      | fail)
  all_goals
    go_wp2
    refine bodyPost_ret (v := grV Am5 n cm5 Al5 q cl5) ?_ rfl ?_
    · simp [results, Tryz.results12, go_sem, r0, r1, rf, n12, n21]
    · refine ⟨_, _, _, _, rfl, ?_⟩
      exact ⟨(GrOwn.set ⟨HG.out.mlen, HG.out.llen, hrm2, hrl⟩ hkb.r _ _).mono HB.out.old.size, (hkb.set _ _).old⟩
end Go.Proofs.YtlkfcfcejicdkaaGreatDoor
set_option linter.unusedSimpArgs false
set_option linter.unusedVariables false
namespace Go.Proofs.YtlkfcfcejicdkaaGreatDoor
open Go Go.RowKit

def lineM : List Int := [0, 1, 2]
def lineL : List Lk := [(0, 1), (1, 2)]
theorem rowI_of_block {w : World} {g : Nat} {l : List Int} (h : w.heap[g]? = some (.cells (intVs l).toArray 3 (0, 0))) : RowAt w (some ⟨g, 0, none⟩) (intVs l) :=
  .inr ⟨g, 0, rfl, fun j u hu => by
    have := World.news_of_block (B := g) h j u (by simpa using hu)
    rw [Addr.add_lit] at this
    exact this⟩
theorem rowL_of_block {w : World} {g : Nat} {l : List Lk} (h : w.heap[g]? = some (.cells (lkCells l).toArray 35 (0, 0))) : RowAt w (some ⟨g, 0, none⟩) (lkCells l) :=
  .inr ⟨g, 0, rfl, fun j u hu => by
    have := World.news_of_block (B := g) h j u (by simpa using hu)
    rw [Addr.add_lit] at this
    exact this⟩
set_option maxHeartbeats 2000000 in
theorem line_any (w : World) : Calls Tryz.prog 32 #[] w fun e w' => ∃ (g1 g2 : Nat), e = .returned (grV (some ⟨g1, 0, none⟩) 3 3 (some ⟨g2, 0, none⟩) 2 2) ∧ Hid (GrAt w' (some ⟨g1, 0, none⟩) 3 (some ⟨g2, 0, none⟩) 2 lineM lineL ∧ Below w.heap.size w w') := by
  go_enter Tryz.func32, Tryz.ntmps32
  go_wp2_with fail
  have HA := alloc3 w (.cells #[.slice (some ⟨w.heap.size + 1, 0, none⟩) 3 3, .slice (some ⟨w.heap.size + 1 + 1, 0, none⟩) 2 2] 25) (.cells #[.int .i64 0, .int .i64 1, .int .i64 2] 3) (.cells #[.int .i64 0, .int .i64 1, .int .i64 1, .int .i64 2] 35)
  refine bodyPost_ret (v := grV (some ⟨w.heap.size + 1, 0, none⟩) 3 3 (some ⟨w.heap.size + 1 + 1, 0, none⟩) 2 2) ?_ rfl ?_
  · simp [results, Tryz.results32, go_sem]
  · exact ⟨_, _, rfl, ⟨rfl, rfl, rowI_of_block (l := lineM) HA.2.1, rowL_of_block (l := lineL) HA.2.2.1⟩, HA.2.2.2.2⟩
theorem small_any (Am : Option Addr) (n cm : Nat) (Al : Option Addr) (q cl : Nat) (w : World) : Calls Tryz.prog 10 #[grV Am n cm Al q cl] w fun e w' => e = .returned (.bool (decide (n ≤ 50) && decide (q ≤ 50))) ∧ Below w.heap.size w w' := by
  have hb : Hid (∀ o, Below w.heap.size w (w.alloc o)) := fun o => (Below.refl _ _).alloc (Nat.le_refl _) _
  by_cases h1 : n ≤ 50
  · rw [decide_eq_true h1]
    by_cases h2 : q ≤ 50
    · rw [decide_eq_true h2]
      have i1 : (n : Int) ≤ 50 := by omega
      have i2 : (q : Int) ≤ 50 := by omega
      go_enter Tryz.func10, Tryz.ntmps10
      go_wp2
      go_ret
      exact ⟨rfl, hb.out _⟩
    · rw [decide_eq_false h2]
      have i1 : (n : Int) ≤ 50 := by omega
      have i2 : ¬ ((q : Int) ≤ 50) := by omega
      go_enter Tryz.func10, Tryz.ntmps10
      go_wp2
      go_ret
      exact ⟨rfl, hb.out _⟩
  · rw [decide_eq_false h1]
    have i1 : ¬ ((n : Int) ≤ 50) := by omega
    go_enter Tryz.func10, Tryz.ntmps10
    go_wp2
    go_ret
    exact ⟨rfl, hb.out _⟩
theorem line_swap : swapP lineM lineL (1, 2) (0, 2) = (none, [0, 1, 2], [(0, 1), (0, 2)]) := by kernel_rfl
theorem line_leave : leaveP lineM lineL 1 = (plainE 14, [], []) := by kernel_rfl
theorem line_way : wayP lineM lineL 0 2 = (none, [0, 1, 2]) := by kernel_rfl
theorem line_chk : chk lineM lineL = none := by kernel_rfl
set_option maxRecDepth 100000 in
set_option maxHeartbeats 4000000 in
/-- The answers that the document fixes. -/
theorem awake_any (w : World) (hE : ErrT w) : Calls Tryz.prog 9 #[] w fun e w' => e = .returned (.bool true) ∧ Below w.heap.size w w' := by
  have HE : Hid (∀ W, Bl w W → ErrT W) := fun W hW => hE.below hW
  clear hE
  go_enter Tryz.func9, Tryz.ntmps9
  go_wp2_with fail
  refine (line_any w).mono ?_
  rintro e w2 ⟨g1, g2, rfl, H2⟩
  have hb2 : Hid (Bl w w2) := H2.out.2
  go_wp2_with fail
  refine (swap_any _ _ _ _ _ _ lineM lineL 1 2 0 2 w2 H2.out.1 (by decide) (by decide)).mono ?_
  rintro e w3 h3
  rw [line_swap] at h3
  obtain ⟨Am3, n3, cm3, Al3, q3, cl3, v3, rfl, H3⟩ := h3
  obtain rfl : v3 = .nilIface := H3.out.1
  obtain rfl : 2 = q3 := H3.out.2.1.llen
  have hb3 : Hid (Bl w w3) := bchain hb2.out H3.out.2.2
  clear H2
  go_wp2_with fail
  obtain ⟨B4, hB4⟩ : ∃ b, b = w3.heap.size := ⟨_, rfl⟩
  obtain ⟨w4, hw4⟩ : ∃ w4, w4 = w3.alloc (.cells #[.slice Am3 n3 cm3, .slice Al3 2 cl3] 25) := ⟨_, rfl⟩
  have H4 : Hid (w4.heap[B4]? = some (.cells #[.slice Am3 n3 cm3, .slice Al3 2 cl3] 25 (0, 0)) ∧ RowAt w4 Al3 (lkCells [(0, 1), (0, 2)]) ∧ Bl w w4) := by
    rw [hw4, hB4]
    exact ⟨heap_alloc_new _ _, (RowAt.of_own H3.out.2.1.lrow).below ((Below.refl _ _).alloc (Nat.le_refl _) _), hb3.out.al _⟩
  rw [← hw4, ← hB4]
  clear hw4 hB4 H3 hb2 hb3
  refine (line_any w4).mono ?_
  rintro e w5 ⟨g1, g2, rfl, H5⟩
  have hb5 : Hid (Bl w w5) := bchain H4.out.2.2 H5.out.2
  go_wp2_with fail
  have hpa := pathM_any _ _ 3 _ _ 2 lineM lineL 0 2 w5 H5.out.1 (by decide) (by decide)
  rw [line_way] at hpa
  refine hpa.mono ?_
  rintro e w6 ⟨Ap, cp, vp, rfl, H6⟩
  obtain rfl : vp = .nilIface := H6.out.1
  have hb6 : Hid (Bl w w6 ∧ Below w4.heap.size w4 w6) := ⟨bchain hb5.out H6.out.2.2, bchain H5.out.2 H6.out.2.2⟩
  clear hpa
  go_wp2_with fail
  refine (line_any w6).mono ?_
  rintro e w7 ⟨g1, g2, rfl, H7⟩
  go_wp2_with fail
  have hle := leave_any _ _ 3 _ _ 2 lineM lineL 1 w7 H7.out.1 (by decide) (by decide)
  rw [line_leave] at hle
  refine hle.mono ?_
  rintro e w8 ⟨Am8, n8, cm8, Al8, q8, cl8, v8, rfl, H8⟩
  have hv8 : ErrIs w8 v8 (plainE 14) := H8.out.1
  obtain rfl : v8 = .iface 41 (.int .i64 14) := hv8
  have hb8 : Hid (Bl w w8 ∧ Below w4.heap.size w4 w8 ∧ RowAt w8 Ap (intVs [0, 1, 2])) := ⟨bchain hb6.out.1 (bchain H7.out.2 H8.out.2.2), bchain hb6.out.2 (bchain H7.out.2 H8.out.2.2), H6.out.2.1.below (bchain H7.out.2 H8.out.2.2)⟩
  clear hle
  have H8B : Hid (w8.heap[B4]? = some (.cells #[.slice Am3 n3 cm3, .slice Al3 2 cl3] 25 (0, 0)) ∧ RowAt w8 Al3 (lkCells [(0, 1), (0, 2)])) := ⟨(hb8.out.2.1.block B4 (Array.getElem?_eq_some_iff.1 H4.out.1).1).trans H4.out.1, H4.out.2.1.below hb8.out.2.1⟩
  obtain ⟨c0, c1, cf, cl⟩ := cell2 H8B.out.1
  have cne : ¬ (B4 = w8.heap.size) := by omega
  have cne' : ¬ (w8.heap.size = B4) := by omega
  clear H4 H5 H6 H7 H8 hb5 hb6
  go_wp2_with fail
  obtain ⟨B9, hB9⟩ : ∃ b, b = w8.heap.size + 1 := ⟨_, rfl⟩
  obtain ⟨w9, hw9⟩ : ∃ w9, w9 = (w8.alloc (.cells #[.slice Am8 n8 cm8, .slice Al8 q8 cl8] 25)).alloc (.cells #[.int .i64 0, .int .i64 1, .int .i64 0, .int .i64 2] 35) := ⟨_, rfl⟩
  have H9 : Hid (RowAt w9 (some ⟨B9, 0, none⟩) (lkCells [(0, 1), (0, 2)]) ∧ RowAt w9 Al3 (lkCells [(0, 1), (0, 2)]) ∧ Bl w w9 ∧ RowAt w9 Ap (intVs [0, 1, 2])) := by
    have hb : Bl w8 w9 := by rw [hw9]; exact ((Bl.refl _).al _).al _
    refine ⟨rowL_of_block (l := [(0, 1), (0, 2)]) ?_, H8B.out.2.below hb, bchain hb8.out.1 hb, hb8.out.2.2.below hb⟩
    rw [hw9, hB9]
    have := heap_alloc_new (w8.alloc (.cells #[.slice Am8 n8 cm8, .slice Al8 q8 cl8] 25)) (.cells #[.int .i64 0, .int .i64 1, .int .i64 0, .int .i64 2] 35)
    have e : (w8.alloc (.cells #[.slice Am8 n8 cm8, .slice Al8 q8 cl8] 25)).heap.size = w8.heap.size + 1 := by simp
    rw [e] at this
    exact this
  rw [← hw9, ← hB9]
  clear hw9 hB9 H8B hb8 c0 c1 cf cl cne cne'
  refine (links_same Al3 (some ⟨B9, 0, none⟩) 2 cl3 2 [(0, 1), (0, 2)] w9 rfl H9.out.2.1 H9.out.1 (by decide)).mono ?_
  rintro e wa ⟨rfl, hba⟩
  go_wp2_with fail
  obtain ⟨Bb, hBb⟩ : ∃ b, b = wa.heap.size := ⟨_, rfl⟩
  obtain ⟨wb, hwb⟩ : ∃ wb, wb = wa.alloc (.cells #[.int .i64 0, .int .i64 1, .int .i64 2] 3) := ⟨_, rfl⟩
  have Hb : Hid (RowAt wb (some ⟨Bb, 0, none⟩) (intVs [0, 1, 2]) ∧ RowAt wb Ap (intVs [0, 1, 2]) ∧ Bl w wb) := by
    have hb : Bl wa wb := by rw [hwb]; exact (Bl.refl _).al _
    refine ⟨rowI_of_block (l := [0, 1, 2]) ?_, (H9.out.2.2.2.below hba).below hb, bchain (bchain H9.out.2.2.1 hba) hb⟩
    rw [hwb, hBb]
    exact heap_alloc_new _ _
  rw [← hwb, ← hBb]
  clear hwb hBb H9 hba
  refine (ints_same Ap (some ⟨Bb, 0, none⟩) 3 cp 3 [0, 1, 2] wb rfl Hb.out.2.1 Hb.out.1 (by decide)).mono ?_
  rintro e wc ⟨rfl, hbc⟩
  have hbc2 : Hid (Bl w wc) := bchain Hb.out.2.2 hbc
  clear hbc Hb
  go_wp2_with fail
  refine (rn_any 14 wc).mono ?_
  rintro e wd ⟨rfl, hbd⟩
  have hbd2 : Hid (Bl w wd) := bchain hbc2.out hbd
  clear hbd hbc2
  go_wp2_with fail
  refine (fails_any (er := plainE 14) wd (HE.out wd hbd2.out) rfl rfl).mono ?_
  rintro e we ⟨rfl, hbe⟩
  have hbe2 : Hid (Bl w we) := bchain hbd2.out hbe
  clear hbe hbd2
  go_wp2_with fail
  refine (line_any we).mono ?_
  rintro e wf ⟨g1, g2, rfl, Hf⟩
  go_wp2_with fail
  have hck := check_any _ 3 3 _ 2 2 lineM lineL wf Hf.out.1 (by decide) (by decide)
  rw [line_chk] at hck
  refine hck.mono ?_
  rintro e wg ⟨v, rfl, Hg⟩
  obtain rfl : v = .nilIface := Hg.out.1
  clear hck
  go_wp2
  go_ret
  exact ⟨rfl, bchain hbe2.out (bchain Hf.out.2 Hg.out.2)⟩
end Go.Proofs.YtlkfcfcejicdkaaGreatDoor
set_option linter.unusedSimpArgs false
set_option linter.unusedVariables false
set_option maxRecDepth 100000
namespace Go.Proofs.YtlkfcfcejicdkaaGreatDoor
open Go Go.RowKit Go.ChangeShapes Go.WideShapes Go.Deep Go.Joins

section
variable {H : Type} {enc : TypeId × Value → H} {w : World} {base : Nat} {spare : Nat → Bool} {held : Bool} {n : Nat}

theorem plain_addr {a : Addr} {k : Nat} {cs : List Value} (h : w.cells? base (a.add (0 * k)) k = some cs) (hk : 0 < k) : a = ⟨a.block, a.off, none⟩ := by
  obtain ⟨_, hl, hc⟩ := World.cells?_some h
  have := hc 0 hk
  rw [Nat.zero_mul] at this
  have e : (a.add 0).add 0 = a := by simp [Addr.add]
  rw [e] at this
  rw [List.getElem?_eq_getElem (by omega)] at this
  obtain ⟨b, o, s⟩ := a
  cases s with
  | none => rfl
  | some s => simp [World.cell?] at this; split at this <;> cases this
theorem read_int1 {v : Value} {x : DataW H × List MemPlace} (h : DataW.trod enc Tryz.prog w base spare held n 3 [v] = some x) : ∃ k : Int, v = .int .i64 k := by
  obtain ⟨k, e0, _, h1⟩ := DataW.trod_int Tryz.underlying3 h
  exact ⟨k, by simpa using e0⟩
theorem read_ints {v : Value} {x : DataW H × List MemPlace} (h : DataW.trod enc Tryz.prog w base spare held n 22 [v] = some x) :
    ∃ A c, ∃ l : List Int, v = .slice A l.length c ∧ RowAt w A (intVs l) := by
  have hC : Tryz.prog.cellsOf 3 = 1 := by kernel_rfl
  rcases open_slice Tryz.underlying22 h with ⟨hv, _⟩ | ⟨a, len, cap, m, n', D, Pl, hv, hb, hl, hm, hmm, hx, hi⟩
  · simp at hv
    subst hv
    exact ⟨none, 0, [], rfl, .inl rfl⟩
  · simp at hv
    subst hv
    have hlm : len ≤ m := by rw [hmm]; split <;> omega
    rw [hC] at hi
    have hex : ∀ i, i < len → ∃ k : Int, w.cells? base (a.add (i * 1)) 1 = some [.int .i64 k] := by
      intro i hil
      obtain ⟨cs', h1, h2⟩ := hi i (by omega)
      have hl1 := (World.cells?_some h1).2.1
      match cs', hl1 with
      | [v0], _ =>
        obtain ⟨k, rfl⟩ := read_int1 h2
        exact ⟨k, h1⟩
    obtain ⟨f, hf⟩ := @choose_lt Int ⟨0⟩ len _ hex
    refine ⟨some a, cap, (List.range len).map f, by simp, ?_⟩
    by_cases h0 : len = 0
    · subst h0; exact .inl rfl
    · have ha := plain_addr (hf 0 (by omega)) (by omega)
      refine .inr ⟨a.block, a.off, by rw [← ha], fun j u hu => ?_⟩
      have hjl : j < len := by have := (List.getElem?_eq_some_iff.1 hu).1; simpa [intVs] using this
      have hcells := hf j hjl
      rw [ha] at hcells
      obtain ⟨_, _, hc⟩ := World.cells?_some hcells
      have h0 := hc 0 (by omega)
      have e : u = .int .i64 (f j) := by
        simp [intVs, List.getElem?_map, List.getElem?_range hjl] at hu
        exact hu.symm
      rw [e]
      rw [Addr.add_lit, Addr.add_lit] at h0
      simpa using h0
theorem read_link1 {cs : List Value} {x : DataW H × List MemPlace} (h : DataW.trod enc Tryz.prog w base spare held n 35 cs = some x) : ∃ a b : Int, cs = [.int .i64 a, .int .i64 b] := by
  obtain ⟨xs, m, _, hx, hl, hlen, hf⟩ := DataW.trod_struct Tryz.underlying35 h
  have hC : Tryz.prog.cellsOf 35 = 2 := by kernel_rfl
  have c3 : Tryz.prog.cellsOf 3 = 1 := by kernel_rfl
  rw [hC] at hl
  match cs, hl, xs, hlen with
  | [v0, v1], _, [y0, y1], _ =>
    have h0 : DataW.trod enc Tryz.prog w base spare held m 3 (([v0, v1].drop 0).take (Tryz.prog.cellsOf 3)) = some y0 := hf 0 _ rfl
    have h1 : DataW.trod enc Tryz.prog w base spare held m 3 (([v0, v1].drop 1).take (Tryz.prog.cellsOf 3)) = some y1 := hf 1 _ rfl
    simp only [c3] at h0 h1
    obtain ⟨a, rfl⟩ := read_int1 (v := v0) h0
    obtain ⟨b, rfl⟩ := read_int1 (v := v1) h1
    exact ⟨a, b, rfl⟩
theorem read_links {v : Value} {x : DataW H × List MemPlace} (h : DataW.trod enc Tryz.prog w base spare held n 23 [v] = some x) :
    ∃ A c, ∃ l : List Lk, v = .slice A l.length c ∧ RowAt w A (lkCells l) := by
  have hC : Tryz.prog.cellsOf 35 = 2 := by kernel_rfl
  rcases open_slice Tryz.underlying23 h with ⟨hv, _⟩ | ⟨a, len, cap, m, n', D, Pl, hv, hb, hl, hm, hmm, hx, hi⟩
  · simp at hv
    subst hv
    exact ⟨none, 0, [], rfl, .inl rfl⟩
  · simp at hv
    subst hv
    have hlm : len ≤ m := by rw [hmm]; split <;> omega
    rw [hC] at hi
    have hex : ∀ i, i < len → ∃ k : Lk, w.cells? base (a.add (i * 2)) 2 = some [.int .i64 k.1, .int .i64 k.2] := by
      intro i hil
      obtain ⟨cs', h1, h2⟩ := hi i (by omega)
      obtain ⟨x1, x2, rfl⟩ := read_link1 h2
      exact ⟨(x1, x2), h1⟩
    obtain ⟨f, hf⟩ := @choose_lt Lk ⟨(0, 0)⟩ len _ hex
    refine ⟨some a, cap, (List.range len).map f, by simp, ?_⟩
    by_cases h0 : len = 0
    · subst h0; exact .inl rfl
    · have ha := plain_addr (hf 0 (by omega)) (by omega)
      rw [show (some a : Option Addr) = some ⟨a.block, a.off, none⟩ by rw [← ha]]
      have key : ∀ i, i < len → w.cell? ⟨a.block, a.off + i * 2, none⟩ = some (.int .i64 (f i).1) ∧ w.cell? ⟨a.block, a.off + i * 2 + 1, none⟩ = some (.int .i64 (f i).2) := fun i hil => by
        have hcells := hf i hil
        rw [ha] at hcells
        obtain ⟨_, _, hc⟩ := World.cells?_some hcells
        have h0 := hc 0 (by omega)
        have h1 := hc 1 (by omega)
        rw [Addr.add_lit, Addr.add_lit] at h0 h1
        exact ⟨by simpa using h0, by simpa using h1⟩
      refine .inr ⟨a.block, a.off, rfl, fun j u hu => ?_⟩
      have hjl : j / 2 < len := by
        have := (List.getElem?_eq_some_iff.1 hu).1
        rw [lkCells_len] at this
        simp at this
        omega
      have hat := lkCells_at (f (j / 2)) ((List.range len).map f) (j / 2) (by simp [List.getElem?_map, List.getElem?_range hjl])
      obtain ⟨k0, k1⟩ := key (j / 2) hjl
      rcases Nat.mod_two_eq_zero_or_one j with e | e
      · have ej : j = j / 2 * 2 := by omega
        rw [ej, hat.1] at hu
        cases hu
        rw [show a.off + j = a.off + j / 2 * 2 by omega]; exact k0
      · have ej : j = j / 2 * 2 + 1 := by omega
        rw [ej, hat.2] at hu
        cases hu
        rw [show a.off + j = a.off + j / 2 * 2 + 1 by omega]; exact k1
theorem read_graph1 {cs : List Value} {x : DataW H × List MemPlace} (h : DataW.trod enc Tryz.prog w base spare held n 25 cs = some x) : ∃ Am cm Al cl, ∃ (ms : List Int) (ls : List Lk), cs = [.slice Am ms.length cm, .slice Al ls.length cl] ∧ GrAt w Am ms.length Al ls.length ms ls := by
  obtain ⟨xs, m, _, hx, hl, hlen, hf⟩ := DataW.trod_struct Tryz.underlying25 h
  have hC : Tryz.prog.cellsOf 25 = 2 := by kernel_rfl
  have c3 : Tryz.prog.cellsOf 22 = 1 := by kernel_rfl
  have c4 : Tryz.prog.cellsOf 23 = 1 := by kernel_rfl
  rw [hC] at hl
  match cs, hl, xs, hlen with
  | [v0, v1], _, [y0, y1], _ =>
    have h0 : DataW.trod enc Tryz.prog w base spare held m 22 (([v0, v1].drop 0).take (Tryz.prog.cellsOf 22)) = some y0 := hf 0 _ rfl
    have h1 : DataW.trod enc Tryz.prog w base spare held m 23 (([v0, v1].drop 1).take (Tryz.prog.cellsOf 23)) = some y1 := hf 1 _ rfl
    simp only [c3] at h0
    simp only [c4] at h1
    obtain ⟨Am, cm, ms, rfl, hr⟩ := read_ints (v := v0) h0
    obtain ⟨Al, cl, ls, rfl, hq⟩ := read_links (v := v1) h1
    exact ⟨Am, cm, Al, cl, ms, ls, rfl, rfl, rfl, hr, hq⟩
end
section
variable {H : Type} {enc : TypeId × Value → H} {w : World} {spare : Nat → Bool} {held : Bool} {base : Nat} {d : DataW H} {p : List MemPlace} {v : Value}
theorem read_graphV (hok : Value.okWide Tryz.prog w .any base 25 v) (h : DataW.Trod enc Tryz.prog w 0 spare held 25 v d p) : ∃ Am cm Al cl, ∃ (ms : List Int) (ls : List Lk), v = grV Am ms.length cm Al ls.length cl ∧ GrAt w Am ms.length Al ls.length ms ls := by
  obtain ⟨cs, rfl, _⟩ := okWide_struct Tryz.underlying25 hok
  obtain ⟨fuel, hf⟩ := h
  obtain ⟨Am, cm, Al, cl, ms, ls, h1, h2⟩ := read_graph1 hf
  refine ⟨Am, cm, Al, cl, ms, ls, ?_, h2⟩
  obtain ⟨l⟩ := cs
  have h3 : l = _ := h1
  rw [h3]
theorem read_linkV (hok : Value.okWide Tryz.prog w .any base 35 v) (h : DataW.Trod enc Tryz.prog w 0 spare held 35 v d p) : ∃ a b : Int, v = .agg #[.int .i64 a, .int .i64 b] := by
  obtain ⟨cs, rfl, _⟩ := okWide_struct Tryz.underlying35 hok
  obtain ⟨fuel, hf⟩ := h
  obtain ⟨a, b, h1⟩ := read_link1 hf
  refine ⟨a, b, ?_⟩
  obtain ⟨l⟩ := cs
  have h3 : l = _ := h1
  rw [h3]
theorem read_intV (hok : Value.okWide Tryz.prog w .any base 3 v) : ∃ a : Int, v = .int .i64 a := okWide_int Tryz.underlying3 hok
theorem read_linksV (hok : Value.okWide Tryz.prog w .any base 23 v) (h : DataW.Trod enc Tryz.prog w 0 spare held 23 v d p) : ∃ A c, ∃ l : List Lk, v = .slice A l.length c ∧ RowAt w A (lkCells l) := by
  obtain ⟨a, len, cap, rfl⟩ := okWide_slice Tryz.underlying23 hok
  obtain ⟨fuel, hf⟩ := h
  exact read_links hf
theorem read_intsV (hok : Value.okWide Tryz.prog w .any base 22 v) (h : DataW.Trod enc Tryz.prog w 0 spare held 22 v d p) : ∃ A c, ∃ l : List Int, v = .slice A l.length c ∧ RowAt w A (intVs l) := by
  obtain ⟨a, len, cap, rfl⟩ := okWide_slice Tryz.underlying22 hok
  obtain ⟨fuel, hf⟩ := h
  exact read_ints hf
end
end Go.Proofs.YtlkfcfcejicdkaaGreatDoor
