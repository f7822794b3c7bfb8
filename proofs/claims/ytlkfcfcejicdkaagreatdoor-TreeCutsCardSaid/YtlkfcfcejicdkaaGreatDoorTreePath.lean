/-
  tree: the closure of Path, walked. Own work.
-/
import Derived.Test.YtlkfcfcejicdkaaGreatDoorTreeNear2
import Derived.Laws.EntriesVeiled
import Derived.Laws.OwnMore
import Derived.Laws.Cover3
set_option linter.unusedSimpArgs false
set_option linter.unusedVariables false
namespace Go.Proofs.YtlkfcfcejicdkaaGreatDoor
open Go Go.RowKit

/-- The worlds of a search. -/
structure KF (w0 W : World) (bb bg bf : Nat) (b : Int) (v0 v1 : Value) : Prop where
  hb_ : W.heap[bb]? = some (.cells #[.int .i64 b] 3 (0, 0))
  hg_ : W.heap[bg]? = some (.cells #[v0, v1] 25 (0, 0))
  hf_ : W.heap[bf]? = some (.cells #[.func (.func 36) #[] #[.pointer (some ⟨bb, 0, none⟩), .pointer (some ⟨bg, 0, none⟩), .pointer (some ⟨bf, 0, none⟩)]] 67 (0, 0))
  old : Below w0.heap.size w0 W
theorem KF.step {w0 W W' : World} {bb bg bf : Nat} {b : Int} {v0 v1 : Value} (h : KF w0 W bb bg bf b v0 v1) (hb : Below W.heap.size W W') : KF w0 W' bb bg bf b v0 v1 :=
  ⟨(hb.block _ (Array.getElem?_eq_some_iff.1 h.hb_).1).trans h.hb_, (hb.block _ (Array.getElem?_eq_some_iff.1 h.hg_).1).trans h.hg_, (hb.block _ (Array.getElem?_eq_some_iff.1 h.hf_).1).trans h.hf_, h.old.trans (hb.mono h.old.size)⟩
/-- What a search answers. -/
def FindR (W : World) (e : Ending) (w' : World) : Option (List Int) → Prop
  | none => e = .returned (.slice none 0 0) ∧ Hid (Below W.heap.size W w')
  | some p => ∃ (g off c : Nat), e = .returned (.slice (some ⟨g, off, none⟩) p.length c) ∧ Hid (RowAt w' (some ⟨g, off, none⟩) (intVs p) ∧ Below W.heap.size W w')
theorem FindR.mono {W0 W w' : World} {e : Ending} {r : Option (List Int)} (h : FindR W e w' r) (hb : Below W0.heap.size W0 W) : FindR W0 e w' r := by
  match r, h with
  | none, h => exact ⟨h.1, hb.trans (h.2.out.mono hb.size)⟩
  | some p, ⟨g, off, c, h1, h2⟩ => exact ⟨g, off, c, h1, h2.out.1, hb.trans (h2.out.2.mono hb.size)⟩
theorem findSome_take {α β : Type} {F : α → Option β} {l : List α} {j : Nat} {x : α} (hx : l[j]? = some x) (h : ∀ y ∈ l.take j, F y = none) {r : β} (hr : F x = some r) : l.findSome? F = some r := by
  obtain ⟨h1, h2⟩ := List.getElem?_eq_some_iff.1 hx
  have h3 : l = l.take (j + 1) ++ l.drop (j + 1) := (List.take_append_drop _ _).symm
  rw [h3, List.findSome?_append, take_snoc hx, List.findSome?_append, List.findSome?_eq_none_iff.2 h]
  simp [hr]
theorem RowAt.news {w : World} {g off : Nat} {vs : List Value} (h : RowAt w (some ⟨g, off, none⟩) vs) : ∀ (j : Nat) (u : Value), vs[j]? = some u → w.cell? ((⟨g, off, none⟩ : Addr).add j) = some u := fun j u hu => by
  rcases h with h | ⟨g2, off2, e, h⟩
  · rw [h] at hu; simp at hu
  · cases e
    rw [Addr.add_lit]
    exact h j u hu
theorem nil_ne0 (w : World) : Sem.run Tryz.prog (binOp BinOp.neq 22 (Value.slice none 0 0) (Value.slice none 0 0)) w = .ok (.bool false) w := by
  rw [run_neq_slice_nil (h := Tryz.underlying22)]; rfl
theorem nil_ne1 (a : Addr) (k c : Nat) (w : World) : Sem.run Tryz.prog (binOp BinOp.neq 22 (Value.slice (some a) k c) (Value.slice none 0 0)) w = .ok (.bool true) w := by
  rw [run_neq_slice_nil (h := Tryz.underlying22)]; rfl
set_option maxRecDepth 100000 in
set_option maxHeartbeats 4000000 in
theorem find_any (w0 : World) (bb bg bf : Nat) (b : Int) (Am : Option Addr) (nm cm : Nat) (Al : Option Addr) (q cl : Nat) (ms : List Int) (ls : List Lk) (hl : ls.length = q) (hA : RowAt w0 Al (lkCells ls)) (hq : q ≤ 1000) (hgd : Good ms ls) :
    ∀ (f : Nat) (n fr : Int) (t : List Int) (W : World), n ∈ ms → Wk ls (n :: t) → NB (n :: t) → (t ≠ [] → t.head? = some fr) → 8 < f + t.length → KF w0 W bb bg bf b (.slice Am nm cm) (.slice Al q cl) →
      Calls Tryz.prog 36 #[.int .i64 n, .int .i64 fr, .pointer (some ⟨bb, 0, none⟩), .pointer (some ⟨bg, 0, none⟩), .pointer (some ⟨bf, 0, none⟩)] W fun e w' => FindR W e w' (findF ls b f n fr) := by
  have HA := Lib.hid hA
  have HN : Hid (q ≤ 1000 ∧ ls.length = q) := ⟨hq, hl⟩
  have HG := Lib.hid hgd
  clear hA hq hl hgd
  intro f
  induction f with
  | zero =>
    intro n fr t W hn hw hb _ hf _
    have h1 := HG.out.tr.simple hw hb
    have h2 : ∀ x ∈ n :: t, x ∈ ms := fun x hx => by
      cases t with
      | nil => simp at hx; rw [hx]; exact hn
      | cons y t => exact Wk.members HG.out.tr hw x hx
    have h3 := nodup_le h1 h2
    have h4 := HG.out.small.1
    simp at h3
    omega
  | succ f ih =>
    intro n fr t W hn hw hb hh hf hS
    have HIH : Hid (∀ (m : Int) (W : World), m ∈ nears ls n → m ≠ fr → KF w0 W bb bg bf b (.slice Am nm cm) (.slice Al q cl) → Calls Tryz.prog 36 #[.int .i64 m, .int .i64 n, .pointer (some ⟨bb, 0, none⟩), .pointer (some ⟨bg, 0, none⟩), .pointer (some ⟨bf, 0, none⟩)] W fun e w' => FindR W e w' (findF ls b f m n)) := fun m W hm hmf hK => by
      have ha := (nears_iff.1 hm).2
      refine ih m n (n :: t) W (HG.out.tr.irr ha).2.2 ⟨adj_symm ha, hw⟩ ?_ (fun _ => rfl) (by simp; omega) hK
      cases t with
      | nil => trivial
      | cons y t => exact ⟨fun e => hmf (by have := hh (by simp); simp at this; rw [e, this]), hb⟩
    have HS := Lib.hid hS
    clear ih hn hw hb hh hf hS
    obtain ⟨l0, lf, ll⟩ := cell1 HS.out.hb_
    obtain ⟨g0, g1, gf, gl⟩ := cell2 HS.out.hg_
    by_cases hnb : n = b
    · have HF : Hid (findF ls b (f + 1) n fr = some [n]) := by rw [findF, if_pos hnb]; rfl
      have e1 : (n == b) = true := by simpa using hnb
      have hnew := Lib.hid (heap_alloc_new W (.cells #[.int .i64 n] 3))
      have hbl : Hid (Below W.heap.size W (W.alloc (.cells #[.int .i64 n] 3))) := (Below.refl _ _).alloc (Nat.le_refl _) _
      clear hnb HIH
      go_enter Tryz.func36, Tryz.ntmps36
      go_wp2
      go_ret
      rw [HF.out]
      refine ⟨W.heap.size, 0, 1, rfl, .inr ⟨_, _, rfl, fun j u hu => ?_⟩, hbl.out⟩
      match j, hu with
      | 0, hu => cases hu; exact (cell1 hnew.out).1
    · have HF : Hid (findF ls b (f + 1) n fr = (nears ls n).findSome? fun m => if m = fr then none else (findF ls b f m n).map (n :: ·)) := by rw [findF, if_neg hnb]; rfl
      have e1 : (n == b) = false := by simpa using hnb
      obtain ⟨kn, hkn⟩ : ∃ kn, Hid ((nears ls n).length = kn ∧ kn ≤ 8) := ⟨_, rfl, List.length_filter_le _ _⟩
      have HNE : Hid (Calls Tryz.prog 37 #[grV Am nm cm Al q cl, .int .i64 n] W fun e w' => ∃ (A : Option Addr) (c : Nat), e = .returned (.slice A kn c) ∧ Hid (RowAt w' A (intVs (nears ls n)) ∧ Below W.heap.size W w')) := by
        have hg := HG.out
        rw [← hkn.out.1]
        refine (near_any Am nm cm Al q cl ls n W HN.out.2 (HA.out.below HS.out.old) HN.out.1 hg.ls_.nodup fun k hk => ⟨(hg.ls_.2 k hk).1, hg.ms_.2 _ (hg.ls_.2 k hk).2.1, hg.ms_.2 _ (hg.ls_.2 k hk).2.2⟩).mono ?_
        rintro e w' ⟨A, c, rfl, h⟩
        exact ⟨A, c, rfl, h.out.1, h.out.2.1⟩
      obtain ⟨i0, hi, hz0, hz1, hz2⟩ := info_parts int_info
      clear hnb
      go_enter Tryz.func36, Tryz.ntmps36
      go_wp2_with fail
      refine HNE.out.mono ?_
      rintro e w7 ⟨A5, c5, rfl, H7⟩
      clear l0 lf ll g0 g1 gf gl HNE
      go_wp2
      go_loopw [20] (fun i wr => ∃ (j : Nat), j ≤ kn ∧ i = .int .i64 j ∧ Hid ((∀ m ∈ (nears ls n).take j, (if m = fr then none else (findF ls b f m n).map (n :: ·)) = none) ∧ Below w7.heap.size w7 wr)) (fun i _ => kn - (intOf i).toNat)
      case atStart => exact ⟨0, Nat.zero_le _, rfl, by simp, Below.refl _ _⟩
      case round =>
        obtain ⟨j, hj, rfl, HL⟩ := hrel
        have HBW : Hid (Below W.heap.size W wr) := H7.out.2.trans (HL.out.2.mono H7.out.2.size)
        by_cases hlt : j < kn
        · obtain ⟨x, hx⟩ : ∃ x, Hid ((nears ls n)[j]? = some x) := ⟨_, List.getElem?_eq_getElem (by have := hkn.out; omega)⟩
          have hw1 : IntKind.i64.wrap ((j : Int) + 1) = ((j + 1 : Nat) : Int) := by have := hkn.out; rw [IntKind.wrap_i64]; omega
          have hj0 : ((0 : Int) ≤ j) := by omega
          have hj1 : ((j : Nat) : Int) < kn := by omega
          obtain ⟨g, off, rfl, x0, hg⟩ := (H7.out.1.below HL.out.2).int hx.out
          have HK := Lib.hid (HS.out.step HBW.out)
          obtain ⟨v0, vf, vl⟩ := cell1 HK.out.hf_
          by_cases hxf : x = fr
          · have e2 : (x == fr) = true := by simpa using hxf
            have HX : Hid (x = fr) := hxf
            clear hxf
            go_wp2
            exact ⟨⟨j + 1, hlt, by go_num, mem_take_all hx.out HL.out.1 (by rw [if_pos HX.out]), HL.out.2⟩, by simp [intOf]; omega⟩
          · have e2 : (x == fr) = false := by simpa using hxf
            have HX : Hid (x ≠ fr) := hxf
            have HCA := Lib.hid (HIH.out x wr (List.mem_of_getElem? hx.out) hxf HK.out)
            clear hxf
            have hn0 := nil_ne0
            have hn1 := nil_ne1
            cases hfr : findF ls b f x n with
            | none =>
              rw [hfr] at HCA
              have HNO : Hid ((if x = fr then none else (findF ls b f x n).map (n :: ·)) = none) := by rw [if_neg HX.out, hfr]; rfl
              clear hfr
              go_wp2_with (go_at_call 36; refine HCA.out.mono ?_; rintro e w9 ⟨rfl, H9⟩)
              go_wp2
              exact ⟨⟨j + 1, hlt, by go_num, mem_take_all hx.out HL.out.1 HNO.out, HL.out.2.trans (H9.out.mono HL.out.2.size)⟩, by simp [intOf]; omega⟩
            | some p =>
              rw [hfr] at HCA
              have HYES : Hid (findF ls b (f + 1) n fr = some (n :: p)) := by
                rw [Hid, HF.out]
                exact findSome_take hx.out HL.out.1 (by rw [if_neg HX.out, hfr]; rfl)
              have hpl : p.length ≤ 8 ∧ 0 < p.length := by
                have hw := (find_sound hfr).1
                obtain ⟨t, rfl⟩ := hw.cons
                have h1 := HG.out.tr.simple hw.wk hw.nb
                have h2 : ∀ y ∈ x :: t, y ∈ ALL := fun y hy => by
                  cases t with
                  | nil => simp at hy; rw [hy]; exact (nears_iff.1 (List.mem_of_getElem? hx.out)).1
                  | cons z t => exact HG.out.ms_.2 _ (Wk.members HG.out.tr hw.wk y hy)
                exact ⟨nodup_le h1 (m := ALL) h2, by simp⟩
              have HPL := Lib.hid hpl
              clear hfr hpl
              obtain ⟨kp, hkp⟩ : ∃ kp, Hid (p.length = kp) := ⟨_, rfl⟩
              have hm1 : Hid (1 + kp ≤ maxLen) := Nat.le_trans (show 1 + kp ≤ 9 by have := HPL.out; rw [hkp.out] at this; omega) (by decide)
              have hb1 : Hid ((1 + kp) * 8 ≤ 140737488355328) := by have := HPL.out; rw [hkp.out] at this; simp only [Hid]; omega
              have hkp0 : Hid (0 < kp) := by have := HPL.out; rw [hkp.out] at this; exact this.2
              have HCB : Hid (Calls Tryz.prog 36 #[.int .i64 x, .int .i64 n, .pointer (some ⟨bb, 0, none⟩), .pointer (some ⟨bg, 0, none⟩), .pointer (some ⟨bf, 0, none⟩)] wr fun e w' => ∃ (g off c : Nat), e = .returned (.slice (some ⟨g, off, none⟩) kp c) ∧ Hid (RowAt w' (some ⟨g, off, none⟩) (intVs p) ∧ Below wr.heap.size wr w')) := by
                rw [← hkp.out]; exact HCA.out
              clear HCA
              have HSZ : Hid (∀ (w9 : World) o, w9.heap.size ≤ (w9.alloc o).heap.size) := fun w9 o => by simp
              have HNW : Hid (∀ w9 : World, (w9.alloc (.cells #[.int .i64 n] 3)).ownsRow w9.heap.size 3 1 (.slice (some ⟨w9.heap.size, 0, none⟩) 1 1) 1 [.int .i64 n]) := fun w9 => World.ownsRow_lit w9 #[.int .i64 n] 1 (Nat.le_refl _) (by decide) (by rfl)
              have HNS : Hid (∀ (w9 : World) (g9 off9 : Nat) o, RowAt w9 (some ⟨g9, off9, none⟩) (intVs p) → ∀ (j : Nat) (u : Value), (intVs p)[j]? = some u → (w9.alloc o).cell? ((⟨g9, off9, none⟩ : Addr).add j) = some u) := fun w9 g9 off9 o h => (h.below ((Below.refl _ _).alloc (Nat.le_refl _) o)).news
              have HLN : Hid ((intVs p).length = kp * 1) := by rw [Hid, intVs_len, hkp.out, Nat.mul_one]
              have HFI : Hid (∀ (w9 w10 : World) (o : Obj) (g8 c8 : Nat), Below W.heap.size W w9 → (w9.alloc o).ownsRow w9.heap.size 3 1 (.slice (some ⟨w9.heap.size, 0, none⟩) 1 1) 1 [.int .i64 n] → w10.ownsRow w9.heap.size 3 1 (.slice (some ⟨g8, 0, none⟩) (1 + kp) c8) (1 + kp) ([.int .i64 n] ++ intVs p) → (w9.alloc o).grownBy w10 (Value.slice (some ⟨w9.heap.size, 0, none⟩) 1 1).ownBlock → FindR W (.returned (.slice (some ⟨g8, 0, none⟩) (1 + kp) c8)) w10 (findF ls b (f + 1) n fr)) := fun w9 w10 o g8 c8 h0 h1 h2 h3 => by
                rw [HYES.out]
                refine ⟨g8, 0, c8, by rw [List.length_cons, hkp.out, Nat.add_comm], RowAt.of_own h2, h0.trans (Below.mono ?_ h0.size)⟩
                exact below_push ((Below.refl _ _).alloc (Nat.le_refl _) o) h1 (by simp) h3
              go_wp2_with (first
                | (at_builtin; refine wpList_append_lies _ rfl _ _ 22 rfl w9.heap.size 3 i0 (.int .i64 0) 1 8 Tryz.underlying22 hi hz0 hz1 hz2 rfl (by decide) (.slice (some ⟨w9.heap.size, 0, none⟩) 1 1) 1 _ rfl (HNW.out _) ⟨g9, off9, none⟩ kp c9 (intVs p) rfl HLN.out (HNS.out _ _ _ _ H9.out.1) (intVs_one p) hkp0.out hm1.out hb1.out (HSZ.out _ _) _ rfl ?_; intro g8 c8 w10 hown10 hgrow10 hog10 hlt10; have H10 := HFI.out _ _ _ _ _ (HBW.out.trans (H9.out.2.mono HBW.out.size)) (HNW.out _) hown10 hgrow10)
                | (go_at_call 36; refine HCB.out.mono ?_; rintro e w9 ⟨g9, off9, c9, rfl, H9⟩))
              refine bodyPost_ret (v := .slice (some ⟨g8, 0, none⟩) (1 + kp) c8) ?_ rfl ?_
              · simp [results, Tryz.results36, go_sem]
              · exact H10
        · have hjn : j = kn := by omega
          subst hjn
          have hall : (nears ls n).take j = nears ls n := by rw [← hkn.out.1]; exact List.take_length
          have HNO : Hid (findF ls b (f + 1) n fr = none) := by
            have h1 := HL.out.1
            rw [hall] at h1
            rw [Hid, HF.out]
            exact List.findSome?_eq_none_iff.2 h1
          go_wp2
          go_ret
          rw [HNO.out]
          exact ⟨rfl, HBW.out⟩
end Go.Proofs.YtlkfcfcejicdkaaGreatDoor
