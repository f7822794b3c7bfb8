/-
  tree: side and its closure that visits, walked: the search in depth. Own work.
-/
import Derived.Test.YtlkfcfcejicdkaaGreatDoorTreeNear
set_option linter.unusedSimpArgs false
set_option linter.unusedVariables false
namespace Go.Proofs.YtlkfcfcejicdkaaGreatDoor
open Go Go.RowKit

/-- What a visit leaves of the list. -/
def VKeep (l r : List Int) : Prop := r.Nodup ∧ (∀ x ∈ r, x ∈ ALL) ∧ l.length ≤ r.length
theorem fold_keep (F : List Int → Int → List Int) (fr : Int) (hF : ∀ acc m, acc.Nodup → (∀ x ∈ acc, x ∈ ALL) → m ∈ ALL → VKeep acc (F acc m)) : ∀ (ns : List Int) (acc : List Int), acc.Nodup → (∀ x ∈ acc, x ∈ ALL) → (∀ m ∈ ns, m ∈ ALL) → VKeep acc (ns.foldl (fun l m => if m = fr then l else F l m) acc)
  | [], acc, h1, h2, _ => ⟨h1, h2, Nat.le_refl _⟩
  | m :: ns, acc, h1, h2, h3 => by
    rw [List.foldl_cons]
    by_cases e : m = fr
    · rw [if_pos e]; exact fold_keep F fr hF ns acc h1 h2 fun q hq => h3 q (List.mem_cons_of_mem _ hq)
    · rw [if_neg e]
      obtain ⟨k1, k2, k3⟩ := hF acc m h1 h2 (h3 m (by simp))
      obtain ⟨k4, k5, k6⟩ := fold_keep F fr hF ns _ k1 k2 fun q hq => h3 q (List.mem_cons_of_mem _ hq)
      exact ⟨k4, k5, Nat.le_trans k3 k6⟩
theorem snoc_keep {l : List Int} {n : Int} (h1 : l.Nodup) (h2 : ∀ x ∈ l, x ∈ ALL) (hn : n ∈ ALL) (hnl : n ∉ l) : (l ++ [n]).Nodup ∧ ∀ x ∈ l ++ [n], x ∈ ALL := by
  refine ⟨List.nodup_append.2 ⟨h1, by simp, fun x hx y hy e => ?_⟩, fun x hx => ?_⟩
  · have e2 : y = n := by simpa using hy
    exact hnl (by rw [← e2, ← e]; exact hx)
  · rcases List.mem_append.1 hx with h | h
    · exact h2 x h
    · have e2 : x = n := by simpa using h
      rw [e2]; exact hn
theorem visit_keep (ls : List Lk) : ∀ (f : Nat) (l : List Int) (n fr : Int), l.Nodup → (∀ x ∈ l, x ∈ ALL) → n ∈ ALL → VKeep l (visitF ls f l n fr)
  | 0, l, n, fr, h1, h2, _ => ⟨h1, h2, Nat.le_refl _⟩
  | f + 1, l, n, fr, h1, h2, hn => by
    rw [visitF]
    by_cases hnl : n ∈ l
    · rw [if_pos hnl]; exact ⟨h1, h2, Nat.le_refl _⟩
    · rw [if_neg hnl]
      obtain ⟨k1, k2⟩ := snoc_keep h1 h2 hn hnl
      obtain ⟨k3, k4, k5⟩ := fold_keep (fun l m => visitF ls f l m n) fr (fun acc m h1 h2 hm => visit_keep ls f acc m n h1 h2 hm) (nears ls n) (l ++ [n]) k1 k2 fun m hm => (nears_iff.1 hm).1
      exact ⟨k3, k4, by rw [List.length_append] at k5; omega⟩
/-- The round of a visit. -/
def visitR (ls : List Lk) (f : Nat) (n fr : Int) (l : List Int) (m : Int) : List Int := if m = fr then l else visitF ls f l m n

/-- The boxes of a search: the graph, the list, the closure. -/
structure VSt (w0 W : World) (bg bl bv base : Nat) (Am : Option Addr) (nm cm : Nat) (Al : Option Addr) (q cl : Nat) (A : Option Addr) (m c : Nat) (acc : List Int) : Prop where
  g : W.heap[bg]? = some (.cells #[.slice Am nm cm, .slice Al q cl] 25 (0, 0))
  l : W.heap[bl]? = some (.cells #[.slice A m c] 22 (0, 0))
  v : W.heap[bv]? = some (.cells #[.func (.func 64) #[] #[.pointer (some ⟨bl, 0, none⟩), .pointer (some ⟨bg, 0, none⟩), .pointer (some ⟨bv, 0, none⟩)]] 89 (0, 0))
  own : W.ownsRow base 3 1 (.slice A m c) m (intVs acc)
  old : Below w0.heap.size w0 W
  low : w0.heap.size ≤ bg ∧ bg < bl ∧ bl < bv ∧ bv < base ∧ base ≤ W.heap.size
/-- What a visit may turn: the list's box, and the list's row. -/
structure VFr (W W' : World) (bl : Nat) (o o' : Option Nat) : Prop where
  size : W.heap.size ≤ W'.heap.size
  keep : ∀ g, g < W.heap.size → g ≠ bl → o ≠ some g → W'.heap[g]? = W.heap[g]?
  own : ∀ g, o' = some g → o = some g ∨ W.heap.size ≤ g
section
variable {w0 W W' W2 : World} {bg bl bv base : Nat} {Am : Option Addr} {nm cm : Nat} {Al : Option Addr} {q cl : Nat} {A : Option Addr} {m c : Nat} {acc : List Int}
theorem VFr.refl (W : World) (bl : Nat) (o : Option Nat) : VFr W W bl o o := ⟨Nat.le_refl _, fun _ _ _ _ => rfl, fun _ h => .inl h⟩
theorem VFr.trans {o o' o2 : Option Nat} (h : VFr W W' bl o o') (k : VFr W' W2 bl o' o2) : VFr W W2 bl o o2 :=
  ⟨Nat.le_trans h.size k.size, fun g h1 h2 h3 => (k.keep g (Nat.lt_of_lt_of_le h1 h.size) h2 fun e => by
    rcases h.own g e with h4 | h4
    · exact h3 h4
    · omega).trans (h.keep g h1 h2 h3), fun g hg => by
    rcases k.own g hg with h1 | h1
    · exact h.own g h1
    · exact .inr (Nat.le_trans h.size h1)⟩
theorem VFr.of_below {o : Option Nat} (hb : Below W.heap.size W W') : VFr W W' bl o o := ⟨hb.size, fun g hg _ _ => hb.block g hg, fun _ h => .inl h⟩
theorem VSt.below (h : VSt w0 W bg bl bv base Am nm cm Al q cl A m c acc) (hb : Below W.heap.size W W') : VSt w0 W' bg bl bv base Am nm cm Al q cl A m c acc := by
  have hl := h.low
  exact ⟨(hb.block _ (by omega)).trans h.g, (hb.block _ (by omega)).trans h.l, (hb.block _ (by omega)).trans h.v, ownsRow_below h.own hb, h.old.trans (hb.mono h.old.size), hl.1, hl.2.1, hl.2.2.1, hl.2.2.2.1, Nat.le_trans hl.2.2.2.2 hb.size⟩
/-- The list with one more, stored back. -/
theorem VSt.push {g8 c8 : Nat} {x : Int} {o : Obj} (h : VSt w0 W bg bl bv base Am nm cm Al q cl A m c acc) (hown : W2.ownsRow base 3 1 (.slice (some ⟨g8, 0, none⟩) (m + 1) c8) (m + 1) (intVs acc ++ [.int .i64 x])) (hg : (W.alloc o).grownBy W2 (Value.slice A m c).ownBlock) (hog : (Value.slice A m c).ownBlock = some g8 ∨ g8 = W.heap.size + 1) :
    VSt w0 (W2.setCell ⟨bl, 0, none⟩ (.slice (some ⟨g8, 0, none⟩) (m + 1) c8)) bg bl bv base Am nm cm Al q cl (some ⟨g8, 0, none⟩) (m + 1) c8 (acc ++ [x]) ∧ VFr W (W2.setCell ⟨bl, 0, none⟩ (.slice (some ⟨g8, 0, none⟩) (m + 1) c8)) bl (Value.slice A m c).ownBlock (Value.slice (some ⟨g8, 0, none⟩) (m + 1) c8).ownBlock := by
  have hl := h.low
  have hbl : Below base W W2 := below_push ((Below.refl _ _).alloc hl.2.2.2.2 o) (h.own.alloc o) (Nat.le_trans hl.2.2.2.2 (by simp)) hg
  have hne : ∀ g, g ≠ bl → (W2.setCell ⟨bl, 0, none⟩ (.slice (some ⟨g8, 0, none⟩) (m + 1) c8)).heap[g]? = W2.heap[g]? := fun g hg => Below.heap_setCell _ _ _ _ (by exact hg)
  have hsz : (W2.setCell ⟨bl, 0, none⟩ (.slice (some ⟨g8, 0, none⟩) (m + 1) c8)).heap.size = W2.heap.size := by simp [World.setCell]
  have hgs := hg.size
  have hal : (W.alloc o).heap.size = W.heap.size + 1 := by simp
  refine ⟨⟨(hne _ (by omega)).trans ((hbl.block _ (by omega)).trans h.g), ?_, (hne _ (by omega)).trans ((hbl.block _ (by omega)).trans h.v), ?_, ?_, hl.1, hl.2.1, hl.2.2.1, hl.2.2.2.1, ?_⟩, ?_, fun g h1 h2 h3 => ?_, fun g h1 => ?_⟩
  · show (W2.heap.modify bl _)[bl]? = _
    rw [Array.getElem?_modify, if_pos rfl, hbl.block _ (by omega), h.l]; rfl
  · rw [intVs_append]
    exact ownsRow_keep hown fun g hg => hne g (by obtain ⟨_, _, h1, _⟩ := own_block hown hg; omega)
  · exact belowS (h.old.trans (hbl.mono (by omega))) (by omega) _
  · omega
  · omega
  · rw [hne g h2, hg.block g (by omega) (fun e => h3 e.symm), Below.heap_alloc _ _ _ h1]
  · have e : g8 = g := by simpa [Value.ownBlock] using h1
    subst e
    rcases hog with h2 | h2
    · exact .inl h2
    · exact .inr (by omega)
end

theorem VSt.grown {w0 W W2 : World} {bg bl bv base : Nat} {Am : Option Addr} {nm cm : Nat} {Al : Option Addr} {q cl : Nat} {A : Option Addr} {m c : Nat} {acc : List Int} {o : Obj} (h : VSt w0 W bg bl bv base Am nm cm Al q cl A m c acc) (hg : (W.alloc o).grownBy W2 (Value.slice A m c).ownBlock) :
    W2.heap[bl]? = some (.cells #[.slice A m c] 22 (0, 0)) ∧ W2.heap[bg]? = some (.cells #[.slice Am nm cm, .slice Al q cl] 25 (0, 0)) ∧ ¬ (bg = bl) ∧ ¬ (bl = bg) := by
  have hl := h.low
  have hbl : Below base W W2 := below_push ((Below.refl _ _).alloc hl.2.2.2.2 o) (h.own.alloc o) (Nat.le_trans hl.2.2.2.2 (by simp)) hg
  exact ⟨(hbl.block _ (by omega)).trans h.l, (hbl.block _ (by omega)).trans h.g, by omega, by omega⟩
theorem own_any (A : Option Addr) (n c m d : Nat) : (Value.slice A n c).ownBlock = (Value.slice A m d).ownBlock := by cases A <;> rfl
/-- The facts of a round. -/
def VRound (w0 W wr : World) (bg bl bv base : Nat) (Am : Option Addr) (nm cm : Nat) (Al : Option Addr) (q cl : Nat) (o : Option Nat) (A5 : Option Addr) (k5 : Nat) (ns : List Int) (r : List Int) : Prop := ∃ (A : Option Addr) (m c : Nat), r.length = m ∧ VSt w0 wr bg bl bv base Am nm cm Al q cl A m c r ∧ VFr W wr bl o (Value.slice A m c).ownBlock ∧ RowAt wr A5 (intVs ns) ∧ ∀ g, (Value.slice A5 k5 k5).ownBlock = some g → g < wr.heap.size ∧ g ≠ bl ∧ (Value.slice A m c).ownBlock ≠ some g
/-- What a visit ends with. -/
def VEnd (w0 W w' : World) (bg bl bv base : Nat) (Am : Option Addr) (nm cm : Nat) (Al : Option Addr) (q cl : Nat) (o : Option Nat) (r : List Int) : Prop := ∃ (A : Option Addr) (m c : Nat), r.length = m ∧ VSt w0 w' bg bl bv base Am nm cm Al q cl A m c r ∧ VFr W w' bl o (Value.slice A m c).ownBlock

set_option maxRecDepth 100000 in
set_option maxHeartbeats 4000000 in
theorem visit_any (w0 : World) (bg bl bv base : Nat) (Am : Option Addr) (nm cm : Nat) (Al : Option Addr) (q cl : Nat) (ls : List Lk) (hl : ls.length = q) (hA : RowAt w0 Al (lkCells ls)) (hq : q ≤ 1000) (hn : ls.Nodup) (hk : ∀ k ∈ ls, k.1 < k.2 ∧ k.1 ∈ ALL ∧ k.2 ∈ ALL) :
    ∀ (f : Nat) (n fr : Int) (A : Option Addr) (m c : Nat) (acc : List Int) (W : World), n ∈ ALL → acc.Nodup → (∀ x ∈ acc, x ∈ ALL) → acc.length = m → 8 < f + m → VSt w0 W bg bl bv base Am nm cm Al q cl A m c acc →
      Calls Tryz.prog 64 #[.int .i64 n, .int .i64 fr, .pointer (some ⟨bl, 0, none⟩), .pointer (some ⟨bg, 0, none⟩), .pointer (some ⟨bv, 0, none⟩)] W fun e w' => e = .returned (.tuple #[]) ∧ Hid (VEnd w0 W w' bg bl bv base Am nm cm Al q cl (Value.slice A m c).ownBlock (visitF ls f acc n fr)) := by
  have HA := Lib.hid hA
  have HN : Hid (q ≤ 1000 ∧ ls.length = q) := ⟨hq, hl⟩
  have HK : Hid (ls.Nodup ∧ ∀ k ∈ ls, k.1 < k.2 ∧ k.1 ∈ ALL ∧ k.2 ∈ ALL) := ⟨hn, hk⟩
  clear hA hq hl hn hk
  intro f
  induction f with
  | zero =>
    intro n fr A m c acc W hnA hnd hall hm hf _
    have := nodup_le hnd (m := ALL) hall
    have e : ALL.length = 8 := rfl
    omega
  | succ f ih =>
    intro n fr A m c acc W hnA hnd hall hm hf hS
    have HIH : Hid (∀ (n fr : Int) (A : Option Addr) (m c : Nat) (acc : List Int) (W : World), n ∈ ALL → acc.Nodup → (∀ x ∈ acc, x ∈ ALL) → acc.length = m → 8 < f + m → VSt w0 W bg bl bv base Am nm cm Al q cl A m c acc →
      Calls Tryz.prog 64 #[.int .i64 n, .int .i64 fr, .pointer (some ⟨bl, 0, none⟩), .pointer (some ⟨bg, 0, none⟩), .pointer (some ⟨bv, 0, none⟩)] W fun e w' => e = .returned (.tuple #[]) ∧ Hid (VEnd w0 W w' bg bl bv base Am nm cm Al q cl (Value.slice A m c).ownBlock (visitF ls f acc n fr))) := ih
    have HF : Hid (n ∈ ALL ∧ acc.Nodup ∧ (∀ x ∈ acc, x ∈ ALL) ∧ acc.length = m ∧ 8 < f + 1 + m ∧ m ≤ 8) := ⟨hnA, hnd, hall, hm, hf, by rw [← hm]; exact nodup_le hnd (m := ALL) hall⟩
    have HS := Lib.hid hS
    have HC := Lib.hid (contains_any A m c acc n W hm (RowAt.of_own hS.own) (by have := HF.out; omega))
    clear ih hnA hnd hall hm hf hS
    obtain ⟨i0, hi, hz0, hz1, hz2⟩ := info_parts int_info
    obtain ⟨l0, lf, ll⟩ := cell1 HS.out.l
    by_cases hin : n ∈ acc
    · have HIN : Hid (n ∈ acc) := hin
      have HC2 : Hid (Calls Tryz.prog 65 #[.slice A m c, .int .i64 n] W fun e w' => e = .returned (.bool true) ∧ w' = W) := by
        have := HC.out; rw [decide_eq_true hin] at this; exact this
      clear hin HC
      go_enter Tryz.func64, Tryz.ntmps64
      go_wp2_with fail
      refine HC2.out.mono ?_
      rintro e w' ⟨rfl, rfl⟩
      go_wp2
      refine bodyPost_ret (v := .tuple #[]) ?_ rfl ?_
      · simp [results, Tryz.results64, go_sem]
      · exact ⟨rfl, by rw [visitF, if_pos HIN.out]; exact ⟨A, m, c, HF.out.2.2.2.1, HS.out, VFr.refl _ _ _⟩⟩
    · have HIN : Hid (n ∉ acc) := hin
      have HC2 : Hid (Calls Tryz.prog 65 #[.slice A m c, .int .i64 n] W fun e w' => e = .returned (.bool false) ∧ w' = W) := by
        have := HC.out; rw [decide_eq_false hin] at this; exact this
      have hm1 : Hid (m + 1 ≤ maxLen) := Nat.le_trans (show m + 1 ≤ 9 by have := HF.out; omega) (by decide)
      have hb1 : Hid ((m + 1) * 8 ≤ 140737488355328) := by have := HF.out; simp only [Hid]; omega
      have hzz : Hid (∀ o1, base ≤ (W.alloc o1).heap.size) := fun o1 => Nat.le_trans HS.out.low.2.2.2.2 (by simp)
      have HO : Hid (∀ o1, (W.alloc o1).ownsRow base 3 1 (.slice A m c) m (intVs acc)) := fun o1 => HS.out.own.alloc o1
      clear hin HC
      go_enter Tryz.func64, Tryz.ntmps64
      go_wp2_with fail
      refine HC2.out.mono ?_
      rintro e w' ⟨rfl, rfl⟩
      go_wp2_with (at_builtin; refine wpList_append_lies _ rfl _ _ 22 rfl base 3 i0 (.int .i64 0) 1 8 Tryz.underlying22 hi hz0 hz1 hz2 rfl (by decide) (.slice A m c) m _ rfl (HO.out _) ⟨w'.heap.size, 0, none⟩ 1 1 [.int .i64 n] rfl rfl (new1 _ _ _ _ (by simp)) (by simp [Value.oneCell']) (by decide) hm1.out hb1.out (hzz.out _) (w'.heap.size + 1) (by simp) ?_; intro g8 c8 w5 hown5 hgrow5 hog5 hlt5; obtain ⟨hbl5, hbg5, ne1, ne2⟩ := HS.out.grown hgrow5; obtain ⟨k0, kf, kl⟩ := cell1 hbl5; obtain ⟨g0, g1, gf, gl⟩ := cell2 hbg5)
      have H5 := Lib.hid (HS.out.push hown5 hgrow5 hog5)
      obtain ⟨w6, hw6⟩ : ∃ w6, w6 = w5.setCell ⟨bl, 0, none⟩ (.slice (some ⟨g8, 0, none⟩) (m + 1) c8) := ⟨_, rfl⟩
      rw [← hw6] at H5 ⊢
      clear hw6 hown5 hgrow5 hog5 hlt5 hbl5 hbg5 k0 kf kl g0 g1 gf gl l0 lf ll hzz HO HC2
      have HNE := Lib.hid (near_any Am nm cm Al q cl ls n w6 HN.out.2 (HA.out.below H5.out.1.old) HN.out.1 HK.out.1 HK.out.2)
      refine HNE.out.mono ?_
      rintro e w7 ⟨A5, c5, rfl, H7⟩
      obtain ⟨kn, hkn⟩ : ∃ kn, Hid ((nears ls n).length = kn ∧ kn ≤ 8) := ⟨_, rfl, List.length_filter_le _ _⟩
      rw [hkn.out.1]
      have HR : Hid (VRound w0 w' w7 bg bl bv base Am nm cm Al q cl (Value.slice A m c).ownBlock A5 kn (nears ls n) (acc ++ [n])) := by
        refine ⟨_, _, _, by simp [HF.out.2.2.2.1], H5.out.1.below H7.out.2.1, H5.out.2.trans (VFr.of_below H7.out.2.1), H7.out.1, fun g hg => ?_⟩
        have h1 := H7.out.2.2 g ((own_any _ _ _ _ _).trans hg)
        have hlo := H5.out.1.low
        refine ⟨h1.2, by omega, fun e => ?_⟩
        obtain ⟨_, _, h2, h3⟩ := own_block H5.out.1.own e
        omega
      clear HNE H7 H5
      go_wp2
      go_loopw [20] (fun i wr => ∃ (j : Nat), j ≤ kn ∧ i = .int .i64 j ∧ Hid (VRound w0 w' wr bg bl bv base Am nm cm Al q cl (Value.slice A m c).ownBlock A5 kn (nears ls n) (((nears ls n).take j).foldl (visitR ls f n fr) (acc ++ [n])))) (fun i _ => kn - (intOf i).toNat)
      case atStart => exact ⟨0, Nat.zero_le _, rfl, HR.out⟩
      case round =>
        obtain ⟨j, hj, rfl, HL⟩ := hrel
        by_cases hlt : j < kn
        · obtain ⟨x, hx⟩ : ∃ x, Hid ((nears ls n)[j]? = some x) := ⟨_, List.getElem?_eq_getElem (by have := hkn.out; omega)⟩
          have hw1 : IntKind.i64.wrap ((j : Int) + 1) = ((j + 1 : Nat) : Int) := by have := hkn.out; rw [IntKind.wrap_i64]; omega
          have hj0 : ((0 : Int) ≤ j) := by omega
          have hj1 : ((j : Nat) : Int) < kn := by omega
          obtain ⟨A6, m6, c6, hm6, hS6, hF6, hR6, hD6⟩ := HL.out
          obtain ⟨acc6, hacc6⟩ : ∃ a, Hid (((nears ls n).take j).foldl (visitR ls f n fr) (acc ++ [n]) = a) := ⟨_, rfl⟩
          have HSN : Hid (((nears ls n).take (j + 1)).foldl (visitR ls f n fr) (acc ++ [n]) = visitR ls f n fr acc6 x) := by
            rw [Hid, take_snoc hx.out, List.foldl_append, hacc6.out]; rfl
          rw [hacc6.out] at hS6 hm6
          obtain ⟨g, off, rfl, x0, hg⟩ := hR6.int hx.out
          have HXA : Hid (x ∈ ALL ∧ acc6.Nodup ∧ (∀ y ∈ acc6, y ∈ ALL) ∧ 8 < f + m6) := by
            obtain ⟨s1, s2⟩ := snoc_keep HF.out.2.1 HF.out.2.2.1 HF.out.1 HIN.out
            obtain ⟨k1, k2, k3⟩ := fold_keep (fun l m => visitF ls f l m n) fr (fun acc m h1 h2 hm => visit_keep ls f acc m n h1 h2 hm) ((nears ls n).take j) (acc ++ [n]) s1 s2 fun m hm => (nears_iff.1 (List.mem_of_mem_take hm)).1
            have e : ((nears ls n).take j).foldl (fun l m => if m = fr then l else visitF ls f l m n) (acc ++ [n]) = acc6 := hacc6.out
            rw [e] at k1 k2 k3
            rw [List.length_append, List.length_singleton] at k3
            have := HF.out
            exact ⟨(nears_iff.1 (List.mem_of_getElem? hx.out)).1, k1, k2, by omega⟩
          have H6 := Lib.hid hS6
          have HM6 : Hid (acc6.length = m6) := hm6
          have HF6 := Lib.hid hF6
          have HR6 := Lib.hid hR6
          have HD6 := Lib.hid hD6
          obtain ⟨v0, vf, vl⟩ := cell1 hS6.v
          clear hS6 hF6 hR6 hD6 hm6 HL
          by_cases hxf : x = fr
          · subst hxf
            have HE : Hid (visitR ls f n x acc6 x = acc6) := by unfold visitR; rw [if_pos rfl]; rfl
            go_wp2
            exact ⟨⟨j + 1, hlt, by go_num, by rw [HSN.out, HE.out]; exact ⟨A6, m6, c6, HM6.out, H6.out, HF6.out, HR6.out, HD6.out⟩⟩, by simp [intOf]; omega⟩
          · have hb : (x != fr) = true := by simpa using hxf
            have HE : Hid (visitR ls f n fr acc6 x = visitF ls f acc6 x n) := by unfold visitR; rw [if_neg hxf]; rfl
            clear hxf
            go_wp2_with (go_at_call 64; refine (HIH.out x n A6 m6 c6 acc6 _ HXA.out.1 HXA.out.2.1 HXA.out.2.2.1 HM6.out HXA.out.2.2.2 H6.out).mono ?_; rintro e w9 ⟨rfl, H9⟩)
            go_wp2
            obtain ⟨A9, m9, c9, k1, k2, k3⟩ := H9.out
            refine ⟨⟨j + 1, hlt, by go_num, ?_⟩, by simp [intOf]; omega⟩
            rw [HSN.out, HE.out]
            refine ⟨A9, m9, c9, k1, k2, HF6.out.trans k3, HR6.out.keep fun g2 off2 e hg2 => ?_, fun g2 hg2 => ?_⟩
            · have h1 := HD6.out g2 (by rw [e]; rfl)
              exact k3.keep g2 hg2 h1.2.1 h1.2.2
            · have h1 := HD6.out g2 hg2
              refine ⟨Nat.lt_of_lt_of_le h1.1 k3.size, h1.2.1, fun e => ?_⟩
              rcases k3.own g2 e with h2 | h2
              · exact h1.2.2 h2
              · omega
        · have hjn : j = kn := by omega
          subst hjn
          have hall : (nears ls n).take j = nears ls n := by rw [← hkn.out.1]; exact List.take_length
          rw [hall] at HL
          obtain ⟨A6, m6, c6, hm6, hS6, hF6, _⟩ := HL.out
          have HE : Hid (visitF ls (f + 1) acc n fr = (nears ls n).foldl (visitR ls f n fr) (acc ++ [n])) := by rw [Hid, visitF, if_neg HIN.out]; rfl
          have HFIN : Hid (VEnd w0 w' wr bg bl bv base Am nm cm Al q cl (Value.slice A m c).ownBlock (visitF ls (f + 1) acc n fr)) := by rw [HE.out]; exact ⟨A6, m6, c6, hm6, hS6, hF6⟩
          clear hS6 hF6 hm6 HL
          go_wp2
          first
          | (refine bodyPost_ret (v := .tuple #[]) ?_ rfl ?_
             · simp [results, Tryz.results64, go_sem]
             · exact ⟨rfl, HFIN.out⟩)
          | (go_end0; exact ⟨rfl, HFIN.out⟩)
end Go.Proofs.YtlkfcfcejicdkaaGreatDoor
