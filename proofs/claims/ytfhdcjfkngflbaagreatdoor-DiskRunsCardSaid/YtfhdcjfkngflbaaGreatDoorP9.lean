/-
  disk: the document's Read, Names, Loose and has, walked. Own work.
  disk: what Sync and Crash share. Own work.
-/
import Derived.Test.YtfhdcjfkngflbaaGreatDoorP8
import Derived.Laws.MakeOwn
import Derived.Deep.RegionLaw
import Derived.Deep.AppendLies
set_option linter.unusedSimpArgs false
set_option linter.unusedVariables false
namespace Go.Proofs.YtfhdcjfkngflbaaGreatDoor
open Go Go.RowKit

theorem str_info : (Tryz.prog.info? 9).map (fun i => (i.zero, i.size, i.bytes)) = some (some (.string .empty), 1, 16) := by kernel_rfl
theorem new1 (w : World) (v : Value) (t : TypeId) (B : Nat) (hB : B = w.heap.size) : ∀ j u, [v][j]? = some u → (w.alloc (.cells #[v] t)).cell? ((⟨B, 0, none⟩ : Addr).add j) = some u := by
  subst hB
  exact World.news_of_block (cs := #[v]) (t := t) (fr := (0, 0)) (heap_alloc_new w _)
/-- A row of names. -/
def StrRow (w : World) (A : Option Addr) (ks : List ByteArray) : Prop := ∀ i k, ks[i]? = some k → ∃ g, A = some ⟨g, 0, none⟩ ∧ w.cell? ⟨g, i, none⟩ = some (.string k)
theorem StrRow.below {w w' : World} {A : Option Addr} {ks : List ByteArray} (h : StrRow w A ks) (hb : Below w.heap.size w w') : StrRow w' A ks := fun i k hk => by
  obtain ⟨g, e, hc⟩ := h i k hk
  exact ⟨g, e, (hb.cell (p := ⟨g, i, none⟩) (World.block_lt_of_cell? w _ hc)).trans hc⟩
theorem strRow_of {w : World} {base : Nat} {A : Option Addr} {n c : Nat} {ks : List ByteArray} (h : w.ownsRow base 9 1 (.slice A n c) n (ks.map Value.string)) : StrRow w A ks := fun i k hk => by
  have hl : ks.length = n := by have := h.1; simpa using this
  have hi : i < n := by rw [← hl]; exact (List.getElem?_eq_some_iff.1 hk).1
  rcases h.2 with ⟨hv, hn⟩ | ⟨g, cap, cur, hv, hb, hh, h1, h2, h3, h4⟩
  · omega
  · injection hv with hA _ _
    subst hA
    refine ⟨g, rfl, ?_⟩
    have e2 : w.cell? ⟨g, i, none⟩ = cur[i]? := by simp [World.cell?, hh]
    have e3 : (cur.toList.take (n * 1))[i]? = some (.string k) := by rw [h4, List.getElem?_map, hk]; rfl
    rw [List.getElem?_take, if_pos (by omega)] at e3
    rw [e2]; simpa using e3

section
variable (O : Nat → Prop) (A : Option Addr) (n c : Nat) (L : List RF) (last : Int)
set_option maxHeartbeats 1000000 in
theorem refread_none (name : ByteArray) (w : World) (h : RefD O w A n c L) (hn : n ≤ 64) (hk : ∀ f ∈ L, f.name ≠ name) :
    Calls Tryz.prog 25 #[.agg #[.slice A n c, .int .i64 last], .string name] w fun e w' => e = .returned (.tuple #[.slice none 0 0, eV (some 10)]) ∧ Hid (Below w.heap.size w w') := by
  obtain ⟨w1, hw1⟩ : ∃ w1, w1 = (w.alloc (.cells #[.slice A n c, .int .i64 last] 29)).alloc (.cells #[.bool false, .slice none 0 0, .int .i64 0] 53) := ⟨_, rfl⟩
  obtain ⟨b1, hb1⟩ : ∃ b1, b1 = w.heap.size + 1 := ⟨_, rfl⟩
  have H1 : Hid (Below w.heap.size w w1 ∧ w1.heap[b1]? = some (.cells #[.bool false, .slice none 0 0, .int .i64 0] 53 (0, 0)) ∧ w.heap.size ≤ b1) := by
    rw [hw1, hb1]
    refine ⟨((Below.refl _ _).alloc (Nat.le_refl _) _).alloc (by simp) _, ?_, by omega⟩
    have := heap_alloc_new (w.alloc (.cells #[.slice A n c, .int .i64 last] 29)) (.cells #[.bool false, .slice none 0 0, .int .i64 0] 53)
    simpa using this
  have HPL := Lib.hid (place_none O A n c L last name w1 (h.below H1.out.1) hn hk)
  clear h hn hk
  go_enter Tryz.func25, Tryz.ntmps25
  go_wp2_with fail
  rw [← hw1, ← hb1]
  clear hw1 hb1
  refine HPL.out.mono ?_
  rintro e w2 ⟨rfl, hb⟩
  have H2 := Lib.hid hb
  clear hb HPL
  go_wp2_with fail
  refine (n_any 10 _).mono ?_
  rintro e w3 ⟨rfl, hb3⟩
  have HE : Hid (w3.heap[b1]? = some (.cells #[.bool false, .slice none 0 0, .int .i64 0] 53 (0, 0)) ∧ Below w.heap.size w w3) := by
    have hl := (Array.getElem?_eq_some_iff.1 H1.out.2.1).1
    have hl2 := Nat.lt_of_lt_of_le hl H2.out.size
    exact ⟨(hb3.block _ hl2).trans ((H2.out.block _ hl).trans H1.out.2.1), (H1.out.1.trans (H2.out.mono H1.out.1.size)).trans (hb3.mono (Nat.le_trans H1.out.1.size H2.out.size))⟩
  obtain ⟨e0, e1, e2⟩ := cell3 HE.out.1
  have fe : ∀ i, w3.frozen? ⟨b1, i, none⟩ = false := fun i => by simp [World.frozen?, HE.out.1]
  clear hb3
  go_wp2
  refine bodyPost_ret (v := .tuple #[.slice none 0 0, eV (some 10)]) ?_ rfl ?_
  · simp [results, Tryz.results25, go_sem, eV, e0, e1, e2, fe]
  · exact ⟨rfl, belowS (belowS (belowS HE.out.2 H1.out.2.2 _) H1.out.2.2 _) H1.out.2.2 _⟩

set_option maxHeartbeats 1000000 in
theorem refread_some (i : Nat) (f0 : RF) (dl : Nat) (hdl : f0.data.length = dl) (w : World) (h : RefD O w A n c L) (hn : n ≤ 64) (hs : Sorted L) (hi : L[i]? = some f0) :
    Calls Tryz.prog 25 #[.agg #[.slice A n c, .int .i64 last], .string f0.name] w fun e w' => e = .returned (.tuple #[.slice f0.dA dl f0.dc, eV none]) ∧ Hid (Below w.heap.size w w') := by
  obtain ⟨w1, hw1⟩ : ∃ w1, w1 = (w.alloc (.cells #[.slice A n c, .int .i64 last] 29)).alloc (.cells #[.bool false, .slice none 0 0, .int .i64 0] 53) := ⟨_, rfl⟩
  obtain ⟨b1, hb1⟩ : ∃ b1, b1 = w.heap.size + 1 := ⟨_, rfl⟩
  obtain ⟨b0, hb0⟩ : ∃ b0, b0 = w.heap.size := ⟨_, rfl⟩
  have H1 : Hid (Below w.heap.size w w1 ∧ w1.heap[b1]? = some (.cells #[.bool false, .slice none 0 0, .int .i64 0] 53 (0, 0)) ∧ w.heap.size ≤ b1 ∧ w1.heap[b0]? = some (.cells #[.slice A n c, .int .i64 last] 29 (0, 0))) := by
    rw [hw1, hb1, hb0]
    refine ⟨((Below.refl _ _).alloc (Nat.le_refl _) _).alloc (by simp) _, ?_, by omega, ?_⟩
    · have := heap_alloc_new (w.alloc (.cells #[.slice A n c, .int .i64 last] 29)) (.cells #[.bool false, .slice none 0 0, .int .i64 0] 53)
      simpa using this
    · rw [Below.heap_alloc _ _ _ (by simp), heap_alloc_new]
  have HPL := Lib.hid (place_some O A n c L last w1 (h.below H1.out.1) hn hs i f0 hi)
  have HR := Lib.hid (h.below H1.out.1)
  have hil : i < n := by have := (List.getElem?_eq_some_iff.1 hi).1; have := h.len; omega
  have HI : Hid (L[i]? = some f0 ∧ f0.data.length = dl) := ⟨hi, hdl⟩
  have hi0 : ((0 : Int) ≤ i) := by omega
  have hi1 : ((i : Nat) : Int) < n := by omega
  clear h hn hs hi hdl
  go_enter Tryz.func25, Tryz.ntmps25
  go_wp2_with fail
  rw [← hw1, ← hb1, ← hb0]
  clear hw1 hb1 hb0
  refine HPL.out.mono ?_
  rintro e w2 ⟨rfl, hb⟩
  have H2 := Lib.hid hb
  clear hb HPL
  obtain ⟨g, rfl, q0, q1, q2, _⟩ := (HR.out.below H2.out).at_ HI.out.1
  rw [HI.out.2] at q1
  have HE : Hid (w2.heap[b1]? = some (.cells #[.bool false, .slice none 0 0, .int .i64 0] 53 (0, 0)) ∧ Below w.heap.size w w2 ∧ w2.heap[b0]? = some (.cells #[.slice (some ⟨g, 0, none⟩) n c, .int .i64 last] 29 (0, 0))) := by
    have hl := (Array.getElem?_eq_some_iff.1 H1.out.2.1).1
    have hl0 := (Array.getElem?_eq_some_iff.1 H1.out.2.2.2).1
    exact ⟨(H2.out.block _ hl).trans H1.out.2.1, H1.out.1.trans (H2.out.mono H1.out.1.size), (H2.out.block _ hl0).trans H1.out.2.2.2⟩
  obtain ⟨e0, e1, e2⟩ := cell3 HE.out.1
  obtain ⟨d0, d1⟩ := cell2 HE.out.2.2
  have fe : ∀ i, w2.frozen? ⟨b1, i, none⟩ = false := fun i => by simp [World.frozen?, HE.out.1]
  go_wp2
  refine bodyPost_ret (v := .tuple #[.slice f0.dA dl f0.dc, eV none]) ?_ rfl ?_
  · simp [results, Tryz.results25, go_sem, eV, e0, e1, e2, fe]
  · exact ⟨rfl, belowS (belowS (belowS HE.out.2.1 H1.out.2.2.1 _) H1.out.2.2.1 _) H1.out.2.2.1 _⟩

set_option maxHeartbeats 1000000 in
theorem refnames_any (w : World) (h : RefD O w A n c L) (hn : n ≤ 64) :
    Calls Tryz.prog 8 #[.agg #[.slice A n c, .int .i64 last]] w fun e w' => ∃ (A' : Option Addr) (c' : Nat), e = .returned (.slice A' n c') ∧ Hid (StrRow w' A' (L.map (·.name)) ∧ Below w.heap.size w w') := by
  have HR := Lib.hid h
  have HN : Hid (n ≤ 64 ∧ L.length = n) := ⟨hn, h.len⟩
  clear h hn
  obtain ⟨i0, hi, hz0, hz1, hz2⟩ := info_parts str_info
  have HB : Hid (∀ o, Below w.heap.size w (w.alloc o)) := fun o => (Below.refl _ _).alloc (Nat.le_refl _) _
  go_enter Tryz.func8, Tryz.ntmps8
  go_wp2
  go_loopw [3, 9] (fun l i wr => ∃ (j : Nat) (A5 : Option Addr) (c5 : Nat), j ≤ n ∧ i = .int .i64 j ∧ l = .slice A5 j c5 ∧ Hid (wr.ownsRow w.heap.size 9 1 (.slice A5 j c5) j (((L.take j).map (·.name)).map Value.string) ∧ Below w.heap.size w wr)) (fun _ i _ => n - (intOf i).toNat)
  case atStart => exact ⟨0, none, 0, Nat.zero_le _, rfl, rfl, World.ownsRow_nil _ _ _ _, HB.out _⟩
  case round =>
    obtain ⟨j, A5, c5, hj, rfl, rfl, HL⟩ := hrel
    by_cases hlt : j < n
    · obtain ⟨x, hx⟩ : ∃ f, Hid (L[j]? = some f) := ⟨_, List.getElem?_eq_getElem (by have := HN.out; omega)⟩
      obtain ⟨g, rfl, x0, x1, x2, _⟩ := (HR.out.below HL.out.2).at_ hx.out
      have hw1' : IntKind.i64.wrap ((j : Int) + 1) = ((j + 1 : Nat) : Int) := by have := HN.out; rw [IntKind.wrap_i64]; omega
      have hj0 : ((0 : Int) ≤ j) := by omega
      have hj1 : ((j : Nat) : Int) < n := by omega
      have hm1 : Hid (j + 1 ≤ maxLen) := Nat.le_trans (show j + 1 ≤ 66 by have := HN.out; clear hw1'; omega) (by decide)
      have hb1 : Hid ((j + 1) * 16 ≤ 140737488355328) := by have := HN.out; clear hw1'; simp only [Hid]; omega
      have hzz : Hid (∀ o1 o2, w.heap.size ≤ ((wr.alloc o1).alloc o2).heap.size) := fun o1 o2 => Nat.le_trans HL.out.2.size (by simp; omega)
      have HTK : Hid (((L.take (j + 1)).map (·.name)).map Value.string = ((L.take j).map (·.name)).map Value.string ++ [.string x.name]) := by
        obtain ⟨h7, h8⟩ := List.getElem?_eq_some_iff.1 hx.out
        have e : L.take (j + 1) = L.take j ++ [x] := by rw [← h8, List.take_append_getElem]
        rw [Hid, e, List.map_append, List.map_append]; rfl
      go_wp2_with (at_builtin; refine wpList_append_own _ rfl _ _ 35 rfl w.heap.size 9 i0 (.string .empty) 1 16 Tryz.underlying35 hi hz0 hz1 hz2 rfl (by decide) (.slice A5 j c5) j _ rfl ((HL.out.1.alloc _).alloc _) ⟨wr.heap.size + 1, 0, none⟩ 1 1 [.string x.name] rfl rfl (new1 _ _ _ _ (by simp)) (by simp [Value.oneCell']) hm1.out hb1.out (hzz.out _ _) ?_; intro v' w5 hown5 hgrow5 hnil5)
      obtain ⟨A8, c8, rfl⟩ := own_slice hown5
      refine ⟨⟨j + 1, A8, c8, hlt, by go_num, rfl, by rw [HTK.out]; exact hown5, ?_⟩, by simp [intOf]; omega⟩
      exact (((HL.out.2.alloc HL.out.2.size _).alloc (Nat.le_trans HL.out.2.size (by simp)) _)).grown hgrow5 (hzz.out _ _) (fun k hk => by
        obtain ⟨cur, hh, h1, h2⟩ := own_block HL.out.1 hk
        exact h1)
    · have hjn : j = n := by omega
      subst hjn
      have hall : L.take j = L := by rw [← HN.out.2]; exact List.take_length
      rw [hall] at HL
      go_wp2
      go_ret
      exact ⟨_, _, rfl, strRow_of HL.out.1, HL.out.2⟩

theorem posN_take (l : List Int) (q : Nat) (u : Int) (h : l[q]? = some u) : posN (l.take (q + 1)) = posN (l.take q) + (if 0 < u then 1 else 0) := by
  obtain ⟨h7, h8⟩ := List.getElem?_eq_some_iff.1 h
  have e : l.take (q + 1) = l.take q ++ [u] := by rw [← h8, List.take_append_getElem]
  rw [e, posN_append]
  congr 1
  unfold posN
  by_cases hu : 0 < u <;> simp [List.filter_cons, hu]
theorem posN_le (l : List Int) : posN l ≤ l.length := by unfold posN; exact List.length_filter_le _ _
def looseN (L : List RF) : Int := (L.map fun f => ((posN f.turn : Nat) : Int)).sum
theorem looseN_snoc (L : List RF) (f : RF) : looseN (L ++ [f]) = looseN L + posN f.turn := by simp [looseN]
theorem looseN_bd {L : List RF} (h : ∀ f ∈ L, f.turn.length ≤ 10000) : 0 ≤ looseN L ∧ looseN L ≤ 10000 * (L.length : Int) := by
  unfold looseN
  have h1 := sum_nonneg_of L (fun f => ((posN f.turn : Nat) : Int)) fun f _ => by omega
  have h2 := sum_le_of L (fun f => ((posN f.turn : Nat) : Int)) 10000 fun f hf => by have := posN_le f.turn; have := h f hf; omega
  omega

set_option maxHeartbeats 2000000 in
theorem refloose_any (w : World) (h : RefD O w A n c L) (hn : n ≤ 64) (hT : ∀ f ∈ L, f.turn.length ≤ 10000) :
    Calls Tryz.prog 28 #[.agg #[.slice A n c, .int .i64 last]] w fun e w' => e = .returned (.int .i64 (looseN L)) ∧ Hid (Below w.heap.size w w') := by
  have HR := Lib.hid h
  have HN : Hid (n ≤ 64 ∧ L.length = n) := ⟨hn, h.len⟩
  have HT := Lib.hid hT
  clear h hn hT
  have HB : Hid (∀ o, Below w.heap.size w (w.alloc o)) := fun o => (Below.refl _ _).alloc (Nat.le_refl _) _
  go_enter Tryz.func28, Tryz.ntmps28
  go_wp2
  go_loopw [3, 11] (fun t i wr => ∃ (j : Nat) (T : Int), j ≤ n ∧ i = .int .i64 j ∧ t = .int .i64 T ∧ Hid (T = looseN (L.take j) ∧ Below w.heap.size w wr)) (fun _ i _ => n - (intOf i).toNat)
  case atStart => exact ⟨0, 0, Nat.zero_le _, rfl, rfl, by simp [looseN], HB.out _⟩
  case round =>
    obtain ⟨j, T, hj, rfl, rfl, HL⟩ := hrel
    by_cases hlt : j < n
    · obtain ⟨x, hx⟩ : ∃ f, Hid (L[j]? = some f) := ⟨_, List.getElem?_eq_getElem (by have := HN.out; omega)⟩
      obtain ⟨g, rfl, x0, x1, x2, hok⟩ := (HR.out.below HL.out.2).at_ hx.out
      have HOK := Lib.hid hok
      obtain ⟨xt, hxt⟩ : ∃ q, Hid (x.turn.length = q ∧ q ≤ 10000) := ⟨_, rfl, HT.out x (List.mem_of_getElem? hx.out)⟩
      rw [hxt.out.1] at x2
      have hw1' : IntKind.i64.wrap ((j : Int) + 1) = ((j + 1 : Nat) : Int) := by have := HN.out; rw [IntKind.wrap_i64]; omega
      have hj0 : ((0 : Int) ≤ j) := by omega
      have hj1 : ((j : Nat) : Int) < n := by omega
      have HTK : Hid (looseN (L.take (j + 1)) = T + posN x.turn) := by
        obtain ⟨h7, h8⟩ := List.getElem?_eq_some_iff.1 hx.out
        have e : L.take (j + 1) = L.take j ++ [x] := by rw [← h8, List.take_append_getElem]
        rw [Hid, e, looseN_snoc, HL.out.1]
      have HBD : Hid (0 ≤ T ∧ T ≤ 640000) := by
        have h1 := looseN_bd (L := L.take j) fun f hf => HT.out f (List.mem_of_mem_take hf)
        have h2 : (L.take j).length ≤ j := List.length_take_le _ _
        have h3 := HL.out.1
        have h4 := HN.out
        clear hw1'
        rw [← h3] at h1
        exact ⟨h1.1, by omega⟩
      obtain ⟨wo, rfl⟩ : ∃ wo : World, wo = wr := ⟨_, rfl⟩
      clear hok
      go_wp2
      go_loopw [3, 18] (fun t i w2 => ∃ (q : Nat) (T2 : Int), q ≤ xt ∧ i = .int .i64 q ∧ t = .int .i64 T2 ∧ Hid (T2 = T + posN (x.turn.take q) ∧ Below wo.heap.size wo w2)) (fun _ i _ => xt - (intOf i).toNat)
      case atStart => exact ⟨0, T, Nat.zero_le _, rfl, rfl, by simp [posN], (Below.refl _ _).alloc (Nat.le_refl _) _⟩
      case round =>
        obtain ⟨q, T2, hq, rfl, rfl, HQ⟩ := hrel
        by_cases hq1 : q < xt
        · obtain ⟨u, hu⟩ : ∃ u, Hid (x.turn[q]? = some u) := ⟨_, List.getElem?_eq_getElem (by have := hxt.out; omega)⟩
          obtain ⟨ad, had⟩ : ∃ ad, x.tA = some ad := by
            cases hA : x.tA with
            | none =>
              have := HOK.out.turn.1 hA
              have h3 := hxt.out.1
              unfold intVs at this
              have : x.turn = [] := List.map_eq_nil_iff.1 this
              rw [this] at h3; simp at h3; omega
            | some ad => exact ⟨ad, rfl⟩
          have hcell : wr.cell? (ad.add q) = some (.int .i64 u) := ((HOK.out.below HQ.out.2).turn.2 ad had q _ (by unfold intVs; rw [List.getElem?_map, hu.out]; rfl)).1
          have hq0 : ((0 : Int) ≤ q) := by omega
          have hq2 : ((q : Nat) : Int) < xt := by omega
          have hwq : IntKind.i64.wrap ((q : Int) + 1) = ((q + 1 : Nat) : Int) := by have := hxt.out; rw [IntKind.wrap_i64]; omega
          have hpt := posN_take x.turn q u hu.out
          have hT2 : IntKind.i64.wrap (T2 + 1) = T2 + 1 := by
            have h1 := HQ.out.1
            have h2 := posN_le (x.turn.take q)
            have h3 : (x.turn.take q).length ≤ q := List.length_take_le _ _
            have h4 := HBD.out
            have h5 := hxt.out
            clear hwq hw1'
            rw [IntKind.wrap_i64]; omega
          by_cases hup : 0 < u
          · rw [if_pos hup] at hpt
            have HPT := Lib.hid hpt
            clear hpt
            rw [had]
            go_wp2
            exact ⟨⟨q + 1, T2 + 1, hq1, by go_num, rfl, by rw [HPT.out, HQ.out.1]; omega, HQ.out.2⟩, by simp [intOf]; omega⟩
          · rw [if_neg hup] at hpt
            have HPT := Lib.hid hpt
            clear hpt
            rw [had]
            go_wp2
            exact ⟨⟨q + 1, T2, hq1, by go_num, rfl, by rw [HPT.out, HQ.out.1]; omega, HQ.out.2⟩, by simp [intOf]; omega⟩
        · have hqx : q = xt := by omega
          have HEND : Hid (T2 = looseN (L.take (j + 1))) := by
            have h1 := HQ.out.1
            rw [List.take_of_length_le (by have := hxt.out; omega)] at h1
            rw [Hid, HTK.out, h1]
          have HBW : Hid (Below w.heap.size w wr) := HL.out.2.trans (HQ.out.2.mono HL.out.2.size)
          subst hqx
          clear hq1 hq
          go_wp2
          exact ⟨⟨j + 1, T2, hlt, by go_num, rfl, HEND.out, HBW.out⟩, by simp [intOf]; omega⟩
    · have hjn : j = n := by omega
      subst hjn
      have hall : L.take j = L := by rw [← HN.out.2]; exact List.take_length
      rw [hall] at HL
      go_wp2
      go_ret
      exact ⟨by rw [← HL.out.1]; rfl, HL.out.2⟩

def hasB (L : List RF) (u : Int) : Bool := L.any fun f => f.turn.any fun t => t == u
theorem hasB_iff {L : List RF} {u : Int} : hasB L u = true ↔ ∃ f ∈ L, u ∈ f.turn := by
  unfold hasB
  rw [List.any_eq_true]
  constructor
  · rintro ⟨f, hf, h⟩
    obtain ⟨t, ht, e⟩ := List.any_eq_true.1 h
    obtain rfl : t = u := by simpa using e
    exact ⟨f, hf, ht⟩
  · rintro ⟨f, hf, h⟩
    exact ⟨f, hf, List.any_eq_true.2 ⟨u, h, by simp⟩⟩
set_option maxHeartbeats 2000000 in
theorem has_any (u : Int) (w : World) (h : RefD O w A n c L) (hn : n ≤ 64) (hT : ∀ f ∈ L, f.turn.length ≤ 10000) :
    Calls Tryz.prog 40 #[.agg #[.slice A n c, .int .i64 last], .int .i64 u] w fun e w' => e = .returned (.bool (hasB L u)) ∧ Hid (Below w.heap.size w w') := by
  have HR := Lib.hid h
  have HN : Hid (n ≤ 64 ∧ L.length = n) := ⟨hn, h.len⟩
  have HT := Lib.hid hT
  clear h hn hT
  have HB : Hid (∀ o, Below w.heap.size w (w.alloc o)) := fun o => (Below.refl _ _).alloc (Nat.le_refl _) _
  go_enter Tryz.func40, Tryz.ntmps40
  go_wp2
  go_loopw [12] (fun i wr => ∃ (j : Nat), j ≤ n ∧ i = .int .i64 j ∧ Hid (hasB (L.take j) u = false ∧ Below w.heap.size w wr)) (fun i _ => n - (intOf i).toNat)
  case atStart => exact ⟨0, Nat.zero_le _, rfl, by simp [hasB], HB.out _⟩
  case round =>
    obtain ⟨j, hj, rfl, HL⟩ := hrel
    by_cases hlt : j < n
    · obtain ⟨x, hx⟩ : ∃ f, Hid (L[j]? = some f) := ⟨_, List.getElem?_eq_getElem (by have := HN.out; omega)⟩
      obtain ⟨g, rfl, x0, x1, x2, hok⟩ := (HR.out.below HL.out.2).at_ hx.out
      have HOK := Lib.hid hok
      obtain ⟨xt, hxt⟩ : ∃ q, Hid (x.turn.length = q ∧ q ≤ 10000) := ⟨_, rfl, HT.out x (List.mem_of_getElem? hx.out)⟩
      rw [hxt.out.1] at x2
      have hw1' : IntKind.i64.wrap ((j : Int) + 1) = ((j + 1 : Nat) : Int) := by have := HN.out; rw [IntKind.wrap_i64]; omega
      have hj0 : ((0 : Int) ≤ j) := by omega
      have hj1 : ((j : Nat) : Int) < n := by omega
      have HTK : Hid (hasB (L.take (j + 1)) u = x.turn.any fun t => t == u) := by
        obtain ⟨h7, h8⟩ := List.getElem?_eq_some_iff.1 hx.out
        have e : L.take (j + 1) = L.take j ++ [x] := by rw [← h8, List.take_append_getElem]
        have h9 := HL.out.1
        unfold hasB at h9 ⊢
        rw [Hid, e, List.any_append, h9]; simp
      obtain ⟨wo, rfl⟩ : ∃ wo : World, wo = wr := ⟨_, rfl⟩
      clear hok
      go_wp2
      go_loopw [19] (fun i w2 => ∃ (q : Nat), q ≤ xt ∧ i = .int .i64 q ∧ Hid (((x.turn.take q).any fun t => t == u) = false ∧ Below wo.heap.size wo w2)) (fun i _ => xt - (intOf i).toNat)
      case atStart => exact ⟨0, Nat.zero_le _, rfl, by simp, (Below.refl _ _).alloc (Nat.le_refl _) _⟩
      case round =>
        obtain ⟨q, hq, rfl, HQ⟩ := hrel
        by_cases hq1 : q < xt
        · obtain ⟨v, hv⟩ : ∃ u, Hid (x.turn[q]? = some u) := ⟨_, List.getElem?_eq_getElem (by have := hxt.out; omega)⟩
          obtain ⟨ad, had⟩ : ∃ ad, x.tA = some ad := by
            cases hA : x.tA with
            | none =>
              have := HOK.out.turn.1 hA
              have h3 := hxt.out.1
              unfold intVs at this
              have : x.turn = [] := List.map_eq_nil_iff.1 this
              rw [this] at h3; simp at h3; omega
            | some ad => exact ⟨ad, rfl⟩
          have hcell : wr.cell? (ad.add q) = some (.int .i64 v) := ((HOK.out.below HQ.out.2).turn.2 ad had q _ (by unfold intVs; rw [List.getElem?_map, hv.out]; rfl)).1
          have hq0 : ((0 : Int) ≤ q) := by omega
          have hq2 : ((q : Nat) : Int) < xt := by omega
          have hwq : IntKind.i64.wrap ((q : Int) + 1) = ((q + 1 : Nat) : Int) := by have := hxt.out; rw [IntKind.wrap_i64]; omega
          have HPT : Hid (((x.turn.take (q + 1)).any fun t => t == u) = (v == u)) := by
            obtain ⟨h7, h8⟩ := List.getElem?_eq_some_iff.1 hv.out
            have e : x.turn.take (q + 1) = x.turn.take q ++ [v] := by rw [← h8, List.take_append_getElem]
            rw [Hid, e, List.any_append, HQ.out.1]; simp
          by_cases hvu : v = u
          · have HTR : Hid (hasB L u = true) := by
              rw [Hid, hasB_iff]
              exact ⟨x, List.mem_of_getElem? hx.out, by rw [← hvu]; exact List.mem_of_getElem? hv.out⟩
            have hvu1 : (v == u) = true := by simpa using hvu
            have HBW : Hid (Below w.heap.size w wr) := HL.out.2.trans (HQ.out.2.mono HL.out.2.size)
            clear hvu
            rw [had]
            go_wp2
            go_ret
            exact ⟨by rw [HTR.out]; rfl, HBW.out⟩
          · have hvu1 : (v == u) = false := by simpa using hvu
            have HFA : Hid (((x.turn.take (q + 1)).any fun t => t == u) = false) := by rw [Hid, HPT.out]; exact hvu1
            clear hvu
            rw [had]
            go_wp2
            exact ⟨⟨q + 1, hq1, by go_num, HFA.out, HQ.out.2⟩, by simp [intOf]; omega⟩
        · have hqx : q = xt := by omega
          have HEND : Hid (hasB (L.take (j + 1)) u = false) := by
            have h1 := HQ.out.1
            rw [List.take_of_length_le (by have := hxt.out; omega)] at h1
            rw [Hid, HTK.out, h1]
          have HBW : Hid (Below w.heap.size w wr) := HL.out.2.trans (HQ.out.2.mono HL.out.2.size)
          subst hqx
          clear hq1 hq
          go_wp2
          exact ⟨⟨j + 1, hlt, by go_num, HEND.out, HBW.out⟩, by simp [intOf]; omega⟩
    · have hjn : j = n := by omega
      subst hjn
      have hall : L.take j = L := by rw [← HN.out.2]; exact List.take_length
      rw [hall] at HL
      go_wp2
      go_ret
      exact ⟨by rw [HL.out.1]; rfl, HL.out.2⟩
end
end Go.Proofs.YtfhdcjfkngflbaaGreatDoor
set_option linter.unusedSimpArgs false
set_option linter.unusedVariables false
namespace Go.Proofs.YtfhdcjfkngflbaaGreatDoor
open Go Go.RowKit

theorem int_info : (Tryz.prog.info? 3).map (fun i => (i.zero, i.size, i.bytes)) = some (some (.int .i64 0), 1, 8) := by kernel_rfl
theorem made_ints (n : Nat) : madeCells #[.int .i64 0] n = (intVs (List.replicate n 0)).toArray := by
  apply Array.ext'
  apply List.ext_getElem?
  intro i
  unfold madeCells intVs
  simp only [Array.toList_map, Array.toList_range, List.getElem?_map, List.map_replicate, List.getElem?_replicate]
  by_cases h : i < n
  · rw [List.getElem?_range h, if_pos h]; simp [Nat.mod_one]
  · rw [List.getElem?_eq_none (by simp; omega), if_neg h]; rfl
theorem run_make_ints (n : Nat) (hn : n ≤ 1000000) (w : World) : (Instr.makeSlice 64 (.int .i64 (n : Int)) (.int .i64 (n : Int))).run Tryz.prog w = .ok (.slice (some ⟨w.heap.size, 0, none⟩) n n) (w.alloc (.cells (intVs (List.replicate n 0)).toArray 3)) := by
  obtain ⟨i0, hi, hz0, hz1, hz2⟩ := info_parts int_info
  have h := run_make (P := Tryz.prog) w 64 3 i0 (.int .i64 0) Tryz.underlying64 hi hz0 .i64 .i64 (n : Int) (n : Int) (by omega) (Int.le_refl _) (by rw [hz2]; omega) (by omega)
  rw [← made_ints]
  simpa [hz1, Value.cells] using h
theorem newvals (O : Nat → Prop) (w : World) (vs : List Value) (t : TypeId) (hO : ¬ O w.heap.size) : ValsAt O (w.alloc (.cells vs.toArray t)) (some ⟨w.heap.size, 0, none⟩) vs := by
  refine ⟨fun h => (by cases h), fun ad e j u hu => ?_⟩
  cases e
  rw [Addr.add_lit, Nat.zero_add]
  have hh := heap_alloc_new w (.cells vs.toArray t)
  have : (w.alloc (.cells vs.toArray t)).cell? ⟨w.heap.size, j, none⟩ = vs.toArray[j]? := by unfold World.cell?; simp only; rw [hh]; rfl
  rw [this]; exact ⟨by simpa using hu, hO⟩

/-- The three boxes of Sync and of Crash: the disk that came in, the result, the disk that is made. -/
structure SBx (w0 W : World) (b0 b1 b2 : Nat) (v0 v1 u0 u1 : Value) : Prop where
  d : W.heap[b0]? = some (.cells #[v0, v1] 29 (0, 0))
  r : W.heap[b1]? = some (.cells #[.slice none 0 0, .int .i64 0] 29 (0, 0))
  o : W.heap[b2]? = some (.cells #[u0, u1] 29 (0, 0))
  n : w0.heap.size ≤ b0 ∧ b0 < b1 ∧ b1 < b2
  old : Below w0.heap.size w0 W
theorem SBx.keep {w0 W W' : World} {b0 b1 b2 : Nat} {v0 v1 u0 u1 : Value} (h : SBx w0 W b0 b1 b2 v0 v1 u0 u1) {base : Nat} (hb : Below base W W') (hl : b2 < base) : SBx w0 W' b0 b1 b2 v0 v1 u0 u1 := by
  have hn := h.n
  exact ⟨(hb.block _ (by omega)).trans h.d, (hb.block _ (by omega)).trans h.r, (hb.block _ (by omega)).trans h.o, h.n, h.old.trans (hb.mono (by omega))⟩
theorem SBx.set {w0 W : World} {b0 b1 b2 : Nat} {v0 v1 u0 u1 : Value} (h : SBx w0 W b0 b1 b2 v0 v1 u0 u1) (v : Value) : SBx w0 (W.setCell ⟨b2, 0, none⟩ v) b0 b1 b2 v0 v1 v u1 := by
  have hn := h.n
  refine ⟨(Below.heap_setCell _ _ _ _ (by show b0 ≠ b2; omega)).trans h.d, (Below.heap_setCell _ _ _ _ (by show b1 ≠ b2; omega)).trans h.r, ?_, h.n, belowS h.old (by omega) _⟩
  show (W.heap.modify b2 _)[b2]? = _
  rw [Array.getElem?_modify, if_pos rfl, h.o]; rfl
theorem sbx_new (w : World) (v0 v1 u0 u1 : Value) : SBx w (((w.alloc (.cells #[v0, v1] 29)).alloc (.cells #[.slice none 0 0, .int .i64 0] 29)).alloc (.cells #[u0, u1] 29)) w.heap.size (w.heap.size + 1) (w.heap.size + 1 + 1) v0 v1 u0 u1 := by
  refine ⟨?_, ?_, ?_, by omega, (((Below.refl _ _).alloc (Nat.le_refl _) _).alloc (by simp) _).alloc (by simp; omega) _⟩
  · rw [Below.heap_alloc _ _ _ (by simp; omega), Below.heap_alloc _ _ _ (by simp), heap_alloc_new]
  · rw [Below.heap_alloc _ _ _ (by simp)]
    have := heap_alloc_new (w.alloc (.cells #[v0, v1] 29)) (.cells #[.slice none 0 0, .int .i64 0] 29)
    simpa using this
  · have := heap_alloc_new ((w.alloc (.cells #[v0, v1] 29)).alloc (.cells #[.slice none 0 0, .int .i64 0] 29)) (.cells #[u0, u1] 29)
    simpa using this

/-- The blocks that a file's bytes and turns may not lie in: P's, and the row's own. -/
def PV (P : Nat → Prop) (v : Value) : Nat → Prop := fun k => P k ∨ v.ownBlock = some k
/-- The files made so far, against those that came in. -/
def Made (P : Nat → Prop) (W : World) (L Lacc : List RF) (mm : RF → Nat) (j : Nat) : Prop :=
  Lacc.length = j ∧ (∀ f ∈ Lacc, RFok P W f) ∧ ∀ (i : Nat) (f f' : RF), L[i]? = some f → Lacc[i]? = some f' → f'.name = f.name ∧ f'.data = f.data.take (mm f) ∧ f'.turn = List.replicate (mm f) 0
theorem Made.keep {P P' : Nat → Prop} {W W' : World} {L Lacc : List RF} {mm : RF → Nat} {j : Nat} (h : Made P W L Lacc mm j) (hk : ∀ f, RFok P W f → RFok P' W' f) : Made P' W' L Lacc mm j := ⟨h.1, fun f hf => hk f (h.2.1 f hf), h.2.2⟩
theorem Made.snoc {P : Nat → Prop} {W : World} {L Lacc : List RF} {mm : RF → Nat} {j : Nat} {x y : RF} (h : Made P W L Lacc mm j) (hx : L[j]? = some x) (hy : RFok P W y) (h1 : y.name = x.name) (h2 : y.data = x.data.take (mm x)) (h3 : y.turn = List.replicate (mm x) 0) : Made P W L (Lacc ++ [y]) mm (j + 1) := by
  refine ⟨by simp [h.1], fun f hf => ?_, fun i f f' hf hf' => ?_⟩
  · rcases List.mem_append.1 hf with hf | hf
    · exact h.2.1 f hf
    · obtain rfl : f = y := by simpa using hf
      exact hy
  · by_cases hi : i < j
    · rw [List.getElem?_append_left (by rw [h.1]; exact hi)] at hf'
      exact h.2.2 i f f' hf hf'
    · rw [List.getElem?_append_right (by rw [h.1]; omega), h.1] at hf'
      have hij : i = j := by
        have := (List.getElem?_eq_some_iff.1 hf').1
        simp at this; omega
      subst hij
      simp at hf'
      subst hf'
      rw [hx] at hf
      cases hf
      exact ⟨h1, h2, h3⟩

end Go.Proofs.YtfhdcjfkngflbaaGreatDoor
