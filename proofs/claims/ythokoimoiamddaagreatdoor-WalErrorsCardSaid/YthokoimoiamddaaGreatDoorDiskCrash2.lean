/-
  disk: Crash, walked. Own work.
-/
import Derived.Test.YthokoimoiamddaaGreatDoorB4
set_option linter.unusedSimpArgs false
set_option linter.unusedVariables false
namespace Go.Proofs.YthokoimoiamddaaGreatDoor
open Go Go.RowKit
open Go.ChangeMaps (setBlock)

theorem int_zero (w : World) : (zeroValue 3).run Tryz.prog w = .ok (.int .i64 0) w := by kernel_rfl
def KD (w5 : World) (F : Nat) (v : Value) (W : World) : Prop := W.cell? ⟨F, 0, none⟩ = some v ∧ Hid (Below w5.heap.size w5 W)

set_option maxHeartbeats 2000000 in
theorem crash_any (base : Nat) (s : St) (keep : Int) (w : World) (h : DiskAt base w s) (hlow : base ≤ w.heap.size) (hk : 0 ≤ keep) (hk2 : keep ≤ 9223372036854775807) (hturn : s.turn ≤ 4611686018427387904) (hlo : looseOf s ≤ 1000000) : Calls Tryz.prog 23 #[.pointer (some ⟨s.B, 0, none⟩), .int .i64 keep] w fun e w' => e = .returned .nilIface ∧
    ∃ l' s', l'.Perm (allOf s s.L) ∧ l'.Pairwise (fun a b => a.1 < b.1) ∧ DiskAt base w' s' ∧ Frame s s' w w' ∧ s'.B = s.B ∧ s'.L = s.L ∧ s'.turn = s.turn ∧ ∀ k, s'.R k = (s.R k).map (crashRec (leftF l' keep)) := by
  have H := Lib.hid h
  have HL := Lib.hid hlow
  have HK : Hid (0 ≤ keep ∧ keep ≤ 9223372036854775807) := ⟨hk, hk2⟩
  have HT := Lib.hid hturn
  have HLO := Lib.hid hlo
  have hk0 : ¬ (keep < 0) := by omega
  obtain ⟨c0, _, _⟩ := h.cells
  clear h hlow hk hk2 hturn hlo
  have hmm := @run_makeMap Tryz.prog
  go_enter Tryz.func23, Tryz.ntmps23
  go_wp2_with (refine wpList_range_at rfl _ 58 rfl 9 80 Tryz.underlying58 rfl H.out.map H.out.wf ?_; intro w0 hrg0 hg0 hs0; have HR0 := Lib.hid hrg0; have HB0 : Hid (Below w.heap.size w w0) := (Below.refl _ w).grown hg0 (Nat.le_refl _) (fun g e => by cases e); clear hrg0 hg0 hs0)
  try go_frame
  go_loopw [5] (fun t wr => ∃ (dn : List (MEnt ByteArray)) (A : Option Addr) (n c : Nat), t = .slice A n c ∧ Hid (IterAt Value.string wr s.M w.heap.size s.L s.c dn ∧ Below w.heap.size w wr ∧ (allOf s dn).length = n ∧ wr.ownsRow (w.heap.size + 1) 86 2 (.slice A n c) n (pieceCells (allOf s dn)))) (fun _ wr => iterLeft w.heap.size s.L.length wr)
  case atStart => exact ⟨[], none, 0, 0, rfl, HR0.out, HB0.out, rfl, World.ownsRow_nil _ _ _ _⟩
  case round =>
    obtain ⟨dn, A, n, c, rfl, HS⟩ := hrel
    go_wp2_with (refine wpList_next_at rfl _ rfl rfl HS.out.1 ?_ ?_)
    · intro hp
      obtain ⟨h1, h2, h3, h4⟩ := HS.out
      have hper := allOf_perm s hp
      have hlen : n ≤ 1000000 := by
        have e1 := H.out.all_len s.L
        have e2 := HLO.out
        have e3 := hper.length_eq
        unfold looseOf at e2
        omega
      have HSORT : Hid (Calls Tryz.prog 37 #[.slice A n c, .func (.func 38) #[] #[]] wr fun e w' => e = .returned (.tuple #[]) ∧ ∃ l' : List (Int × Int), l'.Perm (allOf s dn) ∧ l'.Pairwise (fun a b => a.1 < b.1) ∧ (∀ g, A = some ⟨g, 0, none⟩ → PcsLie w' g l') ∧ RowKit.Below (w.heap.size + 1) wr w') := by
        have h5 := sortP_any (w.heap.size + 1) A c (allOf s dn) wr (by rw [h3]; exact h4) h1.lt (fun p hp => by
          have := H.out.all_bd hp
          have := HT.out
          omega) (((hper.map (·.1)).nodup_iff).2 H.out.all_nd) (by rw [h3]; exact hlen)
        rw [h3] at h5
        exact h5
      have HLEN := Lib.hid hlen
      have HPER := Lib.hid hper
      have HADR : Hid (0 < n → ∃ g, A = some ⟨g, 0, none⟩) := fun hn => by
        obtain ⟨g, hg, _⟩ := row_addr h4 hn
        exact ⟨g, hg⟩
      have HCNT : Hid ((allOf s dn).length = n) := h3
      have HBW : Hid (Below w.heap.size w wr) := h2
      clear h1 h2 h3 h4 hper hlen hp HS
      go_wp2_with (go_at_call 37; refine HSORT.out.mono ?_; rintro e w3 ⟨rfl, l', hl1, hl2, hl3, hl4⟩; have HSRT : Hid (l'.Perm (allOf s s.L) ∧ l'.Pairwise (fun a b => a.1 < b.1) ∧ l'.length = n ∧ Below w.heap.size w w3) := ⟨hl1.trans HPER.out, hl2, hl1.length_eq.trans HCNT.out, HBW.out.trans (hl4.mono (Nat.le_succ _))⟩; have HLIE := Lib.hid hl3; clear hl1 hl2 hl3 hl4)
      have HLEN2 := Lib.hid HSRT.out.2.2.1
      go_loopw [1, 45] (fun q i wr => ∃ (j : Nat), j ≤ n ∧ i = .int .i64 j ∧ q = .int .i64 (kAft (l'.take j) keep) ∧ Hid (∃ L2 c2, MapAt intV wr w3.heap.size L2 c2 ∧ (∀ t, lkV t L2 = (lookP (leftP (l'.take j) keep) t).map intV) ∧ Below w3.heap.size w3 wr)) (fun _ i _ => n - (intOf i).toNat)
      case atStart => exact ⟨0, Nat.zero_le _, rfl, rfl, [], 0, MapAt.new w3, fun t => rfl, (Below.refl _ w3).alloc (Nat.le_refl _) _⟩
      case round =>
        obtain ⟨j, hj, rfl, rfl, HS⟩ := hrel
        by_cases hlt : j < n
        · obtain ⟨x, hx⟩ : ∃ x, Hid (l'[j]? = some x) := ⟨_, List.getElem?_eq_getElem (by have := HSRT.out.2.2.1; omega)⟩
          obtain ⟨g, rfl⟩ := HADR.out (by omega)
          obtain ⟨L2, c2, hm2, hlk2, hb2⟩ := HS.out
          obtain ⟨d0, d1⟩ := HLIE.out g rfl j x hx.out
          have hg := World.block_lt_of_cell? w3 _ d0
          replace d0 := (hb2.cell (p := ⟨g, j * 2, none⟩) hg).trans d0
          replace d1 := (hb2.cell (p := ⟨g, j * 2 + 1, none⟩) hg).trans d1
          have htake : l'.take (j + 1) = l'.take j ++ [x] := by
            obtain ⟨h7, h8⟩ := List.getElem?_eq_some_iff.1 hx.out
            rw [← h8, List.take_append_getElem]
          have hpos : ∀ p ∈ l', 0 < p.2 := fun p hp => (H.out.all_bd ((HSRT.out.1.mem_iff).1 hp)).2.2
          have hx2 := hpos x (List.mem_of_getElem? hx.out)
          have hq := kAft_bd (l'.take j) keep HK.out.1 fun p hp => hpos p (List.mem_of_mem_take hp)
          obtain ⟨q, hqe⟩ : ∃ q, Hid (kAft (l'.take j) keep = q) := ⟨_, rfl⟩
          obtain ⟨z, hze⟩ : ∃ z, Hid (x.2 = z) := ⟨_, rfl⟩
          obtain ⟨t, hte⟩ : ∃ t, Hid (x.1 = t) := ⟨_, rfl⟩
          rw [hqe.out] at hq ⊢
          rw [hze.out] at d1 hx2
          rw [hte.out] at d0
          have HM2 := Lib.hid hm2
          have HLK2 := Lib.hid hlk2
          have HB2 := Lib.hid hb2
          have HKA : Hid (kAft (l'.take (j + 1)) keep = q - min q z) := by rw [Hid, htake, kAft_snoc, hqe.out, hze.out]
          have HLP : Hid (leftP (l'.take (j + 1)) keep = leftP (l'.take j) keep ++ [(t, min q z)]) := by rw [Hid, htake, leftP_snoc, hqe.out, hze.out, hte.out]
          have HQ : Hid (0 ≤ q ∧ q ≤ 9223372036854775807 ∧ 0 < z) := ⟨hq.1, by have := HK.out; omega, hx2⟩
          have HLN := Lib.hid HLEN.out
          have hw1 : IntKind.i64.wrap ((j : Int) + 1) = ((j + 1 : Nat) : Int) := by have := HLEN.out; rw [IntKind.wrap_i64]; omega
          have hlt2 : ((j : Nat) : Int) < n := by omega
          have hb0 : ((0 : Int) ≤ j) := by omega
          clear hx2 hq hpos htake hm2 hlk2 hb2 hg
          have hnext : ∀ W' c', MapAt intV W' w3.heap.size (putE t (.int .i64 (min q z)) c2 L2) c' → (wr.alloc (.cells #[.int .i64 t, .int .i64 z] 86)).grownBy W' (some w3.heap.size) → ∃ L2 c2, MapAt intV W' w3.heap.size L2 c2 ∧ (∀ t, lkV t L2 = (lookP (leftP (l'.take (j + 1)) keep) t).map intV) ∧ Below w3.heap.size w3 W' := fun W' c' h1 h2 => by
            refine ⟨_, _, h1, fun t' => ?_, (HB2.out.alloc HB2.out.size _).grown h2 (Nat.le_trans HB2.out.size (by simp)) (fun g e => by injection e with e; omega)⟩
            rw [lkV_put, HLP.out, lookP_snoc]
            split
            · rfl
            · exact HLK2.out t'
          have HNX := Lib.hid hnext
          clear hnext
          obtain ⟨y, hy⟩ : ∃ y, min q z = y := ⟨_, rfl⟩
          rw [hy] at HNX HKA
          have hw2 : IntKind.i64.wrap (q - y) = q - y := by have := HQ.out; rw [IntKind.wrap_i64]; omega
          go_wp2_with (at_mapUpdate; refine wpList_store_at _ rfl _ _ _ 88 rfl 3 int_keys Tryz.underlying88 rfl (HM2.out.alloc _) t rfl (.int .i64 y) rfl ?_; intro w5 c5 h1 h2; have HN5 := Lib.hid (HNX.out w5 c5 h1 h2); clear h1 h2)
          exact ⟨⟨j + 1, hlt, rfl, by rw [HKA.out], HN5.out⟩, by simp [intOf]; omega⟩
        · have hjn : j = n := by omega
          subst hjn
          have htl : l'.take j = l' := by rw [← HLEN2.out]; exact List.take_length
          rw [htl] at HS
          rw [htl]
          obtain ⟨L2, c2, hm2, hlk2, hb2⟩ := HS.out
          obtain ⟨q, hqe⟩ : ∃ q, Hid (kAft l' keep = q) := ⟨_, rfl⟩
          rw [hqe.out]
          have HF : Hid (∀ t, (lkV t L2).getD (.int .i64 0) = .int .i64 (leftF l' keep t)) := fun t => by
            rw [hlk2 t]
            unfold leftF
            cases lookP (leftP l' keep) t <;> rfl
          have HBW2 : Hid (Below w.heap.size w wr) := HSRT.out.2.2.2.trans (hb2.mono HSRT.out.2.2.2.size)
          have HM2 := Lib.hid hm2
          have HB2 := Lib.hid hb2
          have hd2 := H.out.below HBW2.out
          have HD2 := Lib.hid hd2
          obtain ⟨c0', _, _⟩ := hd2.cells
          have HBD : Hid (∀ k r, s.R k = some r → ∀ p ∈ r.loose, 0 ≤ leftF l' keep p.1 ∧ leftF l' keep p.1 ≤ p.2) := fun k r hr p hp => by
            refine leftF_bd HK.out.1 (fun p hp => (H.out.all_bd ((HSRT.out.1.mem_iff).1 hp)).2.2) HSRT.out.2.1 ((HSRT.out.1.mem_iff).2 (H.out.mem_all hr hp))
          clear hm2 hlk2 hb2 hd2 htl
          go_wp2_with (refine wpList_range_at rfl _ 58 rfl 9 80 Tryz.underlying58 rfl HD2.out.map HD2.out.wf ?_; intro w4 hrg4 hg4 hs4; have HR4 := Lib.hid hrg4; have HB4 : Hid (Below wr.heap.size wr w4) := (Below.refl _ wr).grown hg4 (Nat.le_refl _) (fun g e => by cases e); clear hrg4 hg4 hs4)
          obtain ⟨wq, rfl⟩ : ∃ wq, wq = wr := ⟨wr, rfl⟩
          have HCA : Hid (CrashAt base s (leftF l' keep) w3.heap.size L2 c2 wq.heap.size w w4 []) := by
            refine ⟨s, HD2.out.below HB4.out, Frame.of_below (HBW2.out.trans (HB4.out.mono HBW2.out.size)), rfl, rfl, rfl, rfl, rfl, Nat.le_trans HL.out (Nat.le_trans HBW2.out.size HB4.out.size), fun ho => ?_, fun ho => ?_, (HB4.out.block _ HM2.out.lt).trans HM2.out, fun k hk => (by simp at hk), fun k _ => rfl⟩
            · have := HD2.out.lt ho; omega
            · have h5 := H.out.lt ho
              have h6 := HSRT.out.2.2.2.size
              omega
          have HIM : Hid (wq.heap.size ≠ w3.heap.size ∧ w.heap.size ≤ wq.heap.size) := ⟨fun e => by have := HM2.out.lt; omega, HBW2.out.size⟩
          try go_frame
          go_loopw [14] (fun _ wr => ∃ (dn : List (MEnt ByteArray)), Hid (IterAt Value.string wr s.M wq.heap.size s.L s.c dn ∧ CrashAt base s (leftF l' keep) w3.heap.size L2 c2 wq.heap.size w wr dn)) (fun _ wr => iterLeft wq.heap.size s.L.length wr)
          case atStart => exact ⟨[], HR4.out, HCA.out⟩
          case round =>
            clear HLIE HLEN2 HLEN HADR HS HLO HT HK HM2 HB2 HD2 HBW2 HCA HR4 HB4 HCNT HPER HSORT HR0 HB0 HBW hj hlt hqe
            obtain ⟨dn, HS⟩ := hrel
            go_wp2_with (refine wpList_next_at rfl _ rfl rfl HS.out.1 ?_ ?_)
            · intro hp
              have HE := Lib.hid (HS.out.2.end H.out hp)
              clear HS hp
              go_wp2
              go_ret
              obtain ⟨s', h1⟩ := HE.out
              exact ⟨rfl, l', s', HSRT.out.1, HSRT.out.2.1, h1⟩
            · intro e he hnd w5 hrg5 hg5 hs5 hen
              obtain ⟨r, hr, hv⟩ := H.out.mem he
              have hkn := key_fresh H.out HS.out.1.2.2.2.2 he hnd
              obtain ⟨k9, v9, b9⟩ := e
              simp only at hr hv hen hrg5 hkn
              subst hv
              have hC5 := (HS.out.2.at HIM.out.1 hg5 HIM.out.2 hkn).1
              have hrec5 := hC5.rec hr hkn
              have HC5 := Lib.hid hC5
              have HREC := Lib.hid hrec5
              have hbd := HBD.out k9 r hr
              obtain ⟨kn1, kn2, kn3⟩ := keepN_le hrec5 hbd
              have hle := hrg5.le
              have HL9 : Hid (dn.length + 1 ≤ s.L.length) := by simp only [Hid]; simpa using hle
              have HIT5 := Lib.hid hrg5
              have HKN := Lib.hid hkn
              have HR := Lib.hid hr
              have HF9 := Lib.hid hbd
              have HNX := Lib.hid (And.intro kn1 (And.intro kn2 kn3))
              obtain ⟨f0, f1, ff⟩ := hrec5.cells
              obtain ⟨Ad, cd, hdv, _⟩ := hrec5.data.slice
              obtain ⟨Al, cl, hlv⟩ := own_slice hrec5.loose
              have hfew := hrec5.few
              have hsum := hrec5.sum
              have hlo := len_open r.loose hrec5.pos
              rw [hdv] at f0
              rw [hlv] at f1
              obtain ⟨dl, hdl⟩ : ∃ q, Hid (r.data.length = q) := ⟨_, rfl⟩
              obtain ⟨ll, hll⟩ : ∃ q, Hid (r.loose.length = q) := ⟨_, rfl⟩
              obtain ⟨op, hop⟩ : ∃ q, Hid (openOf r.loose = q) := ⟨_, rfl⟩
              rw [hdl.out] at f0 hfew hsum
              rw [hll.out] at f1 hlo
              rw [hop.out] at hsum hlo
              have hwo : IntKind.i64.wrap ((dl : Int) - op) = (dl : Int) - op := by rw [IntKind.wrap_i64]; omega
              have hK5 : KD w5 r.F (.slice Ad dl cd) w5 := ⟨f0, Below.refl _ w5⟩
              have hK5d : KD w5 r.F (.slice Ad dl cd) w5.drew := ⟨f0, (Below.refl _ w5).drew⟩
              have HO : Hid (∀ W, KD w5 r.F (.slice Ad dl cd) W → Calls Tryz.prog 39 #[.pointer (some ⟨r.F, 0, none⟩)] W fun e w' => e = .returned (.int .i64 op) ∧ KD w5 r.F (.slice Ad dl cd) w') := fun W hW => by
                refine (open_any r W (hrec5.keep fun g hg => hW.2.block g (hrec5.lt hg))).mono ?_
                rintro e w' ⟨rfl, hb⟩
                rw [hop.out]
                exact ⟨rfl, (World.cell?_of_block (w := W) (a := ⟨r.F, 0, none⟩) (hb.block _ (World.block_lt_of_cell? W _ hW.1))).trans hW.1, hW.2.trans (hb.mono hW.2.size)⟩
              have hSZ : Hid (op ≤ dl ∧ dl ≤ 1048576 ∧ (ll : Int) ≤ op) := ⟨hsum, hfew, hlo⟩
              have HDV := Lib.hid hdv
              have HLV := Lib.hid hlv
              simp only [ptrF] at hen
              clear hrg5 hg5 hs5 he hnd hr hkn hC5 hrec5 hbd kn1 kn2 kn3 hle hdv hlv hfew hsum hlo
              go_wp2
              go_region_held_law (fun W => W.cell? ⟨r.F, 0, none⟩ = some (.slice Ad dl cd) ∧ Hid (Below w5.heap.size w5 W)) (assumption) ((go_at_call 39; refine (HO.out _ (by assumption)).mono ?_; rintro e w6 ⟨rfl, hK6⟩))
              obtain ⟨h60, h61⟩ := hK6
              have hC6 := HC5.out.below h61
              have hrec6 := hC6.rec HR.out HKN.out
              obtain ⟨_, f16, ff6⟩ := hrec6.cells
              have hrow6 := hrec6.loose
              rw [HLV.out, hll.out] at f16 hrow6
              have HC6 := Lib.hid hC6
              have HROW := Lib.hid hrow6
              have HMAP := Lib.hid hC6.map
              have HIT6 : Hid (IterAt Value.string w6 s.M wq.heap.size s.L s.c (dn ++ [⟨k9, ptrF r, b9⟩])) := HIT5.out.ofEq (h61.block _ HIT5.out.1.lt) (h61.block _ HIT5.out.lt)
              clear hK5 hK5d HO f0 f1 ff h61 hC6 hrec6 hrow6 HC5 HIT5 hwo
              go_wp2
              go_loopw [14, 83] (fun nn i wr => ∃ (jj : Nat), jj ≤ ll ∧ i = .int .i64 jj ∧ nn = .int .i64 ((dl : Int) - op + leftSum (leftF l' keep) (r.loose.take jj)) ∧ Hid (Below w6.heap.size w6 wr)) (fun _ i _ => ll - (intOf i).toNat)
              case atStart => exact ⟨0, Nat.zero_le _, rfl, by simp [leftSum], Below.refl _ _⟩
              case round =>
                obtain ⟨jj, hjj, rfl, rfl, HSB⟩ := hrel
                by_cases hjlt : jj < ll
                · obtain ⟨x, hx⟩ : ∃ x, Hid (r.loose[jj]? = some x) := ⟨_, List.getElem?_eq_getElem (by have := hll.out; omega)⟩
                  obtain ⟨g, rfl, hg, d0, d1⟩ := piece_row HROW.out jj x hx.out
                  replace d0 := (HSB.out.cell (p := ⟨g, jj * 2, none⟩) hg).trans d0
                  replace d1 := (HSB.out.cell (p := ⟨g, jj * 2 + 1, none⟩) hg).trans d1
                  have htake : r.loose.take (jj + 1) = r.loose.take jj ++ [x] := by
                    obtain ⟨h7, h8⟩ := List.getElem?_eq_some_iff.1 hx.out
                    rw [← h8, List.take_append_getElem]
                  have hT := open_take_le r.loose HREC.out.pos jj
                  have hT1 := open_take_le r.loose HREC.out.pos (jj + 1)
                  have hS := leftSum_bd (leftF l' keep) (r.loose.take jj) fun p hp => HF9.out p (List.mem_of_mem_take hp)
                  have hS1 := leftSum_bd (leftF l' keep) (r.loose.take (jj + 1)) fun p hp => HF9.out p (List.mem_of_mem_take hp)
                  rw [htake, leftSum_snoc, ← htake] at hS1
                  rw [hop.out] at hT hT1
                  have HSUM : Hid (leftSum (leftF l' keep) (r.loose.take (jj + 1)) = leftSum (leftF l' keep) (r.loose.take jj) + leftF l' keep x.1) := by rw [Hid, htake, leftSum_snoc]
                  have hlook := HF.out x.1
                  obtain ⟨y, hy⟩ : ∃ y, Hid (leftSum (leftF l' keep) (r.loose.take jj) = y) := ⟨_, rfl⟩
                  obtain ⟨u, hu⟩ : ∃ u, Hid (leftF l' keep x.1 = u) := ⟨_, rfl⟩
                  obtain ⟨t, ht⟩ : ∃ t, Hid (x.1 = t) := ⟨_, rfl⟩
                  obtain ⟨z, hz⟩ : ∃ z, Hid (x.2 = z) := ⟨_, rfl⟩
                  rw [hy.out] at hS hS1 HSUM ⊢
                  rw [hu.out] at hS1 hlook HSUM
                  rw [ht.out] at d0 hlook
                  rw [hz.out] at d1
                  have HLK := Lib.hid hlook
                  have hw1 : IntKind.i64.wrap ((jj : Int) + 1) = ((jj + 1 : Nat) : Int) := by have := hSZ.out; rw [IntKind.wrap_i64]; omega
                  have hw2 : IntKind.i64.wrap ((dl : Int) - op + y + u) = (dl : Int) - op + (y + u) := by have := hSZ.out; rw [IntKind.wrap_i64]; omega
                  have hjlt2 : ((jj : Nat) : Int) < ll := by omega
                  have hb0 : ((0 : Int) ≤ jj) := by omega
                  have HMW : Hid (MapAt intV wr w3.heap.size L2 c2) := (HSB.out.block _ HMAP.out.lt).trans HMAP.out
                  have hbd : Hid (∀ o, Below w6.heap.size w6 (wr.alloc o)) := fun o => HSB.out.alloc HSB.out.size o
                  clear hT hT1 hS hS1 htake hlook hjj hx hg
                  go_wp2_with (at_lookup; refine wpList_look_at _ rfl _ _ 88 rfl 3 int_keys Tryz.underlying88 (.int .i64 0) int_zero rfl (HMW.out.alloc _) t rfl ?_; rw [HLK.out])
                  exact ⟨⟨jj + 1, hjlt, rfl, by rw [HSUM.out], hbd.out _⟩, by simp [intOf]; omega⟩
                · have hjn : jj = ll := by omega
                  subst hjn
                  have htl : r.loose.take jj = r.loose := by rw [← hll.out]; exact List.take_length
                  rw [htl]
                  obtain ⟨N, hN⟩ : ∃ N, Hid (keepN (leftF l' keep) r = N) := ⟨_, rfl⟩
                  have hNX := HNX.out
                  rw [hN.out, hdl.out, hop.out] at hNX
                  rw [← hNX.1]
                  have hcd : dl ≤ cd := by
                    have h1 := HREC.out.data
                    rw [HDV.out] at h1
                    have := (h1.cut r.data.length (Nat.le_refl _)).2
                    rwa [hdl.out] at this
                  have hcw := HC6.out.below HSB.out
                  have hrecw := hcw.rec HR.out HKN.out
                  obtain ⟨f0, _, ff⟩ := hrecw.cells
                  rw [HDV.out, hdl.out] at f0
                  have hn0 : (0 : Int) ≤ N := by omega
                  have hnc : (N : Int) ≤ cd := by omega
                  have hnx := hcw.next HR.out HKN.out HF9.out (ptrF r) b9
                  rw [hN.out, HDV.out] at hnx
                  have hnx1 : Hid (CrashAt base s (leftF l' keep) w3.heap.size L2 c2 wq.heap.size w ((wr.setCell ⟨r.F, 0, none⟩ (.slice Ad N N)).setCell ⟨r.F, 1, none⟩ (.slice none 0 0)) (dn ++ [⟨k9, ptrF r, b9⟩])) := hnx.1
                  have hnx2 : Hid (IterAt Value.string ((wr.setCell ⟨r.F, 0, none⟩ (.slice Ad N N)).setCell ⟨r.F, 1, none⟩ (.slice none 0 0)) s.M wq.heap.size s.L s.c (dn ++ [⟨k9, ptrF r, b9⟩])) :=
                    HIT6.out.ofEq ((setCell2_heap wr r.F 0 1 _ _ _ hnx.2.2).trans (HSB.out.block _ HIT6.out.1.lt)) ((setCell2_heap wr r.F 0 1 _ _ _ hnx.2.1).trans (HSB.out.block _ HIT6.out.lt))
                  clear hNX hcd hcw hrecw hnx hjj hjlt HMAP HROW HC6 HIT6 HNX HF9 HREC HDV HLV htl h60 f16 ff6 HSB
                  go_wp2
                  exact ⟨⟨_, hnx2.out, hnx1.out⟩, by rw [hnx2.out.left, HS.out.1.left]; have := HL9.out; simp; omega⟩
    · intro e he hnd w2 hrg2 hg2 hs2 hen
      obtain ⟨r, hr, hv⟩ := H.out.mem he
      obtain ⟨k9, v9, b9⟩ := e
      simp only at hr hv hen hrg2
      subst hv
      obtain ⟨h1, h2, h3, h4⟩ := HS.out
      have HS2 : Hid (IterAt Value.string w2 s.M w.heap.size s.L s.c (dn ++ [⟨k9, ptrF r, b9⟩]) ∧ Below w.heap.size w w2) := ⟨hrg2, h2.grown hg2 h2.size (fun g e => by cases e; exact Nat.le_refl _)⟩
      have HROW : Hid (w2.ownsRow (w.heap.size + 1) 86 2 (.slice A n c) (allOf s dn).length (pieceCells (allOf s dn))) := by
        rw [h3]
        refine ownsRow_keep h4 fun g hg => hg2.block g (h4.lt g hg).2 (fun e => ?_)
        have := (h4.lt g hg).1
        injection e with e
        omega
      have hrec := (H.out.below HS2.out.2).recs k9 r hr
      obtain ⟨_, f1, _⟩ := hrec.cells
      obtain ⟨Al, cl, hlv⟩ := own_slice hrec.loose
      have hl2 := hrec.loose
      obtain ⟨ll, hll⟩ : ∃ ll, Hid (r.loose.length = ll) := ⟨_, rfl⟩
      rw [hlv, hll.out] at hl2 f1
      have HLO2 := Lib.hid hl2
      have HAL : Hid (allOf s (dn ++ [⟨k9, ptrF r, b9⟩]) = allOf s dn ++ r.loose) := by rw [Hid, allOf_snoc]; simp only; rw [looseK_some hr]
      have hle := hrg2.le
      have HL9 : Hid (dn.length + 1 ≤ s.L.length) := by simp only [Hid]; simpa using hle
      have HBD : Hid ((allOf s dn).length + r.loose.length ≤ 100000000) := by
        rw [Hid]
        have e1 := H.out.all_len (dn ++ [⟨k9, ptrF r, b9⟩])
        rw [HAL.out] at e1
        have e2 := (H.out.sumK_le (dn ++ [⟨k9, ptrF r, b9⟩])).2
        have e3 := H.out.few
        have e4 := HL9.out
        simp only [List.length_append, List.length_singleton] at e1 e2
        omega
      have HSZ : Hid (w.heap.size + 1 ≤ w2.heap.size) := hrg2.lt
      simp only [ptrF] at hen
      clear hrg2 hg2 hs2 hle he hnd hr hrec hlv hl2 h1 h2 h3 h4
      go_wp2_with (at_builtin; refine wpList_append_pieces _ rfl _ _ rfl (w.heap.size + 1) (.slice A n c) (allOf s dn) r.loose Al _ cl rfl rfl hll.out HROW.out HLO2.out HBD.out HSZ.out ?_; intro v' w3 h1 h2; have HG3 := Lib.hid h2; obtain ⟨A', c', rfl⟩ := own_slice h1; have HR3 := Lib.hid h1; clear h1 h2; obtain ⟨n', hn'⟩ : ∃ n', Hid ((allOf s dn ++ r.loose).length = n') := ⟨_, rfl⟩; rw [hn'.out] at HR3 ⊢)
      have HIT3 : Hid (IterAt Value.string w3 s.M w.heap.size s.L s.c (dn ++ [⟨k9, ptrF r, b9⟩]) ∧ Below w.heap.size w w3) := by
        have hr4 := HROW.out
        refine ⟨?_, HS2.out.2.grown HG3.out HS2.out.2.size (fun g hg => ?_)⟩
        · refine HS2.out.1.ofEq (HG3.out.block _ HS2.out.1.1.lt (fun e => ?_)) (HG3.out.block _ HS2.out.1.lt (fun e => ?_))
          · have h5 := (hr4.lt _ e.symm).1
            have h6 := H.out.lt (.inr (.inl rfl))
            omega
          · have h5 := (hr4.lt _ e.symm).1
            omega
        · have := (hr4.lt g hg).1; omega
      go_roundw
      case rel => exact ⟨dn ++ [⟨k9, ptrF r, b9⟩], A', n', c', rfl, HIT3.out.1, HIT3.out.2, by rw [HAL.out]; exact hn'.out, by rw [HAL.out]; exact HR3.out⟩
      case measure => rw [HIT3.out.1.left, HS.out.1.left]; have := HL9.out; simp; omega
end Go.Proofs.YthokoimoiamddaaGreatDoor
