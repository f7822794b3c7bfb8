/-
  net: the law NetFull, walked. Own work.
-/
import Derived.Test.YtgibpiakeaplbaaDoorNetLawWays
import Derived.Test.YtgibpiakeaplbaaDoorNetFull0
import Derived.Test.YtgibpiakeaplbaaDoorNetCounts
import Derived.BigFrame
set_option linter.unusedSimpArgs false
set_option linter.unusedVariables false
namespace Go.Proofs.YtgibpiakeaplbaaDoor
open Go Go.RowKit

theorem send_bk (base B : Nat) (T : Lines) (k : Int × Int) (A : Option Addr) (n c : Nat) (bs : List UInt8) (hbn : bs.length = n) (w : World) (hn : NetB base w B T) (hbase : base ≤ w.heap.size) (hA : BytesAt w A bs) :
    Calls Tryd.prog 12 #[.pointer (some ⟨B, 0, none⟩), .int .i64 k.1, .int .i64 k.2, .slice A n c] w fun e w' => e = .returned (errV (sendT T k n)) ∧ Below base w w' ∧ KeepC w w' ∧
      NetB base w' B (if sendT T k n = none then updT T k (T k ++ [bs]) else T) := by
  subst hbn
  obtain ⟨S, h1, h2⟩ := hn
  have hlen : (S k).length = (T k).length := by rw [← h2 k]; simp
  have he : sendE S k bs.length = sendT T k bs.length := by simp only [sendE, sendT, hlen]; rfl
  refine (send_any base B S k A c bs w h1 hbase hA).mono ?_
  rintro e w' ⟨h3, h4, hk, h5⟩
  rw [he] at h3 h5
  refine ⟨h3, h4, hk, ?_⟩
  rcases h5 with ⟨h5, h6⟩ | ⟨h5, v, h6, _⟩
  · rw [if_neg h5]; exact ⟨S, h6, h2⟩
  · rw [if_pos h5]; exact netB_of h6 h2 (by simp [h2])

theorem lose_bk (base B : Nat) (T : Lines) (k : Int × Int) (i : Int) (w : World) (hn : NetB base w B T) (hbase : base ≤ w.heap.size) :
    Calls Tryd.prog 16 #[.pointer (some ⟨B, 0, none⟩), .int .i64 k.1, .int .i64 k.2, .int .i64 i] w fun e w' => e = .returned (errV (placeT T k i)) ∧ Below base w w' ∧ KeepC w w' ∧
      NetB base w' B (if placeT T k i = none then updT T k ((T k).eraseIdx i.toNat) else T) := by
  obtain ⟨S, h1, h2⟩ := hn
  have hlen : (S k).length = (T k).length := by rw [← h2 k]; simp
  have he : placeE S k i = placeT T k i := by simp only [placeE, placeT, hlen]; rfl
  refine (lose_any base B S k i w h1 hbase).mono ?_
  rintro e w' ⟨h4, hk, h3, h5⟩
  rw [he] at h3 h5
  refine ⟨h3, h4, hk, ?_⟩
  rcases h5 with ⟨h5, h6⟩ | ⟨h5, j, hj, _, h6⟩
  · rw [if_neg h5]; exact ⟨S, h6, h2⟩
  · rw [if_pos h5]; subst hj; exact netB_of h6 h2 (by rw [map_erase, h2]; simp)

theorem double_bk (base B : Nat) (T : Lines) (k : Int × Int) (i : Int) (w : World) (hn : NetB base w B T) (hbase : base ≤ w.heap.size) :
    Calls Tryd.prog 15 #[.pointer (some ⟨B, 0, none⟩), .int .i64 k.1, .int .i64 k.2, .int .i64 i] w fun e w' => e = .returned (errV (doubleT T k i)) ∧ Below base w w' ∧ KeepC w w' ∧
      NetB base w' B (if doubleT T k i = none then updT T k (T k ++ [(T k).getD i.toNat []]) else T) := by
  obtain ⟨S, h1, h2⟩ := hn
  have hlen : (S k).length = (T k).length := by rw [← h2 k]; simp
  have he : doubleE S k i = doubleT T k i := by simp only [doubleE, doubleT, placeE, placeT, hlen]; rfl
  refine (double_any base B S k i w h1 hbase).mono ?_
  rintro e w' ⟨h3, h4, hk, h5⟩
  rw [he] at h3 h5
  refine ⟨h3, h4, hk, ?_⟩
  rcases h5 with ⟨h5, h6⟩ | ⟨h5, j, p, v, hj, hp, h6, _⟩
  · rw [if_neg h5]; exact ⟨S, h6, h2⟩
  · rw [if_pos h5]; subst hj
    refine netB_of h6 h2 ?_
    have : (T k)[j]? = some p.2 := by rw [← h2 k]; simp [hp]
    simp [h2, List.getD, this]

/-- The facts kept over the law's drawn line: the box of 'want', and that nothing elder than the net has turned. -/
abbrev KF (base : Nat) (w0 : World) (g : Nat) (W : World) : Prop := W.cell? ⟨g, 0, none⟩ = some (.bool true) ∧ W.cell? ⟨g, 1, none⟩ = some (.slice none 0 0) ∧ W.cell? ⟨g, 2, none⟩ = some (.int .i64 11) ∧ Hid (W.heap[g]? = some (.cells #[.bool true, .slice none 0 0, .int .i64 11] 41 (0, 0)) ∧ Below base w0 W)
theorem KF.mk {base : Nat} {w0 : World} {g : Nat} {W : World} (h : W.heap[g]? = some (.cells #[.bool true, .slice none 0 0, .int .i64 11] 41 (0, 0))) (hb : Below base w0 W) : KF base w0 g W :=
  ⟨by simp [World.cell?, h], by simp [World.cell?, h], by simp [World.cell?, h], h, hb⟩
theorem KF.keep {base : Nat} {w0 : World} {g : Nat} {W W' : World} (h : KF base w0 g W) (hb : Below base W W') (hk : KeepC W W') : KF base w0 g W' :=
  KF.mk (hk g _ _ _ h.2.2.2.out.1 (by decide)) (h.2.2.2.out.2.trans hb)
theorem KF.step {base : Nat} {w0 : World} {g : Nat} {W W' : World} (h : KF base w0 g W) (h0 : base ≤ w0.heap.size) (hb : Below W.heap.size W W') : KF base w0 g W' :=
  h.keep (hb.mono (Nat.le_trans h0 h.2.2.2.out.2.size)) (KeepC.below hb)

theorem wpList_append_own_g {P : Program} (w : World) {ops : Array Oper} {rest : List Oper} {o : Oper} {a : Act} {Q : Exit → Act → World → Prop} (hw : Region.wanted o (yielded ops a.tmps) = true) (s x : Operand) (t : TypeId)
    (ho : o.op = .call { callee := .builtin .append, args := #[s, x], argTypes := #[t, t] })
    (base : Nat) (e : TypeId) (i : TypeInfo) (z : Value) (size bytes : Nat) (ht : P.underlying t = some (.slice e)) (hi : P.info? e = some i) (hz : i.zero = some z)
    (hsize : i.size = size) (hby : i.bytes = bytes) (hzs : z.cells.size = size) (hsz : 0 < size)
    (v : Value) (n : Nat) (xs : List Value) (hs : a.eval s = v) (hown : w.ownsRow base e size v n xs)
    (ad : Addr) (m c : Nat) (news : List Value) (hx : a.eval x = .slice (some ad) m c) (hl : news.length = m * size) (hnews : ∀ j u, news[j]? = some u → w.cell? (ad.add j) = some u) (h1 : ∀ u ∈ news, u.oneCell' = true)
    (h63 : n + m ≤ maxLen) (hbytes : (n + m) * bytes ≤ 140737488355328) (hbase : base ≤ w.heap.size)
    (h : ∀ v' w', w'.ownsRow base e size v' (n + m) (xs ++ news) → w.grownBy w' v.ownBlock → (v' = .slice none 0 0 ↔ v = .slice none 0 0 ∧ m = 0) → wpList P ops Q rest (a.put o.dst v') w') : wpList P ops Q (o :: rest) a w :=
  BigFrame.wpList_want hw fun _ hK => wp_append_own w s x t ho base e i z size bytes ht hi hz hsize hby hzs hsz v n xs hs hown ad m c news hx hl hnews h1 h63 hbytes hbase fun v' w' h2 h3 h4 => hK _ _ (h v' w' h2 h3 h4)

/-- The list of the reference behind it all: 1024 packets and one the other way. -/
def fullL (k : Int × Int) : List RP := List.replicate 1024 (k, (none, 0, 0)) ++ [((k.2, k.1), (none, 0, 0))]
def fullT (k : Int × Int) (bs : List UInt8) : Lines := updT (lineT k (List.replicate 1024 bs)) (k.2, k.1) [bs]
theorem fullL_len (k : Int × Int) : (fullL k).length = 1025 := by simp [-List.reduceReplicate, fullL]
theorem full_cnt {k : Int × Int} (hk : k.1 ≠ k.2) (bs : List UInt8) (k' : Int × Int) : (fullT k bs k').length = cnt k' (fullL k) := by
  have h0 : cnt k' (List.replicate 1024 (k, ((none, 0, 0) : SlD))) = if k = k' then 1024 else 0 := by
    simp [-List.reduceReplicate, cnt, List.count_replicate]
  rw [fullL, cnt_snoc, h0]
  by_cases h1 : k' = (k.2, k.1)
  · subst h1
    have hne : ¬ (k = (k.2, k.1)) := fun e => hk (congrArg Prod.fst e)
    simp [-List.reduceReplicate, fullT, updT, hne]
  · by_cases h2 : k' = k
    · subst h2
      simp [-List.reduceReplicate, fullT, updT, h1, lineT]
      exact fun e => h1 e.symm
    · have h3 : ¬ (k = k') := fun e => h2 e.symm
      have h4 : ¬ ((k.2, k.1) = k') := fun e => h1 e.symm
      simp [-List.reduceReplicate, fullT, updT, h1, lineT, h2, h3, h4]

/-- What the net's calls behind the 1024 sends answer. -/
structure FullAns (base B : Nat) (k1 k2 : Int) (A : Option Addr) (n c : Nat) (bs : List UInt8) (w0 : World) (g : Nat) : Prop where
  send : ∀ (a b : Int) (T T' : Lines) (v : Value), (a = k1 ∧ b = k2 ∧ T = lineT (k1, k2) (List.replicate 1024 bs) ∧ T' = T ∧ v = .iface 39 (.int .i64 11)) ∨ (a = k2 ∧ b = k1 ∧ T = lineT (k1, k2) (List.replicate 1024 bs) ∧ T' = fullT (k1, k2) bs ∧ v = .nilIface) → ∀ W, KF base w0 g W → Hid (NetB base W B T) →
    Calls Tryd.prog 12 #[.pointer (some ⟨B, 0, none⟩), .int .i64 a, .int .i64 b, .slice A n c] W fun e w' => e = .returned v ∧ KF base w0 g w' ∧ Hid (NetB base w' B T')
  dbl : ∀ W, KF base w0 g W → Hid (NetB base W B (lineT (k1, k2) (List.replicate 1024 bs))) →
    Calls Tryd.prog 15 #[.pointer (some ⟨B, 0, none⟩), .int .i64 k1, .int .i64 k2, .int .i64 5] W fun e w' => e = .returned (.iface 39 (.int .i64 11)) ∧ KF base w0 g w' ∧ Hid (NetB base w' B (lineT (k1, k2) (List.replicate 1024 bs)))
  fls : ∀ W, KF base w0 g W → Hid (NetB base W B (lineT (k1, k2) (List.replicate 1024 bs))) →
    Calls Tryd.prog 14 #[.iface 39 (.int .i64 11), .agg #[.bool true, .slice none 0 0, .int .i64 11]] W fun e w' => e = .returned (.bool true) ∧ KF base w0 g w' ∧ Hid (NetB base w' B (lineT (k1, k2) (List.replicate 1024 bs)))
  los : ∀ W, KF base w0 g W → Hid (NetB base W B (fullT (k1, k2) bs)) →
    Calls Tryd.prog 16 #[.pointer (some ⟨B, 0, none⟩), .int .i64 k1, .int .i64 k2, .int .i64 9] W fun e w' => e = .returned .nilIface ∧ KF base w0 g w' ∧ Hid (NetB base w' B (updT (fullT (k1, k2) bs) (k1, k2) (List.replicate 1023 bs)))
  dbl2 : ∀ W, base ≤ W.heap.size → Hid (NetB base W B (updT (fullT (k1, k2) bs) (k1, k2) (List.replicate 1023 bs))) →
    Calls Tryd.prog 15 #[.pointer (some ⟨B, 0, none⟩), .int .i64 k1, .int .i64 k2, .int .i64 0] W fun e w' => e = .returned .nilIface ∧ Hid (Below base W w' ∧ NetB base w' B (fullT (k1, k2) bs))

theorem fullT_upd {k : Int × Int} (hk : k.1 ≠ k.2) (bs : List UInt8) (l : List (List UInt8)) : updT (updT (fullT k bs) k l) k (List.replicate 1024 bs) = fullT k bs := by
  funext k'
  have hne : ¬ (k = (k.2, k.1)) := fun e => hk (congrArg Prod.fst e)
  unfold fullT lineT updT
  by_cases h : k' = k
  · subst h; simp [hne]
  · simp [h]

theorem fullAns {base B : Nat} {k1 k2 : Int} {A : Option Addr} {n c : Nat} {bs : List UInt8} {w0 : World} {g : Nat} (hbn : bs.length = n) (hn : n ≤ 100) (hway : wayE (k1, k2) = none) (hway2 : wayE (k2, k1) = none) (hne : k1 ≠ k2)
    (h0 : base ≤ w0.heap.size) (hA : ∀ W, Below base w0 W → BytesAt W A bs) (hT : ∀ W, Below base w0 W → ErrT W) : FullAns base B k1 k2 A n c bs w0 g := by
  have hnek : ¬ ((k2, k1) = (k1, k2)) := fun e => hne (congrArg Prod.snd e)
  have hnek2 : ¬ ((k1, k2) = (k2, k1)) := fun e => hne (congrArg Prod.fst e)
  have s0 : ∀ {W}, KF base w0 g W → base ≤ W.heap.size := fun h => Nat.le_trans h0 h.2.2.2.out.2.size
  have l1 : (lineT (k1, k2) (List.replicate 1024 bs)) (k1, k2) = List.replicate 1024 bs := lineT_at _ _
  have l2 : (fullT (k1, k2) bs) (k1, k2) = List.replicate 1024 bs := by
    unfold fullT; rw [updT_other _ _ _ _ hnek2]; exact l1
  refine ⟨?_, ?_, ?_, ?_, ?_⟩
  · rintro a b T T' v (⟨rfl, rfl, rfl, rfl, rfl⟩ | ⟨rfl, rfl, rfl, rfl, rfl⟩) W hW hN
    · have hs : sendT (lineT (a, b) (List.replicate 1024 bs)) (a, b) n = some 11 := by
        simp only [sendT, hway, l1, List.length_replicate]; rw [if_neg (by omega), if_pos (by omega)]
      refine (send_bk base B _ (a, b) A n c bs hbn W hN.out (s0 hW) (hA W hW.2.2.2.out.2)).mono ?_
      rw [hs, if_neg (by simp)]
      rintro e w' ⟨rfl, h1, h2, h3⟩
      exact ⟨rfl, hW.keep h1 h2, h3⟩
    · have l3 : (lineT (b, a) (List.replicate 1024 bs)) (a, b) = [] := by simp [lineT, updT, hnek]
      have hs : sendT (lineT (b, a) (List.replicate 1024 bs)) (a, b) n = none := by
        simp only [sendT, hway2, l3, List.length_nil]; rw [if_neg (by omega), if_neg (by omega)]
      refine (send_bk base B _ (a, b) A n c bs hbn W hN.out (s0 hW) (hA W hW.2.2.2.out.2)).mono ?_
      rw [hs, if_pos rfl, l3]
      rintro e w' ⟨rfl, h1, h2, h3⟩
      exact ⟨rfl, hW.keep h1 h2, h3⟩
  · intro W hW hN
    have hs : doubleT (lineT (k1, k2) (List.replicate 1024 bs)) (k1, k2) 5 = some 11 := by
      simp only [doubleT, placeT, hway, l1, List.length_replicate]
      rw [if_neg (by omega)]
      simp only
      rw [if_pos (by omega)]
    refine (double_bk base B _ (k1, k2) 5 W hN.out (s0 hW)).mono ?_
    rw [hs, if_neg (by simp)]
    rintro e w' ⟨rfl, h1, h2, h3⟩
    exact ⟨rfl, hW.keep h1 h2, h3⟩
  · intro W hW hN
    refine (fails_plain 11 11 W (hT W hW.2.2.2.out.2)).mono ?_
    rintro e w' ⟨rfl, hb⟩
    exact ⟨rfl, hW.step h0 hb, hN.out.below hb⟩
  · intro W hW hN
    have hs : placeT (fullT (k1, k2) bs) (k1, k2) 9 = none := by
      simp only [placeT, hway, l2, List.length_replicate]; rw [if_neg (by omega)]
    refine (lose_bk base B _ (k1, k2) 9 W hN.out (s0 hW)).mono ?_
    rw [hs, if_pos rfl, l2]
    rintro e w' ⟨rfl, h1, h2, h3⟩
    have e1 : (List.replicate 1024 bs).eraseIdx (9 : Int).toNat = List.replicate 1023 bs := by
      rw [List.eraseIdx_replicate]; simp [-List.reduceReplicate]
    rw [e1] at h3
    exact ⟨rfl, hW.keep h1 h2, h3⟩
  · intro W hW hN
    have l4 : (updT (fullT (k1, k2) bs) (k1, k2) (List.replicate 1023 bs)) (k1, k2) = List.replicate 1023 bs := updT_same _ _ _
    have hs : doubleT (updT (fullT (k1, k2) bs) (k1, k2) (List.replicate 1023 bs)) (k1, k2) 0 = none := by
      simp only [doubleT, placeT, hway, l4, List.length_replicate]
      rw [if_neg (by omega)]
      simp only
      rw [if_neg (by omega)]
    refine (double_bk base B _ (k1, k2) 0 W hN.out hW).mono ?_
    rw [hs, if_pos rfl, l4]
    rintro e w' ⟨rfl, h1, h2, h3⟩
    have e1 : List.replicate 1023 bs ++ [(List.replicate 1023 bs).getD (0 : Int).toNat []] = List.replicate 1024 bs := by
      have : (List.replicate 1023 bs).getD (0 : Int).toNat [] = bs := by simp [-List.reduceReplicate, List.getD, List.getElem?_replicate]
      rw [this, ← List.replicate_succ']
    rw [e1, fullT_upd (by simpa using hne)] at h3
    exact ⟨rfl, h1, h3⟩

set_option maxHeartbeats 4000000 in
theorem full_in (A : Option Addr) (n c : Nat) (bs : List UInt8) (hbn : bs.length = n) (k1 k2 : Int) (w : World) (hA : BytesAt w A bs) (hT : ErrT w) (hn : ¬ 100 < n) (h1 : nodeB k1 = true) (h2 : nodeB k2 = true) (h3 : ¬ k1 = k2) :
    Calls Tryd.prog 4 #[.int .i64 k1, .int .i64 k2, .slice A n c] w fun e w' => e = .returned (.bool true) ∧ Below w.heap.size w w' := by
  have HW : Hid (wayE (k1, k2) = none ∧ wayE (k2, k1) = none ∧ k1 ≠ k2) := by
    have h4 : ¬ k2 = k1 := fun e => h3 e.symm
    refine ⟨?_, ?_, h3⟩ <;> simp [wayE, wayB, h1, h2, h3, h4]
  have hn1 := fun W => (node_ref k1 W).mono (fun e w' h => And.intro h.1 h.2.symm)
  have hn2 := fun W => (node_ref k2 W).mono (fun e w' h => And.intro h.1 h.2.symm)
  rw [h1] at hn1
  rw [h2] at hn2
  have d : decide ((n : Int) > 100) = false := by simp; omega
  have HN : Hid (n ≤ 100 ∧ bs.length = n) := ⟨by omega, hbn⟩
  have HA := Lib.hid hA
  have HT := Lib.hid hT
  clear hA hT hn h1 h2 hbn
  go_enter Tryd.func4, Tryd.ntmps4
  go_wp2_with (first | (go_at_call 7; refine (awake_any _).mono ?_; rintro e w1 ⟨rfl, hb⟩; have hb1 := Lib.hid hb; clear hb) | (go_at_call 11; refine (hn1 _).mono ?_; clear hn1; rintro e w' ⟨rfl, rfl⟩) | (go_at_call 11; refine (hn2 _).mono ?_; rintro e w' ⟨rfl, rfl⟩))
  clear hn2 h3
  refine (newNet_any _).mono ?_
  rintro e w' ⟨rfl, rfl⟩
  obtain ⟨w2, hw2⟩ : ∃ w2, w2 = (w1.alloc (.map #[] 0)).alloc (.cells #[.map (some w1.heap.size)] 62) := ⟨_, rfl⟩
  have H2 : Hid (NetB w1.heap.size w2 (w1.heap.size + 1) (lineT (k1, k2) (List.replicate 0 bs)) ∧ Below w1.heap.size w1 w2) := by
    rw [hw2]
    have := netB_new w1
    have e : (fun _ => [] : Lines) = lineT (k1, k2) (List.replicate 0 bs) := by funext k'; unfold lineT updT; split <;> rfl
    rw [e] at this
    exact ⟨this, ((Below.refl _ _).alloc (Nat.le_refl _) _).alloc (by simp) _⟩
  rw [← hw2]
  clear hw2
  obtain ⟨m, hm⟩ : ∃ m : Nat, Hid (m = 1024) := ⟨_, rfl⟩
  go_wp2
  go_loopw [30] (fun i wr => ∃ (j : Nat), j ≤ m ∧ i = .int .i64 j ∧ Hid (NetB w1.heap.size wr (w1.heap.size + 1) (lineT (k1, k2) (List.replicate j bs)) ∧ Below w1.heap.size w1 wr)) (fun i _ => m - (intOf i).toNat)
  case atStart => exact ⟨0, Nat.zero_le _, rfl, H2.out⟩
  case round =>
    obtain ⟨j, hj, rfl, HS⟩ := hrel
    by_cases hlt : j < m
    · have hj1 : ((j : Nat) : Int) < 1024 := by have := hm.out; omega
      have hwr : IntKind.i64.wrap ((j : Int) + 1) = ((j : Int) + 1) := by rw [IntKind.wrap_i64]; omega
      have HSEND : Hid (Calls Tryd.prog 12 #[.pointer (some ⟨w1.heap.size + 1, 0, none⟩), .int .i64 k1, .int .i64 k2, .slice A n c] wr fun e w' => e = .returned .nilIface ∧ Hid (NetB w1.heap.size w' (w1.heap.size + 1) (lineT (k1, k2) (List.replicate (j + 1) bs)) ∧ Below w1.heap.size w1 w')) := by
        refine (send_ok w1.heap.size (w1.heap.size + 1) (lineT (k1, k2) (List.replicate j bs)) k1 k2 A n c bs wr HS.out.1 HS.out.2.size (HA.out.below (hb1.out.trans (HS.out.2.mono hb1.out.size))) HN.out.2 ?_).mono ?_
        · simp only [sendT, HW.out.1, lineT_at, List.length_replicate]
          rw [if_neg (by have := HN.out; omega), if_neg (by have := hm.out; omega)]
        · rintro e w' ⟨rfl, h4, h5⟩
          rw [lineT_at, lineT_upd, ← List.replicate_succ'] at h5
          exact ⟨rfl, h5, HS.out.2.trans h4⟩
      go_wp2_with (go_at_call 12; refine HSEND.out.mono ?_; rintro e w3 ⟨rfl, H3⟩)
      exact ⟨⟨j + 1, hlt, by simp, H3.out⟩, by simp [intOf]; omega⟩
    · have hjn : j = 1024 := by have := hm.out; omega
      subst hjn
      clear hlt hj
      go_wp2_with fail
      refine (n_any 11 _).mono ?_
      rintro e w4 ⟨rfl, hb4⟩
      have HB4 := Lib.hid hb4
      clear hb4
      go_wp2_with fail
      obtain ⟨w5, hw5⟩ : ∃ w5, w5 = w4.alloc (.cells #[.bool true, .slice none 0 0, .int .i64 11] 41) := ⟨_, rfl⟩
      obtain ⟨G, hG⟩ : ∃ G, G = w4.heap.size := ⟨_, rfl⟩
      have hb5 : Below wr.heap.size wr w5 := by rw [hw5]; exact HB4.out.alloc HB4.out.size _
      have hK : KF w1.heap.size w1 G w5 := KF.mk (by rw [hw5, hG]; exact heap_alloc_new w4 _) (HS.out.2.trans (hb5.mono HS.out.2.size))
      have HX : Hid (NetB w1.heap.size w5 (w1.heap.size + 1) (lineT (k1, k2) (List.replicate 1024 bs))) := HS.out.1.below hb5
      have HFA : Hid (FullAns w1.heap.size (w1.heap.size + 1) k1 k2 A n c bs w1 G) := fullAns HN.out.2 HN.out.1 HW.out.1 HW.out.2.1 HW.out.2.2 (Nat.le_refl _) (fun W hW => HA.out.below (hb1.out.trans (hW.mono hb1.out.size))) (fun W hW => HT.out.below (hb1.out.trans (hW.mono hb1.out.size)))
      rw [← hG, ← hw5]
      clear hw5 hG HB4 hb5 HS
      have hKd : KF w1.heap.size w1 G w5.drew := hK.step (Nat.le_refl _) (Below.refl _ _).drew
      have HXd : Hid (NetB w1.heap.size w5.drew (w1.heap.size + 1) (lineT (k1, k2) (List.replicate 1024 bs))) := HX.out.below (Below.refl _ _).drew
      clear hK HX
      go_region_held_law (fun W => W.cell? ⟨G, 0, none⟩ = some (.bool true) ∧ W.cell? ⟨G, 1, none⟩ = some (.slice none 0 0) ∧ W.cell? ⟨G, 2, none⟩ = some (.int .i64 11) ∧ Hid (W.heap[G]? = some (.cells #[.bool true, .slice none 0 0, .int .i64 11] 41 (0, 0)) ∧ Below w1.heap.size w1 W))
        (assumption)
        (first
          | (go_at_call 12; refine (HFA.out.send _ _ _ _ _ (by first | exact .inl ⟨rfl, rfl, rfl, rfl, rfl⟩ | exact .inr ⟨rfl, rfl, rfl, rfl, rfl⟩) _ (by assumption) (by assumption)).mono ?_; rintro e w13 ⟨rfl, hK13, HX13⟩)
          | (go_at_call 14; refine (HFA.out.fls _ (by assumption) (by assumption)).mono ?_; rintro e w13 ⟨rfl, hK13, HX13⟩)
          | (go_at_call 15; refine (HFA.out.dbl _ (by assumption) (by assumption)).mono ?_; rintro e w13 ⟨rfl, hK13, HX13⟩)
          | (go_at_call 16; refine (HFA.out.los _ (by assumption) (by assumption)).mono ?_; rintro e w13 ⟨rfl, hK13, HX13⟩))
      all_goals
        have HK := Lib.hid hK13
        have HX := Lib.hid HX13.out
        clear hK13 HX13 hKd HXd
        go_wp2_with fail
        refine (HFA.out.dbl2 _ HK.out.2.2.2.out.2.size HX).mono ?_
        rintro e w14 ⟨rfl, H14⟩
        have H14' : Hid (Below w1.heap.size w1 w14 ∧ NetB w1.heap.size w14 (w1.heap.size + 1) (fullT (k1, k2) bs)) := ⟨HK.out.2.2.2.out.2.trans H14.out.1, H14.out.2⟩
        clear HK HX HFA H14 HA HT
        go_wp2_with fail
        refine (full_any (k1, k2) _).mono ?_
        rintro e w15 ⟨A5, c5, rfl, H15⟩
        obtain ⟨i0, hi0, hz0, hz1, hz2⟩ := info_parts rp_info
        obtain ⟨lr, hlr⟩ : ∃ lr : List RP, Hid (List.replicate 1024 ((k1, k2), (none, 0, 0)) = lr) := ⟨_, rfl⟩
        have HR : Hid (w15.ownsRow w14.heap.size 47 3 (.slice A5 1024 c5) 1024 (rpCells lr)) := by rw [← hlr.out]; exact H15.out.1
        have HB15 : Hid (Below w14.heap.size w14 w15) := H15.out.2
        clear H15
        have HSZ : Hid (w14.heap.size ≤ (w15.alloc (.cells #[.int .i64 k2, .int .i64 k1, .slice none 0 0] 47)).heap.size) := Nat.le_trans HB15.out.size (by simp)
        go_wp2_with (first
          | (at_builtin; refine wpList_append_own_g _ (by rfl) _ _ 26 rfl w14.heap.size 47 i0 _ 3 40 Tryd.underlying26 hi0 hz0 hz1 hz2 rfl (by decide) (.slice A5 1024 c5) 1024 (rpCells lr) rfl (HR.out.alloc _) ⟨w15.heap.size, 0, none⟩ 1 1 [.int .i64 k2, .int .i64 k1, .slice none 0 0] rfl rfl (newrp w15 _ _ _ _) (by simp [Value.oneCell']) (by decide) (by decide) HSZ.out ?_; intro v' w16 hown16 hgrow16 hnil16; obtain ⟨A6, c6, rfl⟩ := own_slice hown16; have HO := Lib.hid hown16; have HG := Lib.hid hgrow16; clear hown16 hgrow16 hnil16))
        have HP : Hid (PackAt w16 A6 (fullL (k1, k2))) := by
          have h := HO.out
          have e : rpCells lr ++ [.int .i64 k2, .int .i64 k1, .slice none 0 0] = rpCells (fullL (k1, k2)) := by
            rw [fullL, rpCells_append, hlr.out]; rfl
          rw [e] at h
          exact packAt_row h
        have HB16 : Hid (Below w1.heap.size w1 w16 ∧ NetB w1.heap.size w16 (w1.heap.size + 1) (fullT (k1, k2) bs)) := by
          have h1 : Below w14.heap.size w14 w16 := (HB15.out.alloc HB15.out.size (.cells #[.int .i64 k2, .int .i64 k1, .slice none 0 0] 47)).grown HG.out HSZ.out (fun b e => (HR.out.lt b e).1)
          exact ⟨H14'.out.1.trans (h1.mono H14'.out.1.size), H14'.out.2.below h1⟩
        clear HO HG HR HB15 HSZ H14' hlr
        refine (lawways_any w1.heap.size (w1.heap.size + 1) (fullT (k1, k2) bs) w16 HB16.out.2 HB16.out.1.size A6 1025 c6 (fullL (k1, k2)) (fullL_len _) (by omega) HP.out (full_cnt HW.out.2.2 bs)).mono ?_
        rintro e w17 ⟨rfl, hb17⟩
        have HEND : Hid (Below w.heap.size w w17) := hb1.out.trans ((HB16.out.1.trans (hb17.mono HB16.out.1.size)).mono hb1.out.size)
        clear hb17 HB16 HP
        go_wp2
        go_ret
        exact ⟨rfl, HEND.out⟩

theorem full_out (A : Option Addr) (n c : Nat) (k1 k2 : Int) (w : World) (h : nodeB k1 = false ∨ (nodeB k1 = true ∧ nodeB k2 = false) ∨ (nodeB k1 = true ∧ nodeB k2 = true ∧ k1 = k2) ∨ (nodeB k1 = true ∧ nodeB k2 = true ∧ ¬ k1 = k2 ∧ 100 < n)) :
    Calls Tryd.prog 4 #[.int .i64 k1, .int .i64 k2, .slice A n c] w fun e w' => e = .returned (.bool true) ∧ Below w.heap.size w w' := by
  have hn1 := fun W => node_ref k1 W
  have hn2 := fun W => node_ref k2 W
  rcases h with h1 | ⟨h1, h2⟩ | ⟨h1, h2, h3⟩ | ⟨h1, h2, h3, h4⟩
  · rw [h1] at hn1
    clear hn2
    go_enter Tryd.func4, Tryd.ntmps4
    go_wp2_with (first | (go_at_call 7; refine (awake_any _).mono ?_; rintro e w1 ⟨rfl, hb⟩) | (go_at_call 11; refine (hn1 _).mono ?_; rintro e w' ⟨rfl, rfl⟩))
    go_ret
    exact ⟨rfl, hb⟩
  · rw [h1] at hn1
    rw [h2] at hn2
    go_enter Tryd.func4, Tryd.ntmps4
    go_wp2_with (first | (go_at_call 7; refine (awake_any _).mono ?_; rintro e w1 ⟨rfl, hb⟩) | (go_at_call 11; refine (hn1 _).mono ?_; clear hn1; rintro e w' ⟨rfl, rfl⟩) | (go_at_call 11; refine (hn2 _).mono ?_; rintro e w' ⟨rfl, rfl⟩))
    go_ret
    exact ⟨rfl, hb⟩
  · subst h3
    rw [h1] at hn1
    clear hn2
    go_enter Tryd.func4, Tryd.ntmps4
    go_wp2_with (first | (go_at_call 7; refine (awake_any _).mono ?_; rintro e w1 ⟨rfl, hb⟩) | (go_at_call 11; refine (hn1 _).mono ?_; rintro e w' ⟨rfl, rfl⟩))
    go_ret
    exact ⟨rfl, hb⟩
  · have d : decide ((n : Int) > 100) = true := by simp; omega
    rw [h1] at hn1
    rw [h2] at hn2
    go_enter Tryd.func4, Tryd.ntmps4
    go_wp2_with (first | (go_at_call 7; refine (awake_any _).mono ?_; rintro e w1 ⟨rfl, hb⟩) | (go_at_call 11; refine (hn1 _).mono ?_; clear hn1; rintro e w' ⟨rfl, rfl⟩) | (go_at_call 11; refine (hn2 _).mono ?_; rintro e w' ⟨rfl, rfl⟩))
    go_ret
    exact ⟨rfl, hb⟩

theorem fullLaw_any (A : Option Addr) (c : Nat) (bs : List UInt8) (k1 k2 : Int) (w : World) (hA : BytesAt w A bs) (hT : ErrT w) :
    Calls Tryd.prog 4 #[.int .i64 k1, .int .i64 k2, .slice A bs.length c] w fun e w' => e = .returned (.bool true) ∧ Below w.heap.size w w' := by
  cases h1 : nodeB k1 with
  | false => exact full_out A _ c k1 k2 w (.inl h1)
  | true =>
    cases h2 : nodeB k2 with
    | false => exact full_out A _ c k1 k2 w (.inr (.inl ⟨h1, h2⟩))
    | true =>
      by_cases h3 : k1 = k2
      · exact full_out A _ c k1 k2 w (.inr (.inr (.inl ⟨h1, h2, h3⟩)))
      · by_cases h0 : 100 < bs.length
        · exact full_out A _ c k1 k2 w (.inr (.inr (.inr ⟨h1, h2, h3, h0⟩)))
        · exact full_in A _ c bs rfl k1 k2 w hA hT h0 h1 h2 h3
end Go.Proofs.YtgibpiakeaplbaaDoor
