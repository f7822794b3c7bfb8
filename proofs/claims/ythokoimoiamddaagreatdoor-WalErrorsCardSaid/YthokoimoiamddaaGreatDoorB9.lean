/-
  wal: what the library's functions answer: Itoa below a hundred, Atoi, Repeat, CutPrefix; a file's name. Own work.
  wal: a file's name. Own work.
  wal: the frames in front, and where the first one that is none begins. Own work.
  wal, plain: a log's names among the disk's names: sorted, they are the numbers of its files. Own work.
  wal: a log in memory. Own work.
  wal: the numbers of a log's files. Own work.
  wal: a log on a disk, in memory; what a call on it leaves as it was. Own work.
-/
import Derived.Test.YthokoimoiamddaaGreatDoorLib
import Derived.Test.YthokoimoiamddaaGreatDoorB8
import Derived.Below
import Derived.KernelRfl
import Derived.Test.YthokoimoiamddaaGreatDoorB1
import Derived.Laws.Concat
import Derived.Test.YthokoimoiamddaaGreatDoorWalTake
import Derived.Test.YthokoimoiamddaaGreatDoorB6
set_option linter.unusedSimpArgs false
set_option linter.unusedVariables false
namespace Go.Proofs.YthokoimoiamddaaGreatDoor
open Go Go.RowKit Go.Shelf

theorem walExtra : Builder.Extra Tryz.prog Tryz.layRepeat_ren where
  sizeBuilder := by kernel_rfl
  liesBuilder := by kernel_rfl
  t5 := Tryz.layRepeat.t5
  a5 := Tryz.layRepeat.a5
  z5 := Tryz.layRepeat.z5
  v5 := Tryz.layRepeat.v5
  infoByte := by kernel_rfl
  cellsByte := by kernel_rfl
  sizeByte := by kernel_rfl
  neB5 := by decide
theorem itoa_any (i : Nat) (hi : i < 100) (w : World) : Calls Tryz.prog 50 #[.int .i64 i] w fun e w' => e = .returned (.string ⟨(Lib.decDigits i).toArray⟩) ∧ w' = w := Any.strconv_Itoa_small Tryz.layItoa i hi w
theorem repeat_any (s : ByteArray) (c : Nat) (w : World) (hc : c ≤ 9223372036854775807) (hlen : s.size * c ≤ 140737488355328) : Calls Tryz.prog 51 #[.string s, .int .i64 c] w fun e w' => e = .returned (.string ⟨(Lib.repeatL s.data.toList c).toArray⟩) ∧ Below w.heap.size w w' := Any.strings_Repeat Tryz.layRepeat walExtra s c w hc hlen
theorem cutp_any (s p : ByteArray) (w : World) : Calls Tryz.prog 45 #[.string s, .string p] w fun e w' => e = .returned (.tuple #[.string ⟨(Lib.trimPrefix s.data.toList p.data.toList).toArray⟩, .bool (Lib.hasPrefix s.data.toList p.data.toList)]) ∧ w' = w := Any.strings_CutPrefix Tryz.layCut s p w
theorem atoi_ok (s : ByteArray) (hmax : s.size ≤ 9223372036854775806) (v : Int) (h : Lib.atoiAll s.data.toList = .ok v) (w : World) : Calls Tryz.prog 46 #[.string s] w fun e w' => e = .returned (.tuple #[.int .i64 v, .nilIface]) ∧ (w' = w ∨ ∃ t, w' = Lib.bytesWorld w 5 t) := Any.strconv_Atoi_ok Tryz.layAtoi s hmax v h w
theorem atoi_bad (s : ByteArray) (hlim : s.size ≤ 281474976710656) (h : Lib.atoiAll s.data.toList = Lib.atoiAll []) (tp : TypeId) (p : Value) (w : World) (hvar : w.var? Tryz.prog "strconv.ErrSyntax" = some #[.iface tp p]) :
    Calls Tryz.prog 46 #[.string s] w fun e w' => ∃ q, e = .returned (.tuple #[.int .i64 0, .iface 176 q]) ∧ Below w.heap.size w w' := by
  refine (Any.strconv_Atoi_syntax_var Tryz.layAtoi s hlim h tp p w hvar).mono ?_
  rintro e w' ⟨N, rfl, _, _, hb⟩
  exact ⟨_, rfl, hb⟩
end Go.Proofs.YthokoimoiamddaaGreatDoor
set_option linter.unusedSimpArgs false
set_option linter.unusedVariables false
namespace Go.Proofs.YthokoimoiamddaaGreatDoor
open Go Go.RowKit

/-- A number below a hundred in nine digits. -/
def pad9 (n : Nat) : List UInt8 := List.replicate 7 48 ++ [UInt8.ofNat (48 + n / 10), UInt8.ofNat (48 + n % 10)]
theorem dec_small {n : Nat} (h : n < 10) : Lib.decDigits n = [UInt8.ofNat (48 + n)] := by
  rw [Lib.decDigits, dif_pos h]
theorem dec_two {n : Nat} (h : 10 ≤ n) (h2 : n < 100) : Lib.decDigits n = [UInt8.ofNat (48 + n / 10), UInt8.ofNat (48 + n % 10)] := by
  rw [Lib.decDigits, dif_neg (by omega), dec_small (by omega)]
  rfl
theorem repeat_one (c : Nat) : Lib.repeatL [48] c = List.replicate c 48 := by
  induction c with
  | zero => rfl
  | succ c ih => simp [Lib.repeatL, ih, List.replicate_succ]
theorem pad_is {n : Nat} (h : n < 100) : Lib.repeatL [48] (9 - (Lib.decDigits n).length) ++ Lib.decDigits n = pad9 n := by
  rw [repeat_one]
  rcases Nat.lt_or_ge n 10 with h1 | h1
  · rw [dec_small h1]
    have e1 : n / 10 = 0 := by omega
    have e2 : n % 10 = n := by omega
    simp only [pad9, e1, e2, List.length_cons, List.length_nil]
    rfl
  · rw [dec_two h1 h]
    rfl
theorem dec_len {n : Nat} (h : n < 100) : (Lib.decDigits n).length = 1 ∨ (Lib.decDigits n).length = 2 := by
  rcases Nat.lt_or_ge n 10 with h1 | h1
  · rw [dec_small h1]; simp
  · rw [dec_two h1 h]; simp
/-- A file's name: the log's, a dot, nine digits. -/
def pathB (nm : ByteArray) (n : Nat) : ByteArray := ⟨(nm.data.toList ++ 46 :: pad9 n).toArray⟩
theorem pathB_list (nm : ByteArray) (n : Nat) : (pathB nm n).data.toList = nm.data.toList ++ 46 :: pad9 n := by simp [pathB]

set_option maxHeartbeats 1000000 in
theorem path_any (g : Nat) (nm : ByteArray) (n : Nat) (hn : n < 100) (w : World) (hc : w.cell? ⟨g, 1, none⟩ = some (.string nm)) (hsz : nm.size ≤ 1000) :
    Calls Tryz.prog 30 #[.pointer (some ⟨g, 0, none⟩), .int .i64 n] w fun e w' => e = .returned (.string (pathB nm n)) ∧ Below w.heap.size w w' := by
  obtain ⟨s, hs⟩ : ∃ s : ByteArray, Hid ((⟨(Lib.decDigits n).toArray⟩ : ByteArray) = s) := ⟨_, rfl⟩
  have hl : s.size = 1 ∨ s.size = 2 := by
    rw [← hs.out]
    have := dec_len hn
    show (Lib.decDigits n).toArray.size = 1 ∨ (Lib.decDigits n).toArray.size = 2
    simpa using this
  haveI : Nonempty (QW (fun W => Below w.heap.size w W)) := ⟨⟨w, Below.refl _ _⟩⟩
  have q1 : ∀ x : QW (fun W => Below w.heap.size w W), x.val.cell? ⟨g, 1, none⟩ = some (.string nm) := fun x => (World.cell?_of_block (w := w) (x.ok.block _ (World.block_lt_of_cell? w _ hc))).trans hc
  obtain ⟨m, hm⟩ : ∃ m : Nat, Hid (9 - s.size = m) := ⟨_, rfl⟩
  have hw : IntKind.i64.wrap (9 - (s.size : Int)) = (m : Int) := by have := hm.out; rw [IntKind.wrap_i64]; omega
  have hmax : ¬ ((m : Int) < 0) := by omega
  obtain ⟨z, hz⟩ : ∃ z : ByteArray, Hid ((⟨(List.replicate m 48).toArray⟩ : ByteArray) = z) := ⟨_, rfl⟩
  have hzs : z.size = m := by rw [← hz.out]; show (List.replicate m (48 : UInt8)).toArray.size = m; simp
  have hns : (nm ++ ⟨#[46]⟩ : ByteArray).size = nm.size + 1 := by rw [ByteArray.size_append]; rfl
  have hnz : (nm ++ ⟨#[46]⟩ ++ z : ByteArray).size = nm.size + 1 + m := by rw [ByteArray.size_append, hns, hzs]
  have a1 : ∀ W : World, (Op.stringOp .add (nm ++ ⟨#[46]⟩) z).run Tryz.prog W = .ok (.string (nm ++ ⟨#[46]⟩ ++ z)) W := fun W => run_string_add_sum W _ _ (by have := hm.out; omega)
  have a2 : ∀ W : World, (Op.stringOp .add (nm ++ ⟨#[46]⟩ ++ z) s).run Tryz.prog W = .ok (.string (nm ++ ⟨#[46]⟩ ++ z ++ s)) W := fun W => run_string_add_sum W _ _ (by have := hm.out; omega)
  have HP : Hid (nm ++ ⟨#[46]⟩ ++ z ++ s = pathB nm n) := by
    rw [Hid, ← hz.out, ← hs.out]
    apply ByteArray.ext
    apply Array.ext'
    have e := pad_is hn
    have hm' := hm.out
    rw [← hs.out] at hm'
    have e2 : ((⟨(Lib.decDigits n).toArray⟩ : ByteArray)).size = (Lib.decDigits n).length := by show (Lib.decDigits n).toArray.size = _; simp
    rw [e2] at hm'
    rw [repeat_one, hm'] at e
    simp only [pathB, ByteArray.data_append, Array.toList_append, List.append_assoc]
    rw [← e]
    simp
  clear hzs hns hnz
  have HR : Hid (∀ W, Below w.heap.size w W → Calls Tryz.prog 51 #[.string ⟨#[48]⟩, .int .i64 m] W fun e w' => e = .returned (.string z) ∧ Below w.heap.size w w') := fun W hW => by
    refine (repeat_any ⟨#[48]⟩ m W (by have := hm.out; omega) (by have := hm.out; show 1 * m ≤ _; omega)).mono ?_
    rintro e w' ⟨rfl, h2⟩
    refine ⟨?_, hW.trans (h2.mono hW.size)⟩
    rw [← hz.out, ← repeat_one]
  go_enter Tryz.func30, Tryz.ntmps30
  go_wp2_with (go_at_call 50; refine (itoa_any n hn _).mono ?_; rintro e w1 ⟨rfl, rfl⟩; rw [hs.out])
  refine region_in (fun W => Below w1.heap.size w1 W) (by kernel_rfl) (by kernel_rfl) (Below.refl _ _).drew ?_
  repeat (go_big_quiet_step ((go_at_call 51; refine calls_in (HR.out _ (QW.ok _)))))
  refine wpQuiet_nil ?_
  intro W5 hb5
  rw [HP.out]
  go_wp2
  go_ret
  exact ⟨rfl, hb5⟩
end Go.Proofs.YthokoimoiamddaaGreatDoor
set_option linter.unusedSimpArgs false
set_option linter.unusedVariables false
namespace Go.Proofs.YthokoimoiamddaaGreatDoor
open Go Go.RowKit

theorem sumLen_ge (l : List (List UInt8)) : 8 * l.length ≤ sumLen l := by
  induction l with
  | nil => simp [sumLen]
  | cons p l ih => rw [sumLen_cons, List.length_cons]; omega
theorem lst_info : (Tryz.prog.info? 23).map (fun i => (i.zero, i.size, i.bytes)) = some (some (.slice none 0 0), 1, 24) := by kernel_rfl
theorem new_one (w : World) (v : Value) (t : TypeId) : ∀ j u, [v][j]? = some u → (w.alloc (.cells #[v] t)).cell? ((⟨w.heap.size, 0, none⟩ : Addr).add j) = some u := by
  intro j u hu
  cases j with
  | zero =>
    simp at hu
    subst hu
    have hh := heap_alloc_new w (.cells #[v] t)
    rw [Addr.add_lit]
    unfold World.cell?
    simp only [Nat.zero_add]
    rw [hh]; rfl
  | succ j => simp at hu
/-- Lists of bytes in memory of one's own: each one's bytes, and the row of slices. -/
structure FrRow (w : World) (lo : Nat) (V : Value) (fs : List (List UInt8)) (vs : List Value) : Prop where
  row : w.ownsRow lo 23 1 V fs.length vs
  each : ∀ (i : Nat) (v : Value) (p : List UInt8), vs[i]? = some v → fs[i]? = some p → w.ownsRow lo 5 1 v p.length (byteVs p)

section
variable {w w' w2 : World} {lo : Nat} {V v' pv : Value} {fs : List (List UInt8)} {vs : List Value} {p : List UInt8}
theorem FrRow.keep (h : FrRow w lo V fs vs) (hV : ∀ g, V.ownBlock = some g → w'.heap[g]? = w.heap[g]?) (hb : ∀ (g : Nat) (cur : Array Value), w.heap[g]? = some (.cells cur 5 (0, 0)) → lo ≤ g → w'.heap[g]? = w.heap[g]?) : FrRow w' lo V fs vs := by
  refine ⟨ownsRow_keep h.row hV, fun i v p h1 h2 => ownsRow_keep (h.each i v p h1 h2) fun g hg => ?_⟩
  obtain ⟨cur, hc, hlo, _⟩ := own_block (h.each i v p h1 h2) hg
  exact hb g cur hc hlo
theorem FrRow.below (h : FrRow w lo V fs vs) (hb : Below w.heap.size w w') : FrRow w' lo V fs vs :=
  h.keep (fun g hg => hb.block g (own_block h.row hg).choose_spec.2.2) fun g cur hc _ => hb.block g (Array.getElem?_eq_some_iff.1 hc).1
theorem frRow_nil (w : World) (lo : Nat) : FrRow w lo (.slice none 0 0) [] [] := ⟨World.ownsRow_nil _ _ _ _, fun i v p h1 _ => by simp at h1⟩
theorem FrRow.put (h : FrRow w lo V fs vs) (hp : w.ownsRow lo 5 1 pv p.length (byteVs p)) (hr : w2.ownsRow lo 23 1 v' (fs.length + 1) (vs ++ [pv])) (hg : w.grownBy w2 V.ownBlock) : FrRow w2 lo v' (fs ++ [p]) (vs ++ [pv]) := by
  have hk : ∀ (g : Nat) (cur : Array Value), w.heap[g]? = some (.cells cur 5 (0, 0)) → w2.heap[g]? = w.heap[g]? := by
    intro g cur hc
    refine hg.block g (Array.getElem?_eq_some_iff.1 hc).1 fun e => ?_
    obtain ⟨cur2, hc2, _⟩ := own_block h.row e.symm
    rw [hc] at hc2
    injection hc2 with e2
    injection e2 with _ e3
    exact absurd e3 (by decide)
  have hl : vs.length = fs.length := by have := h.row.1; simpa using this
  refine ⟨by simpa using hr, fun i v q h1 h2 => ?_⟩
  by_cases hi : i < fs.length
  · rw [List.getElem?_append_left (by omega)] at h1
    rw [List.getElem?_append_left hi] at h2
    exact ownsRow_keep (h.each i v q h1 h2) fun g hgg => by
      obtain ⟨cur, hc, _⟩ := own_block (h.each i v q h1 h2) hgg
      exact hk g cur hc
  · rw [List.getElem?_append_right (by omega)] at h1 h2
    have e1 : i - vs.length = 0 := by
      cases e : i - vs.length with
      | zero => rfl
      | succ k => rw [e] at h1; simp at h1
    have e2 : i - fs.length = 0 := by omega
    rw [e1] at h1
    rw [e2] at h2
    simp at h1 h2
    subst h1 h2
    exact ownsRow_keep hp fun g hgg => by
      obtain ⟨cur, hc, _⟩ := own_block hp hgg
      exact hk g cur hc
end

set_option maxHeartbeats 2000000 in
/-- Scan, at whole frames, none of them empty, with a rest behind them that ends too early. -/
theorem scan_any (A : Option Addr) (n c : Nat) (fs : List (List UInt8)) (tear : List UInt8) (hn : (framesP sumB fs ++ tear).length = n) (w : World) (hA : BytesAt w A (framesP sumB fs ++ tear)) (hA0 : A = none → n = 0 ∧ c = 0) (hl : n ≤ 2000000) (hc : n ≤ c)
    (hfs : ∀ p ∈ fs, p ≠ [] ∧ p.length ≤ 1048576) (ht : tornP tear) :
    Calls Tryz.prog 43 #[.slice A n c] w fun e w' => ∃ (V : Value) (vs : List Value), e = .returned (.tuple #[V, .int .i64 (framesP sumB fs).length]) ∧ FrRow w' w.heap.size V fs vs ∧ Below w.heap.size w w' := by
  have HA := Lib.hid hA
  have HN := Lib.hid hn
  have HL := Lib.hid (And.intro hl hc)
  obtain ⟨iU, hU, hU0, hU1, hU2⟩ := info_parts lst_info
  clear hA hn hl hc
  go_enter Tryz.func43, Tryz.ntmps43
  go_wp2
  go_loopw [4, 5] (fun V i wr => ∃ (k : Nat) (A2 : Option Addr) (c2 : Nat) (vs : List Value), k ≤ fs.length ∧ V = .slice A2 k c2 ∧ i = .int .i64 (framesP sumB (fs.take k)).length ∧ Hid (FrRow wr w.heap.size (.slice A2 k c2) (fs.take k) vs ∧ Below w.heap.size w wr)) (fun _ i _ => n + 1 - (intOf i).toNat)
  case atStart => exact ⟨0, none, 0, [], Nat.zero_le _, rfl, rfl, frRow_nil _ _, Below.refl _ _⟩
  case round =>
    obtain ⟨k, A2, c2, vs, hk, rfl, rfl, HS⟩ := hrel
    obtain ⟨f, hf⟩ : ∃ f, Hid ((framesP sumB (fs.take k)).length = f) := ⟨_, rfl⟩
    rw [hf.out]
    have hb0 : framesP sumB fs ++ tear = framesP sumB (fs.take k) ++ (framesP sumB (fs.drop k) ++ tear) := by
      rw [← List.append_assoc, ← framesP_append, List.take_append_drop]
    have hdrop : (framesP sumB fs ++ tear).drop f = framesP sumB (fs.drop k) ++ tear := by
      rw [hb0]; exact List.drop_left' hf.out
    have hfn : f ≤ n := by
      have h1 := congrArg List.length hb0
      have h4 : (framesP sumB (fs.take k) ++ (framesP sumB (fs.drop k) ++ tear)).length = (framesP sumB (fs.take k)).length + (framesP sumB (fs.drop k) ++ tear).length := List.length_append
      have h2 := HN.out; have h3 := hf.out
      omega
    have HAr : Hid (BytesAt wr A (framesP sumB fs ++ tear)) := by
      refine ⟨HA.out.1, fun ad e j u hu => ?_⟩
      have h9 := HA.out.2 ad e j u hu
      exact (World.cell?_of_block (w := w) (HS.out.2.block _ (World.block_lt_of_cell? w _ h9))).trans h9
    rcases Nat.lt_or_ge k fs.length with hlt | hge
    · obtain ⟨p, hp⟩ : ∃ p, fs[k]? = some p := ⟨_, List.getElem?_eq_getElem hlt⟩
      obtain ⟨hpk, hpe⟩ := List.getElem?_eq_some_iff.1 hp
      have hpm := hfs p (hpe ▸ List.getElem_mem hpk)
      have hdk : fs.drop k = p :: fs.drop (k + 1) := by rw [← hpe]; exact List.drop_eq_getElem_cons hpk
      have htk : fs.take (k + 1) = fs.take k ++ [p] := by rw [← hpe, List.take_append_getElem]
      have htake : takeP sumB ((framesP sumB fs ++ tear).drop f) = some p := by
        rw [hdrop, hdk, framesP_cons, List.append_assoc]
        exact take_frame sumB_lt p _ hpm.2
      have hq := take_of _ _ htake
      rw [List.length_drop, HN.out] at hq
      obtain ⟨a, ha⟩ : ∃ a, A = some a := by
        cases hA : A with
        | none => have := (hA0 hA).1; omega
        | some a => exact ⟨a, rfl⟩
      subst ha
      have hfl : Hid (FrRow wr w.heap.size (.slice A2 k c2) (fs.take k) vs) := HS.out.1
      have hkl : (fs.take k).length = k := by rw [List.length_take]; omega
      have HNX : Hid ((framesP sumB (fs.take (k + 1))).length = f + 8 + p.length ∧ p.length ≤ 1048576 ∧ f + 8 + p.length ≤ n) := by
        refine ⟨?_, hpm.2, by omega⟩
        have := hf.out
        rw [htk, framesP_append, List.length_append, this, framesP_one, frameP_length]; omega
      have HTY : Hid (Calls Tryz.prog 64 #[.slice (some a) n c, .int .i64 f] wr fun e w' => ∃ (A' : Option Addr) (c' : Nat), e = .returned (.tuple #[.slice A' p.length c', .int .i64 ((f + 8 + p.length : Nat) : Int), .nilIface]) ∧ w'.ownsRow wr.heap.size 5 1 (.slice A' p.length c') p.length (byteVs p) ∧ Below wr.heap.size wr w') := take_yes a n c f _ HN.out wr HAr.out HL.out.1 HL.out.2 p hpm.1 htake
      obtain ⟨K, hK⟩ : ∃ K, Hid (p.length = K) := ⟨_, rfl⟩
      rw [hK.out] at HTY HNX
      have hlK : Hid (K ≤ 1048576 ∧ f + 8 + K ≤ n ∧ k < fs.length ∧ n ≤ 2000000 ∧ 8 * k ≤ f) := ⟨HNX.out.2.1, HNX.out.2.2, hlt, HL.out.1, by have h8 := sumLen_ge (fs.take k); rw [hkl, ← sumLen_frames (sm := sumB), hf.out] at h8; exact h8⟩
      clear hp hpe hpm hdk htake hq hdrop hb0 HAr hfs ht hlt
      go_wp2_with (go_at_call 64; refine HTY.out.mono ?_; rintro e w1 ⟨A', c', rfl, r1, b1⟩; refine Hid.out ?_)
      have HB1 : Hid (Below w.heap.size w w1) := HS.out.2.trans (b1.mono HS.out.2.size)
      have HF1 : Hid (FrRow w1 w.heap.size (.slice A2 k c2) (fs.take k) vs) := hfl.out.below b1
      have HR1 : Hid (w1.ownsRow w.heap.size 5 1 (.slice A' K c') K (byteVs p)) := ownsRow_down r1 HS.out.2.size
      clear r1 b1 HTY hfl
      refine Lib.hid ?_
      have hm1 : Hid (k + 1 ≤ maxLen) := Nat.le_trans (show k + 1 ≤ 2000000 by have := hlK.out; omega) (by decide)
      have hm2 : Hid ((k + 1) * 24 ≤ 140737488355328) := by have := hlK.out; simp only [Hid]; omega
      have HO : Hid (∀ o, (w1.alloc o).ownsRow w.heap.size 23 1 (.slice A2 k c2) k vs) := fun o => by
        have h := HF1.out.row
        rw [hkl] at h
        exact h.alloc o
      have hsz : Hid (∀ o : Obj, w.heap.size ≤ (w1.alloc o).heap.size) := fun o => Nat.le_trans HB1.out.size (by simp)
      go_wp2_with (at_builtin; refine wpList_append_own _ rfl _ _ 22 rfl w.heap.size 23 iU (.slice none 0 0) 1 24 Tryz.underlying22 hU hU0 hU1 hU2 rfl (by decide) (.slice A2 k c2) k vs rfl (HO.out _) ⟨w1.heap.size, 0, none⟩ 1 1 [.slice A' K c'] rfl rfl (new_one _ _ _) (by simp [Value.oneCell']) hm1.out hm2.out (hsz.out _) ?_; intro v' w2 hown hgrow hnil; refine Hid.out ?_)
      obtain ⟨A8, c8, rfl⟩ := own_slice hown
      have HF2 : Hid (FrRow w2 w.heap.size (.slice A8 (k + 1) c8) (fs.take (k + 1)) (vs ++ [.slice A' K c'])) := by
        have h1 := HF1.out.below ((Below.refl _ w1).alloc (Nat.le_refl _) (.cells #[.slice A' K c'] 23))
        have h2 := HR1.out.alloc (.cells #[.slice A' K c'] 23)
        have h3 : K = p.length := hK.out.symm
        subst h3
        rw [htk]
        refine h1.put h2 ?_ hgrow
        rw [hkl]; exact hown
      have HB2 : Hid (Below w.heap.size w w2) := (HB1.out.alloc HB1.out.size _).grown hgrow (Nat.le_trans HB1.out.size (by simp)) (fun g hg => by
        have h9 := (HO.out (.cells #[.slice A' K c'] 23))
        exact (own_block h9 hg).choose_spec.2.1)
      clear hown hgrow hnil HF1 HR1 HB1 HO hsz
      refine Lib.hid ?_
      go_wp2_with fail
      exact ⟨⟨k + 1, A8, c8, _, by have := hlK.out; omega, rfl, by rw [HNX.out.1]; go_num, HF2.out, HB2.out⟩, by have := hlK.out; simp [intOf]; omega⟩
    · have hke : k = fs.length := by omega
      subst hke
      have htk : fs.take fs.length = fs := List.take_of_length_le (Nat.le_refl _)
      have HFIN : Hid (FrRow wr w.heap.size (.slice A2 fs.length c2) fs vs) := by have := HS.out.1; rw [htk] at this; exact this
      have HFL : Hid ((framesP sumB fs).length = f) := by have := hf.out; rw [htk] at this; exact this
      have hdr : (framesP sumB fs ++ tear).drop f = tear := by rw [hdrop, List.drop_of_length_le (Nat.le_refl _)]; rfl
      have HTN : Hid (Calls Tryz.prog 64 #[.slice A n c, .int .i64 f] wr fun e w' => ∃ (p : Value), e = .returned (.tuple #[.slice none 0 0, .int .i64 0, .iface 107 p]) ∧ Below wr.heap.size wr w') := by
        have h1 := HL.out
        by_cases h8 : n < f + 8
        · exact take_short A n c f wr hA0 h1.1 h1.2 hfn h8
        · obtain ⟨a, ha⟩ : ∃ a, A = some a := by
            cases hA : A with
            | none => have := (hA0 hA).1; omega
            | some a => exact ⟨a, rfl⟩
          subst ha
          refine take_less a n c f _ HN.out wr HAr.out h1.1 h1.2 (by omega) ?_
          rw [hdr]
          have h2 : tear.length = n - f := by
            have := HN.out; have := HFL.out
            rw [List.length_append] at *
            omega
          rcases ht with ht | ht
          · omega
          · omega
      clear hdrop hb0 HAr hfs ht
      go_wp2_with (go_at_call 64; refine HTN.out.mono ?_; rintro e w1 ⟨q, rfl, b1⟩; refine Hid.out ?_)
      have HB1 : Hid (Below w.heap.size w w1) := HS.out.2.trans (b1.mono HS.out.2.size)
      have HF1 : Hid (FrRow w1 w.heap.size (.slice A2 fs.length c2) fs vs) := HFIN.out.below b1
      clear b1
      refine Lib.hid ?_
      go_wp2_with fail
      go_ret2
      exact ⟨_, vs, by rw [HFL.out]; rfl, HF1.out, HB1.out⟩
end Go.Proofs.YthokoimoiamddaaGreatDoor
set_option linter.unusedSimpArgs false
set_option linter.unusedVariables false
namespace Go.Proofs.YthokoimoiamddaaGreatDoor
open Go Go.RowKit

theorem pad_atoi : ∀ n : Fin 100, Lib.atoiAll (pad9 n.val) = .ok (n.val : Int) := by decide +kernel
theorem pad_ok {n : Nat} (h : n < 100) : Lib.atoiAll (pad9 n) = .ok (n : Int) := pad_atoi ⟨n, h⟩
theorem le_strip (p x y : List UInt8) (h : p ++ x ≤ p ++ y) : x ≤ y := by
  induction p with
  | nil => exact h
  | cons a p ih =>
    simp only [List.cons_append, List.cons_le_cons_iff] at h
    rcases h with h | h
    · exact absurd h (UInt8.lt_irrefl a)
    · exact ih h.2
theorem pad_le {a b : Nat} (ha : a < 100) (hb : b < 100) (h : pad9 a ≤ pad9 b) : a ≤ b := by
  have h2 := le_strip _ _ _ h
  have e : ∀ n, n < 100 → (UInt8.ofNat (48 + n / 10)).toNat = 48 + n / 10 ∧ (UInt8.ofNat (48 + n % 10)).toNat = 48 + n % 10 := fun n hn => by
    constructor
    · rw [UInt8.toNat_ofNat']; omega
    · rw [UInt8.toNat_ofNat']; omega
  obtain ⟨a1, a2⟩ := e a ha
  obtain ⟨b1, b2⟩ := e b hb
  simp only [List.cons_le_cons_iff] at h2
  rcases h2 with h2 | ⟨h2, h3⟩
  · have := UInt8.lt_iff_toNat_lt.1 h2
    omega
  · have e1 := congrArg UInt8.toNat h2
    rcases h3 with h3 | ⟨h3, _⟩
    · have := UInt8.lt_iff_toNat_lt.1 h3
      omega
    · have e2 := congrArg UInt8.toNat h3
      omega
theorem path_le {nm : ByteArray} {a b : Nat} (ha : a < 100) (hb : b < 100) (h : (pathB nm a).data.toList ≤ (pathB nm b).data.toList) : a ≤ b := by
  rw [pathB_list, pathB_list] at h
  have h2 := le_strip _ _ _ h
  exact pad_le ha hb (le_strip [46] _ _ h2)
theorem path_inj (nm : ByteArray) (a b : Nat) (ha : a < 100) (hb : b < 100) (h : pathB nm a = pathB nm b) : a = b :=
  Nat.le_antisymm (path_le (nm := nm) ha hb (by rw [h]; exact List.le_refl _)) (path_le (nm := nm) hb ha (by rw [h]; exact List.le_refl _))
/-- A name that is none of the log's. -/
def Foreign (nm k : ByteArray) : Prop := Lib.hasPrefix k.data.toList (nm ++ ⟨#[46]⟩).data.toList = false ∧ Lib.atoiAll k.data.toList = Lib.atoiAll [] ∧ k.size ≤ 1000
theorem dot_list (nm : ByteArray) : (nm ++ ⟨#[46]⟩ : ByteArray).data.toList = nm.data.toList ++ [46] := by simp
theorem path_prefix (nm : ByteArray) (n : Nat) : Lib.hasPrefix (pathB nm n).data.toList (nm ++ ⟨#[46]⟩).data.toList = true := by
  rw [pathB_list, dot_list, Lib.hasPrefix, List.isPrefixOf_iff_prefix]
  exact ⟨pad9 n, by simp⟩
theorem path_rest (nm : ByteArray) (n : Nat) : Lib.trimPrefix (pathB nm n).data.toList (nm ++ ⟨#[46]⟩).data.toList = pad9 n := by
  rw [Lib.trimPrefix, if_pos (path_prefix nm n), pathB_list, dot_list]
  have : nm.data.toList ++ 46 :: pad9 n = (nm.data.toList ++ [46]) ++ pad9 n := by simp
  rw [this]
  exact List.drop_left' rfl
theorem foreign_path {nm k : ByteArray} (h : Foreign nm k) (n : Nat) : k ≠ pathB nm n := by
  intro e
  have := path_prefix nm n
  rw [← e, h.1] at this
  cases this
open Classical in
/-- The number in a name. -/
noncomputable def numOf (nm k : ByteArray) : Option Nat := if h : ∃ n, n < 100 ∧ k = pathB nm n then some h.choose else none
theorem numOf_path (nm : ByteArray) {n : Nat} (hn : n < 100) : numOf nm (pathB nm n) = some n := by
  have h : ∃ m, m < 100 ∧ pathB nm n = pathB nm m := ⟨n, hn, rfl⟩
  unfold numOf
  rw [dif_pos h]
  exact congrArg some (path_inj nm _ _ h.choose_spec.1 hn h.choose_spec.2.symm)
theorem numOf_foreign {nm k : ByteArray} (h : Foreign nm k) : numOf nm k = none := by
  unfold numOf
  rw [dif_neg]
  rintro ⟨n, _, e⟩
  exact foreign_path h n e
theorem numOf_some {nm k : ByteArray} {n : Nat} (h : numOf nm k = some n) : n < 100 ∧ k = pathB nm n := by
  unfold numOf at h
  split at h
  · rename_i h1
    cases h
    exact h1.choose_spec
  · cases h
/-- Rising lists with the same numbers are one list. -/
theorem rising_one (a b : List Nat) (ha : a.Pairwise (· < ·)) (hb : b.Pairwise (· < ·)) (h : ∀ n, n ∈ a ↔ n ∈ b) : a = b := by
  induction a generalizing b with
  | nil =>
    cases b with
    | nil => rfl
    | cons y b => exact absurd ((h y).2 (by simp)) (by simp)
  | cons x a ih =>
    cases b with
    | nil => exact absurd ((h x).1 (by simp)) (by simp)
    | cons y b =>
      simp only [List.pairwise_cons] at ha hb
      have e : x = y := by
        have h1 := (h x).1 (by simp)
        have h2 := (h y).2 (by simp)
        simp only [List.mem_cons] at h1 h2
        rcases h1 with h1 | h1
        · exact h1
        · rcases h2 with h2 | h2
          · exact h2.symm
          · have := ha.1 y h2; have := hb.1 x h1; omega
      subst e
      congr 1
      refine ih b ha.2 hb.2 fun n => ?_
      have h3 := h n
      simp only [List.mem_cons] at h3
      constructor
      · intro hn
        rcases h3.1 (.inr hn) with h4 | h4
        · subst h4; exact absurd (ha.1 _ hn) (Nat.lt_irrefl _)
        · exact h4
      · intro hn
        rcases h3.2 (.inr hn) with h4 | h4
        · subst h4; exact absurd (hb.1 _ hn) (Nat.lt_irrefl _)
        · exact h4
/-- The log's names among the names. -/
structure NmAt (hasK : ByteArray → Bool) (nm : ByteArray) (ns : List Nat) : Prop where
  key : ∀ k, hasK k = true → (∃ n ∈ ns, k = pathB nm n) ∨ Foreign nm k
  has : ∀ n ∈ ns, hasK (pathB nm n) = true
  inc : ns.Pairwise (· < ·)
  bnd : ∀ n ∈ ns, n < 100
theorem NmAt.numbers {hasK : ByteArray → Bool} {nm : ByteArray} {ns : List Nat} (h : NmAt hasK nm ns) (ks : List ByteArray) (hn : ks.Nodup) (hi : ∀ k, k ∈ ks ↔ hasK k = true) (hs : ks.Pairwise (fun a b => a.data.toList ≤ b.data.toList)) : ks.filterMap (numOf nm) = ns := by
  refine rising_one _ _ ?_ h.inc fun n => ?_
  · rw [List.pairwise_filterMap]
    refine (hs.and hn).imp fun {a b} hab x hx y hy => ?_
    obtain ⟨hx1, rfl⟩ := numOf_some hx
    obtain ⟨hy1, rfl⟩ := numOf_some hy
    have h1 := path_le hx1 hy1 hab.1
    rcases Nat.lt_or_eq_of_le h1 with h2 | h2
    · exact h2
    · subst h2; exact absurd rfl hab.2
  · rw [List.mem_filterMap]
    constructor
    · rintro ⟨k, hk, e⟩
      obtain ⟨h1, rfl⟩ := numOf_some e
      rcases h.key _ ((hi _).1 hk) with ⟨m, hm, e2⟩ | h2
      · rw [path_inj nm n m h1 (h.bnd m hm) e2]; exact hm
      · exact absurd rfl (foreign_path h2 n)
    · intro hm
      exact ⟨pathB nm n, (hi _).2 (h.has n hm), numOf_path nm (h.bnd n hm)⟩
end Go.Proofs.YthokoimoiamddaaGreatDoor
set_option linter.unusedSimpArgs false
set_option linter.unusedVariables false
namespace Go.Proofs.YthokoimoiamddaaGreatDoor
open Go Go.RowKit

theorem own_cell {w : World} {base : Nat} {e : TypeId} {A : Option Addr} {n c : Nat} {xs : List Value} (h : w.ownsRow base e 1 (.slice A n c) n xs) {i : Nat} {v : Value} (hi : xs[i]? = some v) : ∃ g, A = some ⟨g, 0, none⟩ ∧ base ≤ g ∧ w.cell? ⟨g, i, none⟩ = some v ∧ i < n ∧ g < w.heap.size := by
  obtain ⟨hl, h2⟩ := h
  have hin : i < xs.length := (List.getElem?_eq_some_iff.1 hi).1
  rcases h2 with ⟨hv, hn⟩ | ⟨g, cap, cur, hv, hb, hh, h1, h3, h4, h5⟩
  · injection hv with _ hl2 _; omega
  · injection hv with hA _ _
    subst hA
    refine ⟨g, rfl, hb, ?_, by omega, (Array.getElem?_eq_some_iff.1 hh).1⟩
    have e1 : w.cell? ⟨g, i, none⟩ = cur[i]? := by simp [World.cell?, hh]
    rw [e1, ← hi, ← h5, List.getElem?_take, if_pos (by omega)]; simp
theorem own_row_cap {w : World} {base : Nat} {e : TypeId} {A : Option Addr} {n c : Nat} {xs : List Value} (h : w.ownsRow base e 1 (.slice A n c) n xs) : n ≤ c ∧ (A = none → n = 0 ∧ c = 0) := by
  rcases h.2 with ⟨hv, hn⟩ | ⟨g, cap, cur, hv, hb, hh, h1, h3, h4, h5⟩
  · injection hv with hA h1 h2; subst hA; exact ⟨by omega, fun _ => ⟨hn, h2⟩⟩
  · injection hv with hA h6 h7; subst hA; exact ⟨by omega, fun e => by cases e⟩
def natV (n : Nat) : Value := .int .i64 (n : Int)
def natVs (l : List Nat) : List Value := l.map natV
theorem natVs_snoc (l : List Nat) (n : Nat) : natVs (l ++ [n]) = natVs l ++ [.int .i64 (n : Int)] := by simp [natVs, natV]
/-- The library's ErrSyntax holds an error. -/
def ErrS (w : World) : Prop := ∃ tp p, w.cell? ⟨1, 0, none⟩ = some (.iface tp p)
theorem ErrS.keep {w w' : World} (h : ErrS w) (hb : ∀ g, g ≤ 1 → g < w.heap.size → w'.heap[g]? = w.heap[g]?) : ErrS w' := by
  obtain ⟨tp, p, hc⟩ := h
  exact ⟨tp, p, (World.cell?_of_block (w := w) (hb _ (show (1 : Nat) ≤ 1 by decide) (World.block_lt_of_cell? w _ hc))).trans hc⟩
theorem ErrS.below {w w' : World} (h : ErrS w) (hb : Below w.heap.size w w') : ErrS w' := h.keep fun g _ hg => hb.block g hg
theorem atoi_err (s : ByteArray) (hlim : s.size ≤ 281474976710656) (h : Lib.atoiAll s.data.toList = Lib.atoiAll []) (w : World) (hE : ErrS w) :
    Calls Tryz.prog 46 #[.string s] w fun e w' => ∃ q, e = .returned (.tuple #[.int .i64 0, .iface 176 q]) ∧ Below w.heap.size w w' := by
  obtain ⟨tp, p, hc⟩ := hE
  refine (Any.strconv_Atoi_syntax Tryz.layAtoi s hlim h (.iface tp p) w hc (.inr ⟨tp, p, rfl⟩)).mono ?_
  rintro e w' ⟨N, rfl, _, _, hb⟩
  exact ⟨_, rfl, hb⟩
theorem atoi_num (s : ByteArray) (hs : s.size ≤ 1000) (n : Nat) (h : Lib.atoiAll s.data.toList = .ok (n : Int)) (w : World) : Calls Tryz.prog 46 #[.string s] w fun e w' => e = .returned (.tuple #[.int .i64 n, .nilIface]) ∧ Below w.heap.size w w' := by
  refine (atoi_ok s (by omega) n h w).mono ?_
  rintro e w' ⟨rfl, h | ⟨t, h⟩⟩
  · exact ⟨rfl, h ▸ Below.refl _ _⟩
  · exact ⟨rfl, h ▸ Lib.bytesWorld_below _ _ _⟩
/-- A log's block. -/
def LogAt (w : World) (g B : Nat) (nm : ByteArray) (seg file size count safe : Nat) : Prop :=
  w.heap[g]? = some (.cells #[.pointer (some ⟨B, 0, none⟩), .string nm, .int .i64 seg, .int .i64 file, .int .i64 size, .int .i64 count, .int .i64 safe] 63 (0, 0))
section
variable {w w' : World} {g B seg file size count safe : Nat} {nm : ByteArray}
theorem LogAt.lt (h : LogAt w g B nm seg file size count safe) : g < w.heap.size := (Array.getElem?_eq_some_iff.1 h).1
theorem LogAt.below (h : LogAt w g B nm seg file size count safe) (hb : Below w.heap.size w w') : LogAt w' g B nm seg file size count safe := (hb.block g h.lt).trans h
theorem LogAt.cells (h : LogAt w g B nm seg file size count safe) : w.cell? ⟨g, 0, none⟩ = some (.pointer (some ⟨B, 0, none⟩)) ∧ w.cell? ⟨g, 1, none⟩ = some (.string nm) ∧ w.cell? ⟨g, 2, none⟩ = some (.int .i64 seg) ∧ w.cell? ⟨g, 3, none⟩ = some (.int .i64 file) ∧ w.cell? ⟨g, 4, none⟩ = some (.int .i64 size) ∧ w.cell? ⟨g, 5, none⟩ = some (.int .i64 count) ∧ w.cell? ⟨g, 6, none⟩ = some (.int .i64 safe) ∧ ∀ i, w.frozen? ⟨g, i, none⟩ = false := by
  have h' : w.heap[g]? = some (.cells #[.pointer (some ⟨B, 0, none⟩), .string nm, .int .i64 seg, .int .i64 file, .int .i64 size, .int .i64 count, .int .i64 safe] 63 (0, 0)) := h
  refine ⟨?_, ?_, ?_, ?_, ?_, ?_, ?_, fun i => ?_⟩ <;> simp [World.cell?, World.frozen?, h']
end
end Go.Proofs.YthokoimoiamddaaGreatDoor
set_option linter.unusedSimpArgs false
set_option linter.unusedVariables false
namespace Go.Proofs.YthokoimoiamddaaGreatDoor
open Go Go.RowKit

theorem int_info : (Tryz.prog.info? 3).map (fun i => (i.zero, i.size, i.bytes)) = some (some (.int .i64 0), 1, 8) := by kernel_rfl

set_option maxHeartbeats 2000000 in
theorem numbers_any (base g B seg file size count safe : Nat) (nm : ByteArray) (v : Vw) (t : Int) (n : Nat) (s : St) (ns : List Nat) (w : World) (hd : Dk base w B v t n s) (hg : LogAt w g B nm seg file size count safe) (hnm : NmAt (fun k => (v k).isSome) nm ns) (hsz : nm.size ≤ 100) (hE : ErrS w) (hn64 : n ≤ 64) :
    Calls Tryz.prog 26 #[.pointer (some ⟨g, 0, none⟩)] w fun e w' => ∃ (A : Option Addr) (c : Nat), e = .returned (.slice A ns.length c) ∧ w'.ownsRow w.heap.size 3 1 (.slice A ns.length c) ns.length (natVs ns) ∧ Below w.heap.size w w' := by
  have HD := Lib.hid hd
  have HG := Lib.hid hg
  have HE := Lib.hid hE
  obtain ⟨c0, c1, _⟩ := hg.cells
  obtain ⟨iU, hU, hU0, hU1, hU2⟩ := info_parts int_info
  clear hd hg hE
  go_enter Tryz.func26, Tryz.ntmps26
  go_wp2_with (go_at_call 22; refine (dk_names HD.out).mono ?_; rintro e w1 ⟨A, c, ks, rfl, hk1, hk2, hk3, hrow, hsort, hb⟩; refine Hid.out ?_)
  have HNS : Hid (ks.filterMap (numOf nm) = ns) := hnm.numbers ks hk2 hk3 hsort
  have HB1 : Hid (Below w.heap.size w w1) := hb
  have HROW : Hid (w1.ownsRow w.heap.size 9 1 (.slice A n c) n (ks.map Value.string)) := hrow
  have HKL : Hid (ks.length = n ∧ n ≤ 64) := ⟨hk1, hn64⟩
  have HKF : Hid (∀ k ∈ ks, (∃ m ∈ ns, k = pathB nm m) ∨ Foreign nm k) := fun k hk => hnm.key k ((hk3 k).1 hk)
  have HBD : Hid (∀ m ∈ ns, m < 100) := hnm.bnd
  have HSZ := Lib.hid hsz
  clear hb hrow hsort hk1 hk2 hk3 hnm hsz hn64
  refine Lib.hid ?_
  go_wp2_with fail
  go_loopw [3, 16] (fun V i wr => ∃ (j m : Nat) (A2 : Option Addr) (c2 : Nat), j ≤ n ∧ V = .slice A2 m c2 ∧ i = .int .i64 j ∧ Hid (((ks.take j).filterMap (numOf nm)).length = m ∧ wr.ownsRow w1.heap.size 3 1 (.slice A2 m c2) m (natVs ((ks.take j).filterMap (numOf nm))) ∧ Below w1.heap.size w1 wr)) (fun _ i _ => n - (intOf i).toNat)
  case atStart => exact ⟨0, 0, none, 0, Nat.zero_le _, rfl, rfl, rfl, World.ownsRow_nil _ _ _ _, Below.refl _ _⟩
  case round =>
    obtain ⟨j, m, A2, c2, hj, rfl, rfl, HS⟩ := hrel
    have hbw : Hid (Below w.heap.size w wr) := HB1.out.trans (HS.out.2.2.mono HB1.out.size)
    have q0 : wr.cell? ⟨g, 0, none⟩ = some (.pointer (some ⟨B, 0, none⟩)) := (HG.out.below hbw.out).cells.1
    have q1 : wr.cell? ⟨g, 1, none⟩ = some (.string nm) := (HG.out.below hbw.out).cells.2.1
    rcases Nat.lt_or_ge j n with hlt | hge
    · obtain ⟨k, hk⟩ : ∃ k, Hid (ks[j]? = some k) := ⟨_, List.getElem?_eq_getElem (by have := HKL.out; omega)⟩
      have hrw : wr.ownsRow w.heap.size 9 1 (.slice A n c) n (ks.map Value.string) := ownsRow_keep HROW.out fun g hg => HS.out.2.2.block g (own_block HROW.out hg).choose_spec.2.2
      obtain ⟨ga, rfl, _, hcell, _, _⟩ := own_cell hrw (i := j) (v := .string k) (by rw [List.getElem?_map, hk.out]; rfl)
      have hw1 : IntKind.i64.wrap ((j : Int) + 1) = ((j + 1 : Nat) : Int) := by have := HKL.out; rw [IntKind.wrap_i64]; omega
      have hmem : k ∈ ks := List.mem_of_getElem? hk.out
      have htk : Hid (ks.take (j + 1) = ks.take j ++ [k]) := by
        obtain ⟨h7, h8⟩ := List.getElem?_eq_some_iff.1 hk.out
        rw [Hid, ← h8, List.take_append_getElem]
      have hcat : (Op.stringOp .add nm ⟨#[46]⟩).run Tryz.prog wr = .ok (.string (nm ++ ⟨#[46]⟩)) wr := run_string_add_sum wr _ _ (by have := HSZ.out; show nm.size + 1 ≤ _; omega)
      rcases HKF.out k hmem with ⟨x, hx, rfl⟩ | hf
      · have hx100 := HBD.out x hx
        obtain ⟨R, hR⟩ : ∃ R : ByteArray, Hid ((⟨(pad9 x).toArray⟩ : ByteArray) = R) := ⟨_, rfl⟩
        have HCP : Hid (Calls Tryz.prog 45 #[.string (pathB nm x), .string (nm ++ ⟨#[46]⟩)] wr fun e w' => e = .returned (.tuple #[.string R, .bool true]) ∧ w' = wr) := by
          have h := cutp_any (pathB nm x) (nm ++ ⟨#[46]⟩) wr
          rw [path_rest, path_prefix, hR.out] at h
          exact h
        have HAT : Hid (Calls Tryz.prog 46 #[.string R] wr fun e w' => e = .returned (.tuple #[.int .i64 x, .nilIface]) ∧ Below wr.heap.size wr w') := by
          rw [← hR.out]
          have h9 : (⟨(pad9 x).toArray⟩ : ByteArray).size = 9 := rfl
          have h10 : Lib.atoiAll (⟨(pad9 x).toArray⟩ : ByteArray).data.toList = .ok (x : Int) := pad_ok hx100
          exact atoi_num _ (by omega) x h10 wr
        obtain ⟨P, hP⟩ : ∃ P : ByteArray, Hid (pathB nm x = P) := ⟨_, rfl⟩
        have HFM : Hid ((ks.take (j + 1)).filterMap (numOf nm) = (ks.take j).filterMap (numOf nm) ++ [x]) := by
          have e9 : [pathB nm x].filterMap (numOf nm) = [x] := by simp [numOf_path nm hx100]
          rw [Hid, htk.out, List.filterMap_append, e9]
        have hm1 : Hid (m + 1 ≤ maxLen) := by
          have h1 := HS.out.1
          have h2 := List.length_filterMap_le (numOf nm) (ks.take j)
          rw [List.length_take] at h2
          exact Nat.le_trans (show m + 1 ≤ 100 by have := HKL.out; omega) (by decide)
        have hm2 : Hid ((m + 1) * 8 ≤ 140737488355328) := by
          have h1 := HS.out.1
          have h2 := List.length_filterMap_le (numOf nm) (ks.take j)
          rw [List.length_take] at h2
          have := HKL.out
          simp only [Hid]; omega
        have HX : Hid (x < 100) := hx100
        have hx0 : (0 : Int) ≤ (x : Int) := by omega
        rw [hP.out] at HCP hcell
        clear hx hx100 hmem
        go_wp2_with (first | (go_at_call 45; refine HCP.out.mono ?_; rintro e w2 ⟨rfl, rfl⟩) | (go_at_call 46; refine HAT.out.mono ?_; rintro e w3 ⟨rfl, b3⟩; refine Hid.out ?_))
        have HB3 : Hid (Below w1.heap.size w1 w3) := HS.out.2.2.trans (b3.mono HS.out.2.2.size)
        have HR3 : Hid (w3.ownsRow w1.heap.size 3 1 (.slice A2 m c2) m (natVs ((ks.take j).filterMap (numOf nm)))) := ownsRow_keep HS.out.2.1 fun g hg => b3.block g (own_block HS.out.2.1 hg).choose_spec.2.2
        have HG3 : Hid (w3.cell? ⟨g, 1, none⟩ = some (.string nm)) := (HG.out.below (hbw.out.trans (b3.mono hbw.out.size))).cells.2.1
        have HPA : Hid (Calls Tryz.prog 30 #[.pointer (some ⟨g, 0, none⟩), .int .i64 x] w3 fun e w' => e = .returned (.string P) ∧ Below w3.heap.size w3 w') := by rw [← hP.out]; exact path_any g nm x HX.out w3 HG3.out (Nat.le_trans HSZ.out (by decide))
        clear b3 q0 q1 hcat
        refine Lib.hid ?_
        go_wp2_with (go_at_call 30; refine HPA.out.mono ?_; rintro e w4 ⟨rfl, b4⟩; refine Hid.out ?_)
        have HB4 : Hid (Below w1.heap.size w1 w4) := HB3.out.trans (b4.mono HB3.out.size)
        have HR4 : Hid (∀ o, (w4.alloc o).ownsRow w1.heap.size 3 1 (.slice A2 m c2) m (natVs ((ks.take j).filterMap (numOf nm)))) := fun o => by
          have h1 := ownsRow_keep HR3.out fun g hg => b4.block g (own_block HR3.out hg).choose_spec.2.2
          exact h1.alloc o
        have hsz4 : Hid (∀ o : Obj, w1.heap.size ≤ (w4.alloc o).heap.size) := fun o => Nat.le_trans HB4.out.size (by simp)
        clear b4 HB3 HR3 HG3 HPA HAT HCP
        refine Lib.hid ?_
        go_wp2_with (at_builtin; refine wpList_append_own _ rfl _ _ 65 rfl w1.heap.size 3 iU (.int .i64 0) 1 8 Tryz.underlying65 hU hU0 hU1 hU2 rfl (by decide) (.slice A2 m c2) m _ rfl (HR4.out _) ⟨w4.heap.size, 0, none⟩ 1 1 [.int .i64 x] rfl rfl (new_one _ _ _) (by simp [Value.oneCell']) hm1.out hm2.out (hsz4.out _) ?_; intro v' w5 hown hgrow hnil; refine Hid.out ?_)
        obtain ⟨A8, c8, rfl⟩ := own_slice hown
        have HB5 : Hid (Below w1.heap.size w1 w5) := (HB4.out.alloc HB4.out.size _).grown hgrow (Nat.le_trans HB4.out.size (by simp)) (fun g hg => (own_block (HR4.out (.cells #[.int .i64 x] 3)) hg).choose_spec.2.1)
        have HR5 : Hid (w5.ownsRow w1.heap.size 3 1 (.slice A8 (m + 1) c8) (m + 1) (natVs ((ks.take (j + 1)).filterMap (numOf nm)))) := by rw [HFM.out, natVs_snoc]; exact hown
        have HLN : Hid (((ks.take (j + 1)).filterMap (numOf nm)).length = m + 1) := by have := HS.out.1; rw [HFM.out]; simp [Hid, this]
        clear hown hgrow hnil HB4 HR4 hsz4
        refine Lib.hid ?_
        go_wp2_with fail
        exact ⟨⟨j + 1, m + 1, A8, c8, hlt, rfl, by go_num, HLN.out, HR5.out, HB5.out⟩, by simp [intOf]; omega⟩
      · have HF := Lib.hid hf
        have HCP : Hid (Calls Tryz.prog 45 #[.string k, .string (nm ++ ⟨#[46]⟩)] wr fun e w' => e = .returned (.tuple #[.string k, .bool false]) ∧ w' = wr) := by
          have h := cutp_any k (nm ++ ⟨#[46]⟩) wr
          have e : Lib.trimPrefix k.data.toList (nm ++ ⟨#[46]⟩ : ByteArray).data.toList = k.data.toList := by rw [Lib.trimPrefix, HF.out.1]; rfl
          rw [e, HF.out.1] at h
          exact h
        have HAT : Hid (Calls Tryz.prog 46 #[.string k] wr fun e w' => ∃ q, e = .returned (.tuple #[.int .i64 0, .iface 176 q]) ∧ Below wr.heap.size wr w') :=
          atoi_err k (by have := HF.out.2.2; omega) HF.out.2.1 wr (HE.out.below hbw.out)
        have HFM : Hid ((ks.take (j + 1)).filterMap (numOf nm) = (ks.take j).filterMap (numOf nm)) := by
          rw [Hid, htk.out, List.filterMap_append]
          simp [numOf_foreign hf]
        clear hf hmem
        go_wp2_with (first | (go_at_call 45; refine HCP.out.mono ?_; rintro e w2 ⟨rfl, rfl⟩) | (go_at_call 46; refine HAT.out.mono ?_; rintro e w3 ⟨q, rfl, b3⟩; refine Hid.out ?_))
        have HB3 : Hid (Below w1.heap.size w1 w3) := HS.out.2.2.trans (b3.mono HS.out.2.2.size)
        have HR3 : Hid (w3.ownsRow w1.heap.size 3 1 (.slice A2 m c2) m (natVs ((ks.take (j + 1)).filterMap (numOf nm)))) := by
          rw [HFM.out]
          exact ownsRow_keep HS.out.2.1 fun g hg => b3.block g (own_block HS.out.2.1 hg).choose_spec.2.2
        clear b3 q0 q1 hcat
        refine Lib.hid ?_
        go_wp2_with fail
        exact ⟨⟨j + 1, m, A2, c2, hlt, rfl, by go_num, by rw [HFM.out]; exact HS.out.1, HR3.out, HB3.out⟩, by simp [intOf]; omega⟩
    · have e : j = n := by omega
      subst e
      have htk : ks.take j = ks := List.take_of_length_le (by have := HKL.out; omega)
      have HFIN := HS.out
      rw [htk, HNS.out] at HFIN
      have HF2 := Lib.hid HFIN
      clear HFIN
      obtain rfl : ns.length = m := HF2.out.1
      go_wp2_with fail
      go_ret
      exact ⟨A2, c2, rfl, ownsRow_down HF2.out.2.1 HB1.out.size, hbw.out⟩
end Go.Proofs.YthokoimoiamddaaGreatDoor
set_option linter.unusedSimpArgs false
set_option linter.unusedVariables false
namespace Go.Proofs.YthokoimoiamddaaGreatDoor
open Go Go.RowKit
open Go.ChangeMaps (setBlock)

/-- What a call on a log leaves as it was: all that is neither the disk's nor the log's block. -/
structure WFr (g : Nat) (s s' : St) (w w' : World) : Prop where
  os : w'.os = w.os
  tape : w'.tape = w.tape
  output : w'.output = w.output
  size : w.heap.size ≤ w'.heap.size
  block : ∀ h, h < w.heap.size → ¬ s.own h → h ≠ g → w'.heap[h]? = w.heap[h]?
  own : ∀ h, s'.own h → s.own h ∨ w.heap.size ≤ h
/-- A log on a disk: the disk, the log's block, which is none of the disk's. -/
structure Wk (base : Nat) (w : World) (g B : Nat) (nm : ByteArray) (seg file size count safe : Nat) (v : Vw) (t : Int) (n : Nat) (s : St) : Prop where
  dk : Dk base w B v t n s
  lg : LogAt w g B nm seg file size count safe
  off : ¬ s.own g
  up : base ≤ g
  err : ErrS w
  ten : 1 < base

section
variable {base g B seg file size count safe n n' file' size' count' safe' : Nat} {w w' w2 : World} {nm : ByteArray} {v v' : Vw} {t t' : Int} {s s' s2 : St}
theorem WFr.refl (g : Nat) (s : St) (w : World) : WFr g s s w w := ⟨rfl, rfl, rfl, Nat.le_refl _, fun _ _ _ _ => rfl, fun _ h => .inl h⟩
theorem WFr.trans (h : WFr g s s' w w') (k : WFr g s' s2 w' w2) : WFr g s s2 w w2 := by
  refine ⟨k.os.trans h.os, k.tape.trans h.tape, k.output.trans h.output, Nat.le_trans h.size k.size, fun x hx ho hg => ?_, fun x hx => ?_⟩
  · refine (k.block x (Nat.lt_of_lt_of_le hx h.size) (fun hb => ?_) hg).trans (h.block x hx ho hg)
    rcases h.own x hb with hb | hb
    · exact ho hb
    · omega
  · rcases k.own x hx with hb | hb
    · exact h.own x hb
    · exact .inr (Nat.le_trans h.size hb)
theorem WFr.of_frame (h : Frame s s' w w') : WFr g s s' w w' := ⟨h.os, h.tape, h.output, h.size, fun x hx ho _ => h.block x hx ho, h.own⟩
theorem WFr.of_below (h : Below w.heap.size w w') : WFr g s s w w' := WFr.of_frame (Frame.of_below h)
theorem WFr.of_touch (h : Touch (some g) w w') : WFr g s s w w' :=
  ⟨h.os, h.tape, h.output, by rw [h.size]; exact Nat.le_refl _, fun x hx _ hg => h.block x (fun e => hg (by cases e; rfl)), fun x hx => .inl hx⟩
theorem Wk.below_of (h : Wk base w g B nm seg file size count safe v t n s) (hf : WFr g s s' w w') : Below base w w' :=
  ⟨hf.os, hf.tape, hf.output, hf.size, fun x hx => hf.block x (Nat.lt_of_lt_of_le hx h.dk.low) (fun ho => by have := h.dk.at_.low x ho; omega) (fun e => by have := h.up; omega)⟩
theorem Wk.below (h : Wk base w g B nm seg file size count safe v t n s) (hb : Below w.heap.size w w') : Wk base w' g B nm seg file size count safe v t n s :=
  ⟨h.dk.below hb, h.lg.below hb, h.off, h.up, h.err.below hb, h.ten⟩
/-- A step of the disk. -/
theorem Wk.disk (h : Wk base w g B nm seg file size count safe v t n s) (hd : Dk base w' B v' t' n' s') (hf : Frame s s' w w') : Wk base w' g B nm seg file size count safe v' t' n' s' := by
  have hlt := h.lg.lt
  refine ⟨hd, (hf.block g hlt h.off).trans h.lg, fun ho => ?_, h.up, ?_, h.ten⟩
  · rcases hf.own g ho with h1 | h1
    · exact h.off h1
    · omega
  · refine h.err.keep fun x hx hlt2 => hf.block x hlt2 fun ho => ?_
    have h1 := h.dk.at_.low x ho
    have h2 := h.ten
    omega
/-- A store into the log's block. -/
theorem Wk.store (h : Wk base w g B nm seg file size count safe v t n s) (i : Nat) (u : Value) (hl : LogAt (w.setCell ⟨g, i, none⟩ u) g B nm seg file' size' count' safe') : Wk base (w.setCell ⟨g, i, none⟩ u) g B nm seg file' size' count' safe' v t n s := by
  have ht := Touch.set w g i u
  refine ⟨⟨h.dk.at_.keep fun x hx => ht.block x (fun e => h.off (by cases e; exact hx)), h.dk.B, h.dk.view, h.dk.turn, h.dk.len, by rw [ht.size]; exact h.dk.low⟩, hl, h.off, h.up, ?_, h.ten⟩
  refine h.err.keep fun x hx _ => ht.block x (fun e => ?_)
  cases e
  have h1 := h.up
  have h2 := h.ten
  omega
theorem log_set (h : LogAt w g B nm seg file size count safe) (i : Nat) (u : Value) : (w.setCell ⟨g, i, none⟩ u).heap[g]? = some (.cells (#[.pointer (some ⟨B, 0, none⟩), .string nm, .int .i64 seg, .int .i64 file, .int .i64 size, .int .i64 count, .int .i64 safe].setIfInBounds i u) 63 (0, 0)) := by
  have h' : w.heap[g]? = some (.cells #[.pointer (some ⟨B, 0, none⟩), .string nm, .int .i64 seg, .int .i64 file, .int .i64 size, .int .i64 count, .int .i64 safe] 63 (0, 0)) := h
  show (w.heap.modify g _)[g]? = _
  rw [Array.getElem?_modify, if_pos rfl, h']
  rfl
/-- Bytes lie in no log's block. -/
theorem BytesAt.no_log {ad : Addr} {b : UInt8} {bs : List UInt8} (h : BytesAt w (some ad) (b :: bs)) (hl : LogAt w g B nm seg file size count safe) : ad.block ≠ g := by
  intro e
  have hc := h.2 ad rfl 0 (byteV b) rfl
  have h' : w.heap[g]? = some (.cells #[.pointer (some ⟨B, 0, none⟩), .string nm, .int .i64 seg, .int .i64 file, .int .i64 size, .int .i64 count, .int .i64 safe] 63 (0, 0)) := hl
  have e0 : ad.add 0 = ad := by simp [Addr.add]
  rw [e0] at hc
  obtain ⟨bl, o, sp⟩ := ad
  simp only at e
  subst e
  simp only [World.cell?, h'] at hc
  match o, hc with
  | 0, hc => simp [byteV] at hc
  | 1, hc => simp [byteV] at hc
  | 2, hc => simp [byteV] at hc
  | 3, hc => simp [byteV] at hc
  | 4, hc => simp [byteV] at hc
  | 5, hc => simp [byteV] at hc
  | 6, hc => simp [byteV] at hc
  | o + 7, hc => simp at hc
theorem BytesAt.log_touch {A : Option Addr} {bs : List UInt8} (h : BytesAt w A bs) (hl : LogAt w g B nm seg file size count safe) (ht : Touch (some g) w w') : BytesAt w' A bs := by
  refine ⟨h.1, fun ad e j u hu => ?_⟩
  subst e
  cases bs with
  | nil => simp [byteVs] at hu
  | cons b bs =>
    have hne := h.no_log hl
    have hc := h.2 ad rfl j u hu
    refine (World.cell?_of_block (w := w) (ht.block _ fun e2 => hne ?_)).trans hc
    have e3 : (ad.add j).block = ad.block := by unfold Addr.add; split <;> rfl
    rw [e3] at e2
    exact (Option.some.inj e2).symm
/-- Bytes that lie outside the disk's blocks stay. -/
theorem BytesAt.frame {A : Option Addr} {bs : List UInt8} (h : BytesAt w A bs) (hf : Frame s s' w w') (ho : ∀ ad, A = some ad → ¬ s.own ad.block) : BytesAt w' A bs := by
  refine ⟨h.1, fun ad e j u hu => ?_⟩
  have hc := h.2 ad e j u hu
  have e3 : (ad.add j).block = ad.block := by unfold Addr.add; split <;> rfl
  exact (World.cell?_of_block (w := w) (hf.block _ (World.block_lt_of_cell? w _ hc) (by rw [e3]; exact ho ad e))).trans hc
theorem bytes_none (w : World) : BytesAt w none [] := ⟨fun _ => rfl, fun ad e => by cases e⟩
theorem Wk.set3 (h : Wk base w g B nm seg file size count safe v t n s) (x : Nat) : Wk base (w.setCell ⟨g, 3, none⟩ (.int .i64 x)) g B nm seg x size count safe v t n s := h.store 3 _ (log_set h.lg 3 _)
theorem Wk.set4 (h : Wk base w g B nm seg file size count safe v t n s) (x : Nat) : Wk base (w.setCell ⟨g, 4, none⟩ (.int .i64 x)) g B nm seg file x count safe v t n s := h.store 4 _ (log_set h.lg 4 _)
theorem Wk.set5 (h : Wk base w g B nm seg file size count safe v t n s) (x : Nat) : Wk base (w.setCell ⟨g, 5, none⟩ (.int .i64 x)) g B nm seg file size x safe v t n s := h.store 5 _ (log_set h.lg 5 _)
theorem Wk.set6 (h : Wk base w g B nm seg file size count safe v t n s) (x : Nat) : Wk base (w.setCell ⟨g, 6, none⟩ (.int .i64 x)) g B nm seg file size count x v t n s := h.store 6 _ (log_set h.lg 6 _)
end
end Go.Proofs.YthokoimoiamddaaGreatDoor
