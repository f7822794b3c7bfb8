/-
  disk: arguments (lists of calls, names, bytes) read as the walks want them. Own work.
-/
import Derived.Test.YtfhdcjfkngflbaaGreatDoorP6
import Derived.Deep.Slices
import Derived.Deep.Strs
import Derived.Lib.SmallJoins
import Derived.ChangeSame
import Derived.ProofKit
set_option linter.unusedSimpArgs false
set_option linter.unusedVariables false
namespace Go.Proofs.YtfhdcjfkngflbaaGreatDoor
open Go Go.RowKit Go.ChangeShapes Go.WideShapes Go.Deep Go.Joins

section
variable {H : Type} {enc : TypeId × Value → H} {w : World} {base : Nat} {spare : Nat → Bool} {held : Bool} {n : Nat}

theorem plain_addr {a : Addr} {k : Nat} {cs : List Value} (h : w.cells? base (a.add (0 * k)) k = some cs) (hk : 0 < k) : a = ⟨a.block, a.off, none⟩ := by
  obtain ⟨_, hl, hc⟩ := World.cells?_some h
  have := hc 0 hk
  rw [Nat.zero_mul] at this
  have e : (a.add 0).add 0 = a := by simp [Addr.add]
  rw [e] at this
  rw [List.getElem?_eq_getElem (by omega)] at this
  obtain ⟨b, o, s⟩ := a
  cases s with
  | none => rfl
  | some s => simp [World.cell?] at this; split at this <;> cases this

theorem read_byte {v : Value} {x : DataW H × List MemPlace} (h : DataW.trod enc Tryz.prog w base spare held n 5 [v] = some x) : ∃ b : UInt8, v = byteV b := by
  obtain ⟨k, e0, _, h1⟩ := DataW.trod_int Tryz.underlying5 h
  have h2 : 0 ≤ k ∧ k < 256 := by
    simp [Lit.wf, IntKind.min, IntKind.max, IntKind.signed, IntKind.bits] at h1
    omega
  refine ⟨UInt8.ofNat k.toNat, ?_⟩
  simp at e0
  subst e0
  have e : (UInt8.ofNat k.toNat).toNat = k.toNat := by
    rw [UInt8.toNat_ofNat']
    omega
  unfold byteV
  rw [e, Int.toNat_of_nonneg h2.1]

theorem read_bytes {v : Value} {x : DataW H × List MemPlace} (h : DataW.trod enc Tryz.prog w base spare held n 30 [v] = some x) :
    ∃ A c, ∃ l : List UInt8, v = .slice A l.length c ∧ BytesAt w A l := by
  have hC : Tryz.prog.cellsOf 5 = 1 := by kernel_rfl
  rcases open_slice Tryz.underlying30 h with ⟨hv, _⟩ | ⟨a, len, cap, m, n', D, Pl, hv, hb, hl, hm, hmm, hx, hi⟩
  · simp at hv
    subst hv
    exact ⟨none, 0, [], rfl, fun _ => rfl, fun ad e => by cases e⟩
  · simp at hv
    subst hv
    have hlm : len ≤ m := by rw [hmm]; split <;> omega
    rw [hC] at hi
    have hex : ∀ i, i < len → ∃ b : UInt8, w.cells? base (a.add (i * 1)) 1 = some [byteV b] := by
      intro i hil
      obtain ⟨cs', h1, h2⟩ := hi i (by omega)
      have hl1 := (World.cells?_some h1).2.1
      match cs', hl1 with
      | [v0], _ =>
        obtain ⟨b, rfl⟩ := read_byte h2
        exact ⟨b, h1⟩
    obtain ⟨f, hf⟩ := @choose_lt UInt8 ⟨0⟩ len _ hex
    refine ⟨some a, cap, (List.range len).map f, by simp, fun h => (by cases h), fun ad e j u hu => ?_⟩
    cases e
    have hjl : j < len := by have := (List.getElem?_eq_some_iff.1 hu).1; simpa [byteVs] using this
    have hcells := hf j hjl
    obtain ⟨_, _, hc⟩ := World.cells?_some hcells
    have h0 := hc 0 (by omega)
    have e : u = byteV (f j) := by
      simp [byteVs, List.getElem?_map, List.getElem?_range hjl] at hu
      exact hu.symm
    rw [e]
    have e2 : (a.add (j * 1)).add 0 = a.add j := by simp [Addr.add]
    rw [e2] at h0
    simpa using h0

theorem weight_all {P : Program} {e : TypeId} {d : DataW H} {q : Nat} : ∀ {ds : List (DataW H)}, d ∈ ds → q ∈ d.weights P e → q ∈ DataW.weightsAll P e ds
  | [], h, _ => absurd h (by simp)
  | x :: ds, h, hq => by
    unfold DataW.weightsAll
    rcases List.mem_cons.1 h with rfl | h
    · exact List.mem_append_left _ hq
    · exact List.mem_append_right _ (weight_all h hq)

theorem read_bytes_w {v : Value} {x : DataW H × List MemPlace} (h : DataW.trod enc Tryz.prog w base spare held n 30 [v] = some x) (hw : ∀ q ∈ x.1.weights Tryz.prog 30, q ≤ reachBytes) :
    ∃ A c, ∃ l : List UInt8, v = .slice A l.length c ∧ BytesAt w A l ∧ l.length ≤ 140737488351232 := by
  obtain ⟨A, c, l, rfl, hb⟩ := read_bytes h
  refine ⟨A, c, l, rfl, hb, ?_⟩
  have hB : Tryz.prog.bytesOf 5 = 1 := by kernel_rfl
  rcases open_slice Tryz.underlying30 h with ⟨hv, _⟩ | ⟨a, len, cap, m, n', D, Pl, hv, hb, hl, hm, hmm, hx, hi⟩
  · simp at hv
    rw [hv.2.1]; simp
  · simp at hv
    have h1 := hw ((len + (m - len)) * 1) (by
      rw [hx]
      unfold DataW.weights
      rw [Tryz.underlying30]
      simp [hB])
    unfold reachBytes at h1
    omega

theorem read_string_w {v : Value} {x : DataW H × List MemPlace} (h : DataW.trod enc Tryz.prog w base spare held n 9 [v] = some x) (hw : ∀ q ∈ x.1.weights Tryz.prog 9, q ≤ reachBytes) :
    ∃ s : ByteArray, v = .string s ∧ s.size ≤ 140737488351232 := by
  obtain ⟨s, e, hx, _⟩ := DataW.trod_string Tryz.underlying9 h
  simp at e
  subst e
  refine ⟨s, rfl, ?_⟩
  have h1 := hw s.data.toList.length (by rw [hx]; simp [DataW.weights])
  have e : s.data.toList.length = s.size := by rw [Array.length_toList]; rfl
  unfold reachBytes at h1
  omega

set_option maxRecDepth 100000 in
theorem read_dop {cs : List Value} {x : DataW H × List MemPlace} (h : DataW.trod enc Tryz.prog w base spare held n 32 cs = some x) (hw : ∀ q ∈ x.1.weights Tryz.prog 32, q ≤ reachBytes) :
    ∃ o : DOp, cs = [.int .i64 o.kind, .string o.name, .slice o.A o.p.length o.c, .int .i64 o.n] ∧ BytesAt w o.A o.p ∧ o.name.size ≤ 140737488351232 ∧ o.p.length ≤ 140737488351232 ∧ -9223372036854775808 ≤ o.n ∧ o.n ≤ 9223372036854775807 := by
  obtain ⟨xs, m, _, hx, hl, hlen, hf⟩ := DataW.trod_struct Tryz.underlying32 h
  have hC : Tryz.prog.cellsOf 32 = 4 := by kernel_rfl
  have c3 : Tryz.prog.cellsOf 3 = 1 := by kernel_rfl
  have c9 : Tryz.prog.cellsOf 9 = 1 := by kernel_rfl
  have c30 : Tryz.prog.cellsOf 30 = 1 := by kernel_rfl
  rw [hC] at hl
  match cs, hl, xs, hlen with
  | [v0, v1, v2, v3], _, [y0, y1, y2, y3], _ =>
    have h0 : DataW.trod enc Tryz.prog w base spare held m 3 (([v0, v1, v2, v3].drop 0).take (Tryz.prog.cellsOf 3)) = some y0 := hf 0 _ rfl
    have h1 : DataW.trod enc Tryz.prog w base spare held m 9 (([v0, v1, v2, v3].drop 1).take (Tryz.prog.cellsOf 9)) = some y1 := hf 1 _ rfl
    have h2 : DataW.trod enc Tryz.prog w base spare held m 30 (([v0, v1, v2, v3].drop 2).take (Tryz.prog.cellsOf 30)) = some y2 := hf 2 _ rfl
    have h3 : DataW.trod enc Tryz.prog w base spare held m 3 (([v0, v1, v2, v3].drop 3).take (Tryz.prog.cellsOf 3)) = some y3 := hf 3 _ rfl
    simp only [c3] at h0 h3
    simp only [c9] at h1
    simp only [c30] at h2
    obtain ⟨k0, e0, _⟩ := DataW.trod_int Tryz.underlying3 h0
    obtain ⟨k3, e3, _, b3⟩ := DataW.trod_int Tryz.underlying3 h3
    obtain ⟨s1, e1, hs1⟩ := read_string_w (v := v1) h1 (fun q hq => hw q (by
      rw [hx]
      unfold DataW.weights
      rw [Tryz.underlying32]
      simp [DataW.weightsEach, hq]))
    obtain ⟨A, c, l, e2, hat, hle⟩ := read_bytes_w (v := v2) h2 (fun q hq => hw q (by
      rw [hx]
      unfold DataW.weights
      rw [Tryz.underlying32]
      simp [DataW.weightsEach, hq]))
    simp at e0 e3
    subst e0 e1 e2 e3
    have hb : -9223372036854775808 ≤ k3 ∧ k3 ≤ 9223372036854775807 := by
      simp [Lit.wf, IntKind.min, IntKind.max, IntKind.signed, IntKind.bits] at b3
      omega
    exact ⟨⟨k0, s1, A, c, l, k3⟩, rfl, hat, hs1, hle, hb.1, hb.2⟩

set_option maxRecDepth 100000 in
theorem read_dops {v : Value} {x : DataW H × List MemPlace} (h : DataW.trod enc Tryz.prog w base spare held n 22 [v] = some x) (hw : ∀ q ∈ x.1.weights Tryz.prog 22, q ≤ reachBytes) :
    ∃ A c, ∃ l : List DOp, v = .slice A l.length c ∧ DOps w A l ∧ l.length ≤ 140737488351232 := by
  have hC : Tryz.prog.cellsOf 32 = 4 := by kernel_rfl
  have hB : Tryz.prog.bytesOf 32 = 56 := by kernel_rfl
  rcases open_slice Tryz.underlying22 h with ⟨hv, _⟩ | ⟨a, len, cap, m, n', D, Pl, hv, hb, hl, hm, hmm, hx, hi⟩
  · simp at hv
    subst hv
    exact ⟨none, 0, [], rfl, fun j o h => by simp at h, by simp⟩
  · simp at hv
    subst hv
    have hlm : len ≤ m := by rw [hmm]; split <;> omega
    rw [hC] at hi
    have hw0 := hw ((len + (m - len)) * 56) (by
      rw [hx]
      unfold DataW.weights
      rw [Tryz.underlying22]
      simp [hB])
    have hex : ∀ i, i < len → ∃ o : DOp, w.cells? base (a.add (i * 4)) 4 = some [.int .i64 o.kind, .string o.name, .slice o.A o.p.length o.c, .int .i64 o.n] ∧ BytesAt w o.A o.p ∧ o.name.size ≤ 140737488351232 ∧ o.p.length ≤ 140737488351232 ∧ -9223372036854775808 ≤ o.n ∧ o.n ≤ 9223372036854775807 := by
      intro i hil
      obtain ⟨cs', h1, h2⟩ := hi i (by omega)
      obtain ⟨o, rfl, h3⟩ := read_dop h2 (fun q hq => hw q (by
        rw [hx]
        unfold DataW.weights
        rw [Tryz.underlying22]
        refine List.mem_cons_of_mem _ (List.mem_append_left _ (weight_all (d := D i) ?_ hq))
        exact List.mem_map.2 ⟨i, List.mem_range.2 hil, rfl⟩))
      exact ⟨o, h1, h3⟩
    obtain ⟨f, hf⟩ := @choose_lt DOp ⟨⟨0, ⟨#[]⟩, none, 0, [], 0⟩⟩ len _ hex
    refine ⟨some a, cap, (List.range len).map f, by simp, fun j o hj => ?_, by unfold reachBytes at hw0; simp; omega⟩
    have hjl : j < len := by have := (List.getElem?_eq_some_iff.1 hj).1; simpa using this
    have ha := plain_addr (hf 0 (by omega)).1 (by omega)
    have hjf : o = f j := by
      rw [List.getElem?_map, List.getElem?_range hjl] at hj
      simpa using hj.symm
    subst hjf
    obtain ⟨hcells, hrest⟩ := hf j hjl
    rw [ha] at hcells
    obtain ⟨_, _, hc⟩ := World.cells?_some hcells
    have e : ∀ i, ((⟨a.block, a.off, none⟩ : Addr).add (j * 4)).add i = ⟨a.block, a.off + j * 4 + i, none⟩ := fun i => by rw [Addr.add_lit, Addr.add_lit]
    refine ⟨a.block, a.off, by rw [← ha], ?_, ?_, ?_, ?_, hrest⟩
    · have := hc 0 (by omega); rw [e] at this; simpa using this
    · have := hc 1 (by omega); rw [e] at this; simpa using this
    · have := hc 2 (by omega); rw [e] at this; simpa using this
    · have := hc 3 (by omega); rw [e] at this; simpa using this
end
end Go.Proofs.YtfhdcjfkngflbaaGreatDoor
