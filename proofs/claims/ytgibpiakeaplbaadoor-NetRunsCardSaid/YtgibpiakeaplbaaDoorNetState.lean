/-
  net: its state in memory; a map's entry read and stored in two steps. Own work.
-/
import Derived.Test.YtgibpiakeaplbaaDoorNetA
import Derived.Test.YtgibpiakeaplbaaDoorNetClone
import Derived.Deep.AppendLies
set_option linter.unusedSimpArgs false
set_option linter.unusedVariables false
namespace Go.Proofs.YtgibpiakeaplbaaDoor
open Go Go.RowKit
open Go.ChangeMaps (setBlock)

/-! ### m[k] = append(m[k], ..): the entry is made, then stored -/
section
variable {κ : Type} [DecidableEq κ] {P : Program} {K : TypeId} {kv : κ → Value} {w : World} {b c : Nat} {L : List (MEnt κ)}

theorem modify_key_same (kv : κ → Value) (k : κ) : ∀ (L : List (MEnt κ)) (i p : Nat) (v : Value), lkE k L i = some (i + p, v) → (L.map (MEnt.ent kv)).modify p (fun e => { e with key := kv k }) = L.map (MEnt.ent kv)
  | [], _, _, _, h => by simp [lkE] at h
  | e :: L, i, p, v, h => by
    simp only [lkE] at h
    split at h
    · rename_i hk
      simp only [Option.some.injEq, Prod.mk.injEq] at h
      obtain rfl : p = 0 := by omega
      subst hk
      simp [MEnt.ent]
    · rename_i hk
      cases p with
      | zero =>
        obtain ⟨q, h1, _⟩ := lkE_some h
        omega
      | succ p =>
        have := modify_key_same kv k L (i + 1) p v (by rw [h]; congr 2; omega)
        simp only [List.map_cons, List.modify_succ_cons, this]

/-- The list behind 'mapEntry': the key is there. -/
def entE (k : κ) (z : Value) (c : Nat) (L : List (MEnt κ)) : List (MEnt κ) := if (lkV k L).isSome then L else L ++ [⟨k, z, c⟩]

theorem run_mapEntry_at (ko : KeyOps P K kv) {T E : TypeId} (ht : P.underlying T = some (.map K E)) {z : Value} (hz : ∀ w, (zeroValue E).run P w = .ok z w) (h : MapAt kv w b L c) (hw : MWf L c) (k : κ) :
    ∃ st, (Instr.mapEntry T (.map (some b)) (kv k)).run P w = .ok (.tuple #[(lkV k L).getD z, .int .i64 (st : Nat)]) (setBlock w b (.map ((entE k z c L).map (MEnt.ent kv)).toArray (clkE k L c))) ∧
      ∃ e ∈ entE k z c L, e.k = k ∧ e.b = st := by
  have h0 := h
  unfold MapAt at h
  simp only [Instr.mapEntry, Sem.run_bind, run_underlying ht, Result.andThen_ok, getObj, Sem.run, h, Sem.run_pure, ko.check, ko.find]
  cases hl : lkE k L 0 with
  | none =>
    have hv := lkE_none.1 hl
    refine ⟨c, ?_, ⟨k, z, c⟩, by simp [entE, hv], rfl, rfl⟩
    simp only [clkE, entE, hv, Option.isSome_none, Bool.false_eq_true, if_false]
    simp [hz, setObj, Sem.run, h, setBlock, MEnt.ent, goInt]
  | some x =>
    obtain ⟨j, u⟩ := x
    obtain ⟨p, h1, h2, h3, h4, _⟩ := lkE_some hl
    have hj : j = p := by omega
    subst hj
    have hs : lkV k L = some u := by rw [← lkE_val (i := 0), hl]; rfl
    have e1 : (((L.map (MEnt.ent kv)).toArray[j]?).map (·.key)).getD (kv k) = kv k := by
      rw [List.getElem?_toArray, h4 kv]; rfl
    have hm := modify_key_same kv k L 0 j u (by rw [hl]; simp)
    refine ⟨L[j].b, ?_, L[j], by simp [entE, hs], ?_, rfl⟩
    · simp only [Sem.run_bind, e1, ko.stays, Result.andThen_ok, clkE, entE, hs, Option.isSome_some, if_true]
      simp [setObj, Sem.run, h, List.modify_toArray, hm, setBlock, goInt, MEnt.ent, h2]
    · have := h4 (fun x => (.tuple #[] : Value))
      clear this
      have hk : ∀ (L : List (MEnt κ)) (i q : Nat) (v : Value), lkE k L i = some (i + q, v) → (L[q]?).map (·.k) = some k := by
        intro L
        induction L with
        | nil => intro i q v h; simp [lkE] at h
        | cons e L ih =>
          intro i q v h
          simp only [lkE] at h
          split at h
          · rename_i hk
            simp only [Option.some.injEq, Prod.mk.injEq] at h
            obtain rfl : q = 0 := by omega
            simp [hk]
          · rename_i hk
            cases q with
            | zero => obtain ⟨q, h1, _⟩ := lkE_some h; omega
            | succ q =>
              have := ih (i + 1) q v (by rw [h]; congr 2; omega)
              simpa using this
      have := hk L 0 j u (by rw [hl]; simp)
      simpa [h2] using this

theorem entE_wf {k : κ} {z : Value} (hw : MWf L c) : MWf (entE k z c L) (clkE k L c) := by
  have h := hw.put (k := k) (v := z)
  cases hl : lkV k L with
  | none => rw [putE_none hl] at h; simpa [entE, hl] using h
  | some v => simpa [entE, clkE, hl] using hw

theorem entE_put {k : κ} {z v : Value} {c' : Nat} : putE k v c' (entE k z c L) = putE k v c L := by
  cases hl : lkV k L with
  | none =>
    rw [putE_none hl]
    have : ∀ L : List (MEnt κ), lkV k L = none → putE k v c' (L ++ [⟨k, z, c⟩]) = L ++ [⟨k, v, c⟩] := by
      intro L
      induction L with
      | nil => intro _; simp [putE]
      | cons e L ih =>
        intro h
        simp only [lkV] at h
        split at h
        · simp at h
        · rename_i hk
          simp only [List.cons_append, putE, if_neg hk, ih h]
    simp [entE, hl, this L hl]
  | some u =>
    have hs : (lkV k L).isSome = true := by simp [hl]
    simp only [entE, hs, if_true]
    exact putE_some hs c' c

theorem run_entryStore_at {T : TypeId} (h : MapAt kv w b L c) (hw : MWf L c) {e : MEnt κ} (he : e ∈ L) (v : Value) :
    (Instr.entryStore T (.map (some b)) (.int .i64 (e.b : Nat)) v).run P w = .ok () (setBlock w b (.map ((putE e.k v 0 L).map (MEnt.ent kv)).toArray c)) := by
  have h0 := h
  unfold MapAt at h
  have hf : ∀ (L : List (MEnt κ)), (L.map (·.b)).Nodup → (L.map (·.k)).Nodup → e ∈ L → ∃ p, (L.map (MEnt.ent kv)).findIdx? (fun x => ((x.born : Nat) : Int) == ((e.b : Nat) : Int)) = some p ∧
      ((L.map (MEnt.ent kv)).modify p fun x => { x with val := v }) = (putE e.k v 0 L).map (MEnt.ent kv) := by
    intro L
    induction L with
    | nil => intro _ _ h; simp at h
    | cons a L ih =>
      intro hb hk he
      simp only [List.map_cons, List.nodup_cons] at hb hk
      by_cases ha : a.b = e.b
      · have hae : a = e := by
          rcases List.mem_cons.1 he with h | h
          · exact h.symm
          · exact absurd (by rw [ha]; exact List.mem_map.2 ⟨e, h, rfl⟩) hb.1
        subst hae
        exact ⟨0, by simp [List.findIdx?_cons, MEnt.ent], by simp [putE, MEnt.ent]⟩
      · have he' : e ∈ L := by
          rcases List.mem_cons.1 he with h | h
          · exact absurd (by rw [h]) ha
          · exact h
        obtain ⟨p, h1, h2⟩ := ih hb.2 hk.2 he'
        have hke : ¬ e.k = a.k := fun h => hk.1 (by rw [← h]; exact List.mem_map.2 ⟨e, he', rfl⟩)
        refine ⟨p + 1, ?_, ?_⟩
        · have hne : (((a.b : Nat) : Int) == ((e.b : Nat) : Int)) = false := by
            simp; omega
          simp only [List.map_cons, List.findIdx?_cons, MEnt.ent, hne] at h1 ⊢
          simp [MEnt.ent, Function.comp_def] at h1 ⊢
          simpa using h1
        · simp only [List.map_cons, List.modify_succ_cons, h2, putE, if_neg hke]
  obtain ⟨p, h1, h2⟩ := hf L hw.nd hw.keys he
  have h1' : (L.map (MEnt.ent kv)).toArray.findIdx? (fun x => ((x.born : Nat) : Int) == ((e.b : Nat) : Int)) = some p := by simpa using h1
  have ha : (asInt (.int .i64 ((e.b : Nat) : Int))).run P w = .ok ((e.b : Nat) : Int) w := rfl
  simp only [Instr.entryStore, Sem.run_bind, getObj, Sem.run, h, Result.andThen_ok, Sem.run_pure, ha, h1']
  simp [setObj, Sem.run, h, List.modify_toArray, h2, setBlock]
end
end Go.Proofs.YtgibpiakeaplbaaDoor
