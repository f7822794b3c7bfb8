/-
  A range over a map that is known exactly (its entries in order): every key comes once, in some order. Own work.
-/
import Derived.Test.YtfhdcjfkngflbaaDoorMapLib
import Derived.Maps.RangeRun
import Derived.Maps.RangeWalk
import Derived.Sort.MapsRangeIn
import Derived.RangeFuncGives
set_option linter.unusedSimpArgs false
set_option linter.unusedVariables false
namespace Go.Proofs.YtfhdcjfkngflbaaDoor
open Go Go.RowKit
open Go.ChangeMaps (setBlock)

/-- The births: each below the clock, no two alike; no key twice. -/
structure MWf {κ : Type} (L : List (MEnt κ)) (c : Nat) : Prop where
  lt : ∀ e ∈ L, e.b < c
  nd : (L.map (·.b)).Nodup
  keys : (L.map (·.k)).Nodup

theorem MWf.nil {κ : Type} (c : Nat) : MWf ([] : List (MEnt κ)) c := ⟨by simp, by simp, by simp⟩

section
variable {κ : Type} [DecidableEq κ]

theorem lkV_none {k : κ} {L : List (MEnt κ)} : lkV k L = none ↔ k ∉ L.map (·.k) := by
  induction L with
  | nil => simp [lkV]
  | cons e L ih =>
    simp only [lkV]
    split
    · rename_i h; simp [h]
    · rename_i h; rw [ih]; simp [h]

theorem putE_births {k : κ} {v : Value} {c : Nat} {L : List (MEnt κ)} (h : (lkV k L).isSome) : (putE k v c L).map (·.b) = L.map (·.b) ∧ (putE k v c L).map (·.k) = L.map (·.k) := by
  induction L with
  | nil => simp [lkV] at h
  | cons e L ih =>
    simp only [putE]
    simp only [lkV] at h
    split
    · simp
    · rename_i hk
      rw [if_neg hk] at h
      simp [ih h]

theorem MWf.put {k : κ} {v : Value} {c : Nat} {L : List (MEnt κ)} (h : MWf L c) : MWf (putE k v c L) (clkE k L c) := by
  cases hl : lkV k L with
  | none =>
    rw [putE_none hl]
    have hk := lkV_none.1 hl
    simp only [clkE, hl, Option.isSome_none, Bool.false_eq_true, if_false]
    refine ⟨?_, ?_, ?_⟩
    · intro e he
      rcases List.mem_append.1 he with he | he
      · exact Nat.lt_succ_of_lt (h.lt e he)
      · obtain rfl : e = ⟨k, v, c⟩ := by simpa using he
        exact Nat.lt_succ_self _
    · simp only [List.map_append, List.map_cons, List.map_nil]
      refine List.nodup_append.2 ⟨h.nd, by simp, ?_⟩
      intro a ha b hb
      obtain ⟨e, he, rfl⟩ := List.mem_map.1 ha
      obtain rfl : b = c := by simpa using hb
      exact Nat.ne_of_lt (h.lt e he)
    · simp only [List.map_append, List.map_cons, List.map_nil]
      refine List.nodup_append.2 ⟨h.keys, by simp, ?_⟩
      intro a ha b hb
      obtain rfl : b = k := by simpa using hb
      exact fun e => hk (e ▸ ha)
  | some u =>
    have hs : (lkV k L).isSome = true := by simp [hl]
    simp only [clkE, hs, if_true]
    obtain ⟨e1, e2⟩ := putE_births (v := v) (c := c) hs
    refine ⟨?_, by rw [e1]; exact h.nd, by rw [e2]; exact h.keys⟩
    intro e he
    have : e.b ∈ (putE k v c L).map (·.b) := List.mem_map.2 ⟨e, he, rfl⟩
    rw [e1] at this
    obtain ⟨e', he', hb⟩ := List.mem_map.1 this
    rw [← hb]; exact h.lt e' he'

theorem delE_sub (k : κ) (L : List (MEnt κ)) : (delE k L).Sublist L := by
  induction L with
  | nil => exact List.Sublist.refl _
  | cons e L ih =>
    simp only [delE]
    split
    · exact List.sublist_cons_self _ _
    · exact ih.cons_cons _

theorem MWf.del {k : κ} {c : Nat} {L : List (MEnt κ)} (h : MWf L c) : MWf (delE k L) c :=
  ⟨fun e he => h.lt e ((delE_sub k L).subset he), ((delE_sub k L).map _).nodup h.nd, ((delE_sub k L).map _).nodup h.keys⟩

theorem lkV_del {k k' : κ} {c : Nat} {L : List (MEnt κ)} (h : MWf L c) : lkV k' (delE k L) = if k' = k then none else lkV k' L := by
  have hn := h.keys
  clear h
  induction L with
  | nil => simp [delE, lkV]
  | cons e L ih =>
    simp only [List.map_cons, List.nodup_cons] at hn
    simp only [delE]
    split
    · rename_i hk
      subst hk
      split
      · rename_i h; subst h; exact lkV_none.2 hn.1
      · rename_i h; simp [lkV, h]
    · rename_i hk
      simp only [lkV, ih hn.2]
      split
      · rename_i h; subst h; rw [if_neg (fun h => hk h.symm)]
      · rfl

theorem lkV_mem {k : κ} {v : Value} {L : List (MEnt κ)} (h : lkV k L = some v) : ∃ e ∈ L, e.k = k ∧ e.v = v := by
  induction L with
  | nil => simp [lkV] at h
  | cons e L ih =>
    simp only [lkV] at h
    split at h
    · rename_i hk; exact ⟨e, by simp, hk.symm, by simpa using h⟩
    · obtain ⟨e', h1, h2⟩ := ih h; exact ⟨e', by simp [h1], h2⟩

theorem lkV_of_mem {c : Nat} {L : List (MEnt κ)} (h : MWf L c) {e : MEnt κ} (he : e ∈ L) : lkV e.k L = some e.v := by
  have hn := h.keys
  clear h
  induction L with
  | nil => simp at he
  | cons a L ih =>
    simp only [List.map_cons, List.nodup_cons] at hn
    simp only [lkV]
    rcases List.mem_cons.1 he with rfl | he
    · simp
    · rw [if_neg (fun h => hn.1 (by rw [← h]; exact List.mem_map.2 ⟨e, he, rfl⟩))]
      exact ih he hn.2
end

theorem inj_of_nodup {α β : Type} {f : α → β} {l : List α} (h : (l.map f).Nodup) {x y : α} (hx : x ∈ l) (hy : y ∈ l) (e : f x = f y) : x = y := by
  induction l with
  | nil => simp at hx
  | cons a l ih =>
    simp only [List.map_cons, List.nodup_cons] at h
    have m : ∀ z, z ∈ l → f z ∈ l.map f := fun z hz => List.mem_map.2 ⟨z, hz, rfl⟩
    rcases List.mem_cons.1 hx with h1 | h1
    · rcases List.mem_cons.1 hy with h2 | h2
      · rw [h1, h2]
      · exact absurd (by rw [← h1, e]; exact m y h2) h.1
    · rcases List.mem_cons.1 hy with h2 | h2
      · exact absurd (by rw [← h2, ← e]; exact m x h1) h.1
      · exact ih h.2 h1 h2

theorem nodup_of_map {α β : Type} (f : α → β) {l : List α} (h : (l.map f).Nodup) : l.Nodup := by
  induction l with
  | nil => exact List.nodup_nil
  | cons a l ih =>
    simp only [List.map_cons, List.nodup_cons] at h
    exact List.nodup_cons.2 ⟨fun ha => h.1 (List.mem_map.2 ⟨a, ha, rfl⟩), ih h.2⟩

theorem split_mem {α : Type} {a : α} : ∀ {m : List α}, a ∈ m → ∃ m1 m2, m = m1 ++ a :: m2
  | b :: m, h => by
    rcases List.mem_cons.1 h with rfl | h
    · exact ⟨[], m, rfl⟩
    · obtain ⟨m1, m2, rfl⟩ := split_mem h
      exact ⟨b :: m1, m2, rfl⟩

theorem subset_perm {α : Type} {l m : List α} (hl : l.Nodup) (hm : m.Nodup) (h : ∀ x ∈ l, x ∈ m) : ∃ r, m.Perm (l ++ r) := by
  induction l generalizing m with
  | nil => exact ⟨m, List.Perm.refl _⟩
  | cons a l ih =>
    obtain ⟨m1, m2, rfl⟩ := split_mem (h a (by simp))
    have hp : (m1 ++ a :: m2).Perm (a :: (m1 ++ m2)) := List.perm_middle
    have hm' := (hp.nodup_iff).1 hm
    obtain ⟨ha, hm''⟩ := List.nodup_cons.1 hm'
    obtain ⟨hal, hl'⟩ := List.nodup_cons.1 hl
    obtain ⟨r, hr⟩ := ih hl' hm'' (fun x hx => by
      have := (hp.mem_iff).1 (h x (by simp [hx]))
      rcases List.mem_cons.1 this with rfl | h'
      · exact absurd hx hal
      · exact h')
    exact ⟨r, hp.trans (hr.cons a)⟩

section
variable {κ : Type} {kv : κ → Value} {P : Program} {w : World} {b c r : Nat} {L dn : List (MEnt κ)}

/-- A range over the map of block b is under way: its iterator lies in block r, the keys 'dn' have come. -/
def IterAt (kv : κ → Value) (w : World) (b r : Nat) (L : List (MEnt κ)) (c : Nat) (dn : List (MEnt κ)) : Prop :=
  MapAt kv w b L c ∧ MWf L c ∧ w.heap[r]? = some (.mapIter (some b) c (dn.map (·.b)).toArray c) ∧ dn.Nodup ∧ ∀ e ∈ dn, e ∈ L

theorem IterAt.ne (h : IterAt kv w b r L c dn) : r ≠ b := by
  obtain ⟨h1, _, h3, _⟩ := h
  intro e; unfold MapAt at h1; rw [e, h1] at h3; cases h3
theorem IterAt.walk (h : IterAt kv w b r L c dn) : ∃ o : Obj, w.heap[r]? = some o ∧ o.isWalk = true := ⟨_, h.2.2.1, rfl⟩
theorem IterAt.ofEq {w' : World} (h : IterAt kv w b r L c dn) (h1 : w'.heap[b]? = w.heap[b]?) (h2 : w'.heap[r]? = w.heap[r]?) : IterAt kv w' b r L c dn :=
  ⟨h1.trans h.1, h.2.1, h2.trans h.2.2.1, h.2.2.2⟩
theorem IterAt.lt (h : IterAt kv w b r L c dn) : r < w.heap.size := (Array.getElem?_eq_some_iff.1 h.2.2.1).1

theorem IterAt.le (h : IterAt kv w b r L c dn) : dn.length ≤ L.length := by
  have h' := h
  obtain ⟨_, _, _, h4, h5⟩ := h'
  obtain ⟨_, hw, _⟩ := h
  obtain ⟨r, hr⟩ := subset_perm h4 (nodup_of_map _ hw.nd) h5
  have := hr.length_eq
  simp at this
  omega

/-- 'range m'. -/
theorem run_range_at {T K E : TypeId} (ht : P.underlying T = some (.map K E)) (h : MapAt kv w b L c) (hw : MWf L c) :
    (Instr.range T (.map (some b))).run P w = .ok (.pointer (some ⟨w.heap.size, 0, none⟩)) (w.alloc (.mapIter (some b) c #[] c)) ∧ IterAt kv (w.alloc (.mapIter (some b) c #[] c)) b w.heap.size L c [] :=
  ⟨run_range_map w T K E b _ c ht h, h.alloc _, hw, heap_alloc_new w _, by simp, by simp⟩

theorem left_mem {es : List (MEnt κ)} {dn : List (MEnt κ)} {e : MapEntry} (he : e ∈ (leftOf (es.map (MEnt.ent kv)).toArray (dn.map (·.b)).toArray).toList) :
    ∃ x ∈ es, e = x.ent kv ∧ x ∉ dn := by
  obtain ⟨h1, h2⟩ := mem_left he
  obtain ⟨x, hx, rfl⟩ := List.mem_map.1 (by simpa using h1)
  refine ⟨x, hx, rfl, fun hd => ?_⟩
  have : (dn.map (·.b)).toArray.contains x.b = true := by simp; exact ⟨x, hd, rfl⟩
  exact absurd (h2.symm.trans this) (by simp)

/-- The step. -/
theorem run_next_it (h : IterAt kv w b r L c dn) (ty : TypeId) :
    (dn.Perm L ∧ (Instr.next (.pointer (some ⟨r, 0, none⟩)) false ty).run P w = .ok (.tuple #[.bool false]) w) ∨
    ∃ e ∈ L, e ∉ dn ∧ ∃ w', (Instr.next (.pointer (some ⟨r, 0, none⟩)) false ty).run P w = .ok (.tuple #[.bool true, kv e.k, e.v]) w' ∧ IterAt kv w' b r L c (dn ++ [e]) ∧ w.grownBy w' (some r) ∧ w'.heap.size = w.heap.size ∧
      (Instr.entry (.pointer (some ⟨r, 0, none⟩))).run P w' = .ok (.tuple #[kv e.k, e.v]) w' := by
  have hne := h.ne
  obtain ⟨h1, h2, h3, h4, h5⟩ := h
  have hbl := h1.lt
  have hrl : r < w.heap.size := (Array.getElem?_eq_some_iff.1 h3).1
  rcases run_next_at (P := P) w ty r b c c (dn.map (·.b)).toArray _ c h3 h1 (by
      intro x hx
      obtain ⟨e, he, rfl⟩ := List.mem_map.1 (by simpa using hx)
      exact h2.lt e he) (Nat.le_refl _) with ⟨hz, hrun⟩ | ⟨e, he, w1, hw1, hrun⟩
  · refine .inl ⟨?_, hrun⟩
    have hall := all_seen _ _ hz
    have hsub : ∀ e ∈ L, e ∈ dn := by
     intro e he
     have := hall (e.ent kv) (by simp; exact ⟨e, he, rfl⟩)
     obtain ⟨e', he', hb⟩ : ∃ e' ∈ dn, e'.b = e.b := by simpa [MEnt.ent] using this
     have : e' = e := inj_of_nodup h2.nd (h5 e' he') he hb
     exact this ▸ he'
    obtain ⟨r', hr'⟩ := subset_perm (nodup_of_map _ h2.nd) h4 hsub
    obtain ⟨r'', hr''⟩ := subset_perm h4 (nodup_of_map _ h2.nd) h5
    have e1 := hr'.length_eq
    have e2 := hr''.length_eq
    simp only [List.length_append] at e1 e2
    have : r' = [] := List.eq_nil_of_length_eq_zero (by omega)
    rw [this, List.append_nil] at hr'
    exact hr'
  · obtain ⟨x, hx, rfl, hxd⟩ := left_mem he
    refine .inr ⟨x, hx, hxd, _, hrun, ?_⟩
    have hs1 : w1.heap = w.heap := by rcases hw1 with rfl | rfl <;> rfl
    have hit : IterAt kv (setBlock w1 r (.mapIter (some b) c ((dn.map (·.b)).toArray.push (x.ent kv).born) c)) b r L c (dn ++ [x]) := by
      refine ⟨?_, h2, ?_, ?_, ?_⟩
      · unfold MapAt at h1 ⊢
        rw [setBlock_other _ (fun e => hne e.symm), hs1]; exact h1
      · simp [setBlock, hs1, hrl, MEnt.ent]
      · exact List.nodup_append.2 ⟨h4, by simp, fun a ha b' hb' e => hxd ((e.trans (List.mem_singleton.1 hb')) ▸ ha)⟩
      · intro e he
        rcases List.mem_append.1 he with he | he
        · exact h5 e he
        · obtain rfl : e = x := by simpa using he
          exact hx
    refine ⟨hit, ?_, by simp [setBlock, hs1], ?_⟩
    · refine ⟨?_, ?_, ?_, by simp [setBlock, hs1], fun k _ hk => (setBlock_other _ (fun e => hk (by rw [e]))).trans (by rw [hs1])⟩ <;> rcases hw1 with rfl | rfl <;> rfl
    · refine run_entry_at _ r b c (dn.map (·.b)).toArray _ c (x.ent kv) ?_ hit.1 (by simp; exact ⟨x, hx, rfl⟩) ?_
      · have := hit.2.2.1
        simpa [MEnt.ent] using this
      · have : (L.map (MEnt.ent kv)).map (·.born) = L.map (·.b) := by simp [MEnt.ent, Function.comp_def]
        simpa [MEnt.ent, Function.comp_def] using h2.nd
end
end Go.Proofs.YtfhdcjfkngflbaaDoor
