/-
  disk: Append told whole; Delete. Own work.
-/
import Derived.Test.YtfhdcjfkngflbaaDoorDiskApp2
set_option linter.unusedSimpArgs false
set_option linter.unusedVariables false
namespace Go.Proofs.YtfhdcjfkngflbaaDoor
open Go Go.RowKit
open Go.ChangeMaps (setBlock)

/-- Append, whatever it is handed. -/
theorem append_any (base : Nat) (s : St) (k : ByteArray) (A : Option Addr) (n c : Nat) (bs : List UInt8) (hbn : bs.length = n) (w : World) (hd : DiskAt base w s) (hlow : base ≤ w.heap.size) (hk : k.size ≤ 4611686018427387904) (hA : BytesAt w A bs) (hT : s.turn ≤ 4611686018427387904) :
    Calls Tryd.prog 7 #[.pointer (some ⟨s.B, 0, none⟩), .string k, .slice A n c] w fun e w' => e = .returned (errV (appE s k n)) ∧ ((appE s k n ≠ none ∧ w = w') ∨ (appE s k n = none ∧ ∃ s', AppOK base s k bs w s' w')) := by
  cases h : nmB k with
  | false =>
    have e : appE s k n = some 1 := by unfold appE; rw [if_neg (by rw [h]; simp)]
    refine (append_name s k A n c w hk h).mono ?_
    rintro e' w' ⟨rfl, rfl⟩
    rw [e]; exact ⟨rfl, .inl ⟨by simp, rfl⟩⟩
  | true =>
    cases hr : s.R k with
    | none =>
      by_cases hf : 64 ≤ s.L.length
      · have e : appE s k n = some 11 := by unfold appE; rw [if_pos h, hr]; simp only; rw [if_pos hf]
        refine (append_full base s k A n c w hd hk h hr hf).mono ?_
        rintro e' w' ⟨rfl, rfl⟩
        rw [e]; exact ⟨rfl, .inl ⟨by simp, rfl⟩⟩
      · by_cases hn : 1048576 < n
        · have e : appE s k n = some 2 := by unfold appE; rw [if_pos h, hr]; simp only; rw [if_neg hf, if_pos hn]
          refine (append_long_new base s k A n c w hd hk h hr hf hn).mono ?_
          rintro e' w' ⟨rfl, rfl⟩
          rw [e]; exact ⟨rfl, .inl ⟨by simp, rfl⟩⟩
        · have e : appE s k n = none := by unfold appE; rw [if_pos h, hr]; simp only; rw [if_neg hf, if_neg hn]
          refine (append_new base s k A n c bs hbn w hd hlow hk hA hT h hr hf hn).mono ?_
          rintro e' w' ⟨rfl, hs⟩
          rw [e]; exact ⟨rfl, .inr ⟨rfl, hs⟩⟩
    | some r =>
      by_cases hn : 1048576 < n
      · have e : appE s k n = some 2 := by unfold appE; rw [if_pos h, hr]; simp only; rw [if_pos hn]
        refine (append_long base s k r A n c w hd hk h hr (.inl hn)).mono ?_
        rintro e' w' ⟨rfl, rfl⟩
        rw [e]; exact ⟨rfl, .inl ⟨by simp, rfl⟩⟩
      · by_cases hn2 : 1048576 < r.data.length + n
        · have e : appE s k n = some 2 := by unfold appE; rw [if_pos h, hr]; simp only; rw [if_neg hn, if_pos hn2]
          refine (append_long base s k r A n c w hd hk h hr (.inr ⟨hn, hn2⟩)).mono ?_
          rintro e' w' ⟨rfl, rfl⟩
          rw [e]; exact ⟨rfl, .inl ⟨by simp, rfl⟩⟩
        · have e : appE s k n = none := by unfold appE; rw [if_pos h, hr]; simp only; rw [if_neg hn, if_neg hn2]
          refine (append_old base s k r A n c bs hbn w hd hlow hk hA hT h hr hn hn2).mono ?_
          rintro e' w' ⟨rfl, hs⟩
          rw [e]; exact ⟨rfl, .inr ⟨rfl, hs⟩⟩

theorem wpList_drop (w : World) {ops : Array Oper} {rest : List Oper} {o : Oper} {a : Act} {Q : Exit → Act → World → Prop} (hgd : o.guard = none) (m x : Operand)
    (ho : o.op = .call { callee := .builtin .delete, args := #[m, x], argTypes := #[48, 9] }) (M : Nat) (k : ByteArray) (hm : a.eval m = .map (some M)) (hx : a.eval x = .string k) {L : List (MEnt ByteArray)} {c : Nat} (h : MapAt Value.string w M L c)
    (hK : wpList Tryd.prog ops Q rest (a.put o.dst (.tuple #[])) (setBlock w M (.map ((delE k L).map (MEnt.ent Value.string)).toArray c))) : wpList Tryd.prog ops Q (o :: rest) a w := by
  have hr := run_drop (P := Tryd.prog) (ty := o.type) (TT := #[48, 9]) str_keys Tryd.underlying48 rfl h k
  refine wpList_plain hgd fun K hK' => ?_
  unfold Oper.wp execOp
  simp only [ho, resolve, invoke, builtin, Sem.run_bind, Sem.run_pure, Result.andThen_ok, List.map_toArray, List.map_cons, List.map_nil, hm, hx, hr]
  exact hK' _ _ hK

theorem delete_nil (k : ByteArray) (w : World) : Calls Tryd.prog 11 #[.pointer none, .string k] w fun e w' => e = .returned (.iface 31 (.int .i64 19)) ∧ w = w' := by
  go_enter Tryd.func11, Tryd.ntmps11
  go_wp2_with (go_at_call 24; refine (find_nil k _).mono ?_; rintro e w' ⟨rfl, rfl⟩)
  go_ret
  exact ⟨rfl, rfl⟩
theorem delete_miss (base : Nat) (s : St) (k : ByteArray) (w : World) (h : DiskAt base w s) (hr : s.R k = none) : Calls Tryd.prog 11 #[.pointer (some ⟨s.B, 0, none⟩), .string k] w fun e w' => e = .returned (.iface 31 (.int .i64 10)) ∧ w = w' := by
  have H := Lib.hid h
  clear h
  go_enter Tryd.func11, Tryd.ntmps11
  go_wp2_with (go_at_call 24; refine (find_miss base s k _ H.out hr).mono ?_; rintro e w' ⟨rfl, rfl⟩)
  go_ret
  exact ⟨rfl, rfl⟩
theorem delete_hit (base : Nat) (s : St) (k : ByteArray) (r : FRec) (w : World) (h : DiskAt base w s) (hr : s.R k = some r) : Calls Tryd.prog 11 #[.pointer (some ⟨s.B, 0, none⟩), .string k] w fun e w' => e = .returned .nilIface ∧ DiskAt base w' (dropSt s k) ∧ Frame s (dropSt s k) w w' := by
  have H := Lib.hid h
  obtain ⟨c0, _, _⟩ := h.cells
  have HF := Lib.hid (And.intro (h.drop k) (dropSt_frame h k))
  clear h
  go_enter Tryd.func11, Tryd.ntmps11
  go_wp2_with (first | (go_at_call 24; refine (find_hit base s k r _ H.out hr).mono ?_; rintro e w' ⟨rfl, rfl⟩) | (refine wpList_drop _ rfl _ _ rfl s.M k rfl rfl H.out.map ?_))
  go_ret
  exact ⟨rfl, HF.out⟩
end Go.Proofs.YtfhdcjfkngflbaaDoor
