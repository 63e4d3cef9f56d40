/- The pure machine, part 36: what is walked in the open is walked within the widest fence, also in a round of a loop over a function. -/
import Derived.Test.YtmljpbhmdjpbaaaPm35
import Derived.RangeFuncOwn
namespace Go.PM
set_option linter.unusedVariables false
set_option linter.unusedSimpArgs false

/-- The widest fence; 'ro': the round in which the frame stands. -/
abbrev FW (ro : Option Nat) : Fence := { Fence.wide with round := ro }

section
variable {P : Program} {n : Nat} {ro : Option Nat} {ops : Array Oper} {Q : Exit → Act → World → Prop}

theorem calls_FW {f : FuncId} {args : Array Value} {w : World} {R : Ending → World → Prop} (h : Calls P f args w R) : CallsIn (FW ro) n P f args w R := by
  have := (callsIn_wide (n := n)).2 h
  exact this
theorem rows_FW {row : String} {args : Array Value} {w : World} {R : Value → World → Prop} (h : Go.Rows P row args w R) : RowsIn (FW ro) n P row args w R :=
  fun c cs _ => let ⟨v, w', r, s⟩ := h c cs; ⟨v, w', r, by have := (stepsIn_wide (P := P)).2 s; exact this⟩

theorem upon_FW {o : Oper} {a : Act} {next next' : Act → World → Prop} {r : Result Next} (hn : ∀ a w, next a w → next' a w) (h : o.upon P a next Q r) : o.uponIn (FW ro) n P a next' Q r := by
  cases r with
  | ok x w' =>
    cases x with
    | value v => exact hn _ _ h
    | skip => exact hn _ _ h
    | defer d => exact hn _ _ h
    | enter f args =>
      refine ⟨fun h => (by cases h), (calls_FW h).mono ?_⟩
      intro e w' he
      cases e with
      | returned v => exact hn _ _ he
      | panicked c => exact he
      | outgrown => exact he
    | row row args =>
      refine ⟨fun h => (by cases h), ?_⟩
      intro c cs hr
      obtain ⟨v, w2, h1, h2⟩ := rows_FW (n := n - 1) (ro := ro) h c cs hr
      exact ⟨v, w2, hn _ _ h1, h2⟩
    | _ => exact h.elim
  | halt x w' =>
    cases x with
    | panic v => exact h
    | _ => exact h.elim

theorem wp_FW {o : Oper} {a : Act} {w : World} {next next' : Act → World → Prop} (hd : ro = none ∨ ∀ c, o.op ≠ .defer c) (hn : ∀ a w, next a w → next' a w) (h : o.wp P a w next Q) : o.wpIn (FW ro) n P a w next' Q := by
  refine ⟨fun _ _ => trivial, ?_⟩
  have : Oper.semAt ro a.eval o = execOp a.eval o := by
    rcases hd with rfl | hd
    · rfl
    · exact Oper.semAt_eq ro _ o hd
  show o.uponIn (FW ro) n P a next' Q ((o.semAt ro a.eval).run P w)
  rw [this]
  exact upon_FW hn h

theorem wpOps_FW (hd : ro = none ∨ ∀ o ∈ ops.toList, ∀ c, o.op ≠ .defer c) (hq : ¬ LetsOut Q) : ∀ (l : List Nat) (a : Act) (w : World), wpOps P ops Q l a w → wpOpsIn (FW ro) n P ops Q l a w
  | [], _, _, h => h
  | i :: l, a, w, h => by
    simp only [wpOps, wpOpsIn] at h ⊢
    cases ho : ops[i]? with
    | none => simp only [ho] at h ⊢; exact wpOps_FW hd hq l a w h
    | some o =>
      simp only [ho] at h ⊢
      split at h
      · rename_i hw
        rw [if_pos hw]
        rcases h with h | h
        · refine wp_FW (hd.imp id fun h => h o ?_) (fun a w h => wpOps_FW hd hq l a w h) h
          obtain ⟨h1, h2⟩ := Array.getElem?_eq_some_iff.1 ho
          rw [← h2]; exact Array.mem_toList_iff.2 (Array.getElem_mem h1)
        · exact absurd h.2 hq
      · rename_i hw
        rw [if_neg hw]
        exact ⟨fun _ _ => trivial, wpOps_FW hd hq l _ w h⟩

/-- Behind the first operations the others. -/
def Then (F : Fence) (n : Nat) (P : Program) (ops : Array Oper) (Q : Exit → Act → World → Prop) (l : List Nat) : Exit → Act → World → Prop
  | .normal, a, w => wpOpsIn F n P ops Q l a w
  | e, a, w => Q e a w

theorem wpIn_then {F : Fence} {o : Oper} {a : Act} {w : World} {next next' : Act → World → Prop} {l : List Nat} (hn : ∀ a w, next a w → next' a w) (h : o.wpIn F n P a w next (Then F n P ops Q l)) : o.wpIn F n P a w next' Q := by
  refine ⟨h.1, ?_⟩
  have h := h.2
  generalize (o.semAt F.round a.eval).run P w = r at h ⊢
  cases r with
  | ok x w' =>
    cases x with
    | value v => exact hn _ _ h
    | skip => exact hn _ _ h
    | defer d => exact hn _ _ h
    | enter f args =>
      refine ⟨h.1, h.2.mono ?_⟩
      intro e w' he
      cases e with
      | returned v => exact hn _ _ he
      | panicked c => exact he
      | outgrown => exact he
    | row row args =>
      refine ⟨h.1, ?_⟩
      intro c cs hr
      obtain ⟨v, w2, h1, h2⟩ := h.2 c cs hr
      exact ⟨v, w2, hn _ _ h1, h2⟩
    | round l' f tmps assign body =>
      refine ⟨h.1, h.2.mono ?_⟩
      intro e w' he
      cases e with
      | returned v => exact hn _ _ he
      | panicked c => exact he
      | outgrown => exact he
    | _ => exact h.elim
  | halt x w' =>
    cases x with
    | panic v => exact h
    | _ => exact h.elim

theorem wpOpsIn_append {F : Fence} {l2 : List Nat} : ∀ (l1 : List Nat) (a : Act) (w : World), wpOpsIn F n P ops (Then F n P ops Q l2) l1 a w → wpOpsIn F n P ops Q (l1 ++ l2) a w
  | [], _, _, h => h
  | i :: l, a, w, h => by
    simp only [List.cons_append, wpOpsIn] at h ⊢
    cases ho : ops[i]? with
    | none => simp only [ho] at h ⊢; exact wpOpsIn_append l a w h
    | some o =>
      simp only [ho] at h ⊢
      split at h
      · rename_i hw
        rw [if_pos hw]
        exact wpIn_then (fun a w h => wpOpsIn_append l a w h) h
      · rename_i hw
        rw [if_neg hw]
        exact ⟨h.1, wpOpsIn_append l _ w h.2⟩
end
end Go.PM
