/- The pure machine, part 37: a world that turns where no row lies. -/
import Derived.Test.YtmljpbhmdjpbaaaPm36
namespace Go.PM
set_option linter.unusedVariables false
set_option linter.unusedSimpArgs false
open Go.RowKit

/-- 'w2' is 'w' but for the block l, and for what is new. -/
structure Turned (l : Nat) (w w2 : World) : Prop where
  size : w.heap.size ≤ w2.heap.size
  os : w2.os = w.os
  tape : w2.tape = w.tape
  output : w2.output = w.output
  same : ∀ k, k < w.heap.size → k ≠ l → w2.heap[k]? = w.heap[k]?

theorem Turned.putObj (w : World) (l : Nat) (o : Obj) : Turned l w (w.putObj l o) :=
  ⟨by have := (grownBy_putObj' w l o).size; exact this, (grownBy_putObj' w l o).1, (grownBy_putObj' w l o).2, (grownBy_putObj' w l o).3, fun k _ hk => World.putObj_heap_other hk⟩
theorem Turned.alloc (w : World) (o : Obj) (l : Nat) : Turned l w (w.alloc o) :=
  ⟨by simp, rfl, rfl, rfl, fun k hk _ => Below.heap_alloc w o k hk⟩
theorem Turned.trans {l : Nat} {a b c : World} (h : Turned l a b) (k : Turned l b c) : Turned l a c :=
  ⟨Nat.le_trans h.size k.size, k.os.trans h.os, k.tape.trans h.tape, k.output.trans h.output, fun j hj hl => (k.same j (Nat.lt_of_lt_of_le hj h.size) hl).trans (h.same j hj hl)⟩

theorem rd_turned {E : Env} {l : Nat} {w2 : World} (hw : Turned l E.w w2) (hI : E.I l = false) (hib : ∀ b, E.I b = true → b < E.w.heap.size) : rdOf E.I w2 = E.rd := by
  funext b
  unfold Env.rd rdOf
  by_cases hb : E.I b = true
  · rw [if_pos hb, if_pos hb, hw.same b (hib b hb) (by rintro rfl; rw [hI] at hb; cases hb)]
  · rw [if_neg hb, if_neg hb]

theorem SatF.turned {E0 : Env} {C : Cx} {fr : Nat → Prop} {σ : Core} {a : Act} {E : Env} (hs : SatF E0 C fr σ a E) {l : Nat} {w2 : World} (hw : Turned l E.w w2) (hI : E.I l = false) (hl0 : E0.w.heap.size ≤ l) (hE0 : ∀ b, E0.I b = true → b < E0.w.heap.size)
    (hlr : ∀ id pb loc, σ.h id = some pb → E.β id = some loc → loc.b ≠ some l) : SatF E0 C fr σ a { E with w := w2 } := by
  have hrd : rdOf E.I w2 = E.rd := rd_turned hw hI hs.ok.ibound
  refine ⟨⟨⟨fun id pb hh => ?_, hs.ok.heap.inj⟩, hs.ok.fresh, fun b hb => Nat.lt_of_lt_of_le (hs.ok.ibound b hb) hw.size⟩, hs.n0, ?_, fun k v hk => ?_, hs.defers, hs.size, hs.hi⟩
  · obtain ⟨loc, h1, h2⟩ := hs.ok.heap.row id pb hh
    refine ⟨loc, h1, h2.sz, h2.el, h2.cell, h2.nl, fun b hb => ?_⟩
    obtain ⟨g1, cur, g2, g3, g4⟩ := h2.blk b hb
    refine ⟨g1, cur, ?_, ?_, g4⟩
    · rw [show ({ E with w := w2 } : Env).w = w2 from rfl, hw.same b (hs.ok.heap.lt hh h1 hb) (fun e => hlr id pb loc hh h1 (by rw [hb, e]))]
      exact g2
    · show CellsAt (rdOf E.I w2) _ _ _
      rw [hrd]; exact g3
  · have hx := hs.ext
    refine ⟨hx.i, hx.β, hx.new, hx.newI, hw.os.trans hx.os, hw.tape.trans hx.tape, hw.output.trans hx.output, Nat.le_trans hx.size hw.size, fun k hk ho => ?_, fun b hb => ?_⟩
    · exact (hw.same k (Nat.lt_of_lt_of_le hk hx.size) (by omega)).trans (hx.block k hk ho)
    · exact (hw.same b (Nat.lt_of_lt_of_le (hE0 b hb) hx.size) (by have := hE0 b hb; omega)).trans (hx.imm b hb)
  · show VR (rdOf E.I w2) E.β _ _
    rw [hrd]; exact hs.slots k v hk
end Go.PM
