/- The pure machine, part 7: arithmetic, comparisons, lengths, functions as values. -/
import Derived.Test.YtmljpbhmdjpbaaaPm6
namespace Go.PM
set_option linter.unusedVariables false
set_option linter.unusedSimpArgs false
section sound
variable {P : Program} {C : Cx} {o : Oper} {nid : Nat} {σ : Core}

theorem vr_tup {rd : Rd} {β : Bt} {cs : List PV} {v : Value} (h : VR rd β (.tup cs) v) : ∃ vs : List Value, v = .tuple vs.toArray ∧ vs.length = cs.length ∧ (∀ (j : Nat) p v, cs[j]? = some p → vs[j]? = some v → VR rd β p v) := by
  cases h with
  | tup _ vs h1 h2 => exact ⟨vs, rfl, h1, h2⟩

theorem ok_extract {x : Operand} {k : Nat} (ho : o.op = .extract x k) (hd : dstOk C o = true) (hx : opndOk x = true) (h : (stExtract (evP σ.t x) k).1) : OpOK P C o nid σ (stExtract (evP σ.t x) k).2 := by
  unfold stExtract at h ⊢
  split at h
  · rename_i ps hp
    refine .value hd fun E0 fr a E hs => ?_
    have e := hs.eval x hx
    rw [hp] at e
    obtain ⟨vs, hv, hvl, hvr⟩ := vr_tup e
    have hlt : k < vs.length := by rw [hvl]; exact h
    refine ⟨vs[k], ?_, hvr k _ _ (getD_of h) (by simp [hlt])⟩
    simp only [execOp, ho, hv, Instr.extract, List.getElem?_toArray, List.getElem?_eq_getElem hlt, Sem.run_bind, Sem.run_pure, Result.andThen_ok]
  · exact h.elim

theorem ok_nilCheck {x : Operand} (ho : o.op = .nilCheck x) (hd : dstOk C o = true) (hx : opndOk x = true) (h : (stNilCheck (evP σ.t x)).1) : OpOK P C o nid σ (stNilCheck (evP σ.t x)).2 := by
  unfold stNilCheck at h ⊢
  split at h
  · rename_i id i oo hp
    refine .value hd fun E0 fr a E hs => ?_
    have e := hs.eval x hx
    rw [hp] at e
    obtain ⟨b, sz, tot, hβ, hv⟩ := vr_ptr e
    rw [hv] at e
    exact ⟨_, by simp only [execOp, ho, hv, Sem.run_pure], e⟩
  · rename_i cs hp
    refine .value hd fun E0 fr a E hs => ?_
    have e := hs.eval x hx
    rw [hp] at e
    obtain ⟨b, off, cur, vs, hv, _⟩ := vr_pim e
    rw [hv] at e
    exact ⟨_, by simp only [execOp, ho, hv, Sem.run_pure], e⟩
  · rename_i f fi ca hp
    refine .value hd fun E0 fr a E hs => ?_
    have e := hs.eval x hx
    rw [hp] at e
    generalize hax : a.eval x = vx at e
    cases e with
    | fn _ _ _ us vs h1 h2 h3 h4 =>
      exact ⟨_, by simp only [execOp, ho, hax, Sem.run_pure], .fn _ _ _ us vs h1 h2 h3 h4⟩
  · exact h.elim

theorem run_eqGuard_int (op : BinOp) (t : TypeId) (x y : Operand) (k k' : IntKind) (a b : Int) (w : World) : (eqGuard op t x y (.int k a) (.int k' b)).run P w = .ok () w := by
  unfold eqGuard
  cases op <;> simp

theorem vr_mk (rd : Rd) (β : Bt) (v : Value) (h : v.oneCell' = true) : VR rd β (.d (.val v)) v := .d _ _ (.val v h)

theorem run_int (op : BinOp) (t : TypeId) (k k' : IntKind) (a b : Int) (w : World) (h : (stIntBin op k a k' b).1) : ∃ v, (binOp op t (.int k a) (.int k' b)).run P w = .ok v w ∧ v.oneCell' = true ∧ (stIntBin op k a k' b).2 = ⟨.d (.val v), [], []⟩ := by
  cases op
  case add | sub | mul => simp only [stIntBin] at h; subst h; refine ⟨_, ?_, ?_, rfl⟩; · simp [binOp, Op.intArith]
                          · rfl
  case quo | rem => simp only [stIntBin] at h; obtain ⟨rfl, hb⟩ := h; refine ⟨_, ?_, ?_, rfl⟩; · simp [binOp, Op.intDiv, hb]
                    · rfl
  case and | or | xor | andNot => simp only [stIntBin] at h; subst h; refine ⟨_, ?_, ?_, rfl⟩; · simp [binOp, Op.intBits]
                                  · rfl
  case shl | shr => simp only [stIntBin] at h; refine ⟨_, ?_, ?_, rfl⟩; · simp [binOp, Op.shift, Int.not_lt.mpr h]
                    · rfl
  case eql | neq | lss | leq | gtr | geq => simp only [stIntBin] at h; subst h; refine ⟨_, ?_, ?_, rfl⟩; · simp only [binOp, Op.intCmp, ne_eq, not_true_eq_false, if_false, Sem.run_pure]; try rfl
                                            · rfl

theorem run_str (op : BinOp) (t : TypeId) (a b : ByteArray) (w : World) (h : (stStrBin op a b).1) : ∃ v, (binOp op t (.string a) (.string b)).run P w = .ok v w ∧ v.oneCell' = true ∧ (stStrBin op a b).2 = ⟨.d (.val v), [], []⟩ := by
  cases op
  case add =>
    simp only [stStrBin] at h
    refine ⟨_, ?_, ?_, rfl⟩
    · have h' : ¬ (((a.size + b.size : Nat) : Int) > IntKind.i64.max) := by
        have : IntKind.i64.max = 9223372036854775807 := by decide
        rw [this]
        unfold maxLen at h
        omega
      simp only [binOp, Op.stringOp, if_neg h', Sem.run_pure]
    · rfl
  case eql | neq | lss | leq | gtr | geq => refine ⟨_, ?_, ?_, rfl⟩; · simp [binOp, Op.stringOp]
                                            · rfl
  all_goals exact h.elim

theorem run_equalIn_bool (d : Nat) (t : TypeId) (hu : P.underlying t = some .bool) (a b : Bool) (w : World) : (Op.equalIn (d + 1) t (.bool a) (.bool b)).run P w = .ok (a == b) w := by
  simp [Op.equalIn, run_underlying hu]
theorem run_equal_bool (t : TypeId) (hu : P.underlying t = some .bool) (a b : Bool) (w : World) : (Op.equal t (.bool a) (.bool b)).run P w = .ok (a == b) w :=
  run_equalIn_bool 9999 t hu a b w

theorem run_equalIn_slice_nil (d : Nat) (t e : TypeId) (hu : P.underlying t = some (.slice e)) (ad : Option Addr) (n c : Nat) (w : World) : (Op.equalIn (d + 1) t (.slice ad n c) (.slice none 0 0)).run P w = .ok ad.isNone w := by
  cases ad <;> simp [Op.equalIn, run_underlying hu]
theorem run_equal_slice_nil (t e : TypeId) (hu : P.underlying t = some (.slice e)) (ad : Option Addr) (n c : Nat) (w : World) : (Op.equal t (.slice ad n c) (.slice none 0 0)).run P w = .ok ad.isNone w :=
  run_equalIn_slice_nil 9999 t e hu ad n c w

theorem run_boolb (op : BinOp) (t : TypeId) (hu : P.underlying t = some .bool) (a b : Bool) (w : World) (h : (stBoolBin op a b).1) : ∃ v, (binOp op t (.bool a) (.bool b)).run P w = .ok v w ∧ v.oneCell' = true ∧ (stBoolBin op a b).2 = ⟨.d (.val v), [], []⟩ := by
  cases op
  case eql | neq => refine ⟨_, ?_, ?_, rfl⟩; · simp only [binOp, Sem.run_bind, run_equal_bool t hu, Result.andThen_ok, Sem.run_pure]
                    · rfl
  all_goals exact h.elim

theorem ok_bin {op : BinOp} {T T' : TypeId} {x y : Operand} (ho : o.op = .binOp op T x y T') (hd : dstOk C o = true) (hx : opndOk x = true) (hy : opndOk y = true) (h : (stBin op (P.underlying T) y (evP σ.t x) (evP σ.t y)).1) :
    OpOK P C o nid σ (stBin op (P.underlying T) y (evP σ.t x) (evP σ.t y)).2 := by
  unfold stBin at h ⊢
  by_cases hnil : (isSliceD (P.underlying T) && isNilC y) = true
  · rw [if_pos hnil] at h ⊢
    simp only [Bool.and_eq_true] at hnil
    obtain ⟨e, hu⟩ : ∃ e, P.underlying T = some (.slice e) := by
      have := hnil.1
      unfold isSliceD at this
      split at this
      · exact ⟨_, by assumption⟩
      · cases this
    have hyn : y = .const (.slice none 0 0) := by
      have := hnil.2
      unfold isNilC at this
      split at this
      · rfl
      · cases this
    subst hyn
    have key : ∀ q, isNilP (evP σ.t x) = some q → ∀ (E0 : Env) (fr : Nat → Prop) (a : Act) (E : Env), SatF E0 C fr σ a E → ∃ v : Value, a.eval x = v ∧ (eqGuard op T x (.const (.slice none 0 0)) v (.slice none 0 0)).run P E.w = .ok () E.w ∧
        (binOp .eql T v (.slice none 0 0)).run P E.w = .ok (.bool q) E.w ∧ (binOp .neq T v (.slice none 0 0)).run P E.w = .ok (.bool (!q)) E.w := by
      intro q hq E0 fr a E hs
      have ex := hs.eval x hx
      have hsv : ∃ (ad : Option Addr) (n c : Nat), a.eval x = .slice ad n c ∧ ad.isNone = q := by
        unfold isNilP at hq
        split at hq
        · rename_i hp; rw [hp] at ex; have := vr_val ex; cases hq; exact ⟨none, 0, 0, this, rfl⟩
        · rename_i e0 r hp
          rw [hp] at ex
          generalize a.eval x = vx at ex
          cases ex with
          | d _ _ hdr =>
            cases hq
            cases hdr with
            | imm _ b off cap sz vs => exact ⟨_, _, _, rfl, rfl⟩
        · rename_i id sz off len hp
          rw [hp] at ex
          generalize a.eval x = vx at ex
          cases hq
          cases ex with
          | own => exact ⟨_, _, _, rfl, rfl⟩
        · cases hq
      obtain ⟨ad, n, c, hv, hn⟩ := hsv
      have he : (Op.equal T (.slice ad n c) (.slice none 0 0)).run P E.w = .ok q E.w := by
        rw [run_equal_slice_nil T e hu, hn]
      refine ⟨_, hv, ?_, ?_, ?_⟩
      · unfold eqGuard; cases op <;> simp
      · simp only [binOp, Sem.run_bind, he, Result.andThen_ok, Sem.run_pure]
      · simp only [binOp, Sem.run_bind, he, Result.andThen_ok, Sem.run_pure]
    unfold stNilBin at h ⊢
    split at h
    · split at h
      · rename_i q hq
        simp only [hq]
        refine .value hd fun E0 fr a E hs => ?_
        obtain ⟨v, hv, h2, h3, _⟩ := key q hq E0 fr a E hs
        exact ⟨.bool q, by (simp only [execOp, ho]; rw [hv]; simp only [Act.eval, Sem.run_bind, h2, Result.andThen_ok, h3, Sem.run_pure]), vr_mk _ _ _ rfl⟩
      · exact h.elim
    · split at h
      · rename_i q hq
        simp only [hq]
        refine .value hd fun E0 fr a E hs => ?_
        obtain ⟨v, hv, h2, _, h3⟩ := key q hq E0 fr a E hs
        exact ⟨.bool (!q), by (simp only [execOp, ho]; rw [hv]; simp only [Act.eval, Sem.run_bind, h2, Result.andThen_ok, h3, Sem.run_pure]), vr_mk _ _ _ rfl⟩
      · exact h.elim
    · exact h.elim
  · rw [if_neg hnil] at h ⊢
    have fin : ∀ (u v : Value) (r : Out), evP σ.t x = .d (.val u) → evP σ.t y = .d (.val v) → (∀ w, (eqGuard op T x y u v).run P w = .ok () w) → (∀ w, ∃ z, (binOp op T u v).run P w = .ok z w ∧ z.oneCell' = true ∧ r.2 = ⟨.d (.val z), [], []⟩) → OpOK P C o nid σ r.2 := by
      intro u v r hp hq hg hb
      intro E0 fr a E hs hfr K Q hK
      obtain ⟨z, _, h1, he⟩ := hb E.w
      rw [he] at hK
      have := OpOK.value (P := P) (C := C) (o := o) (nid := nid) (σ := σ) (p := .d (.val z)) (foot := []) hd (fun E0' fr' a' E' hs' => by
        have ex := hs'.eval x hx
        have ey := hs'.eval y hy
        rw [hp] at ex
        rw [hq] at ey
        have ex := vr_val ex
        have ey := vr_val ey
        obtain ⟨z', hr', _, he'⟩ := hb E'.w
        rw [he] at he'
        cases he'
        exact ⟨z, by simp only [execOp, ho, ex, ey, Sem.run_bind, hg, Result.andThen_ok, hr', Sem.run_pure], vr_mk _ _ _ h1⟩)
      exact this E0 fr a E hs hfr K Q hK
    split at h
    · rename_i k u k' v hp hq
      exact fin _ _ _ hp hq (fun w => run_eqGuard_int op T x y k k' u v w) (fun w => run_int (P := P) op T k k' u v w h)
    · rename_i u v hp hq
      split at h
      · rename_i hb
        have hu : P.underlying T = some .bool := by
          unfold isBoolD at hb
          split at hb
          · assumption
          · cases hb
        rw [if_pos hb]
        exact fin _ _ _ hp hq (fun w => by unfold eqGuard; cases op <;> simp) (fun w => run_boolb (P := P) op T hu u v w h)
      · exact h.elim
    · rename_i u v hp hq
      exact fin _ _ _ hp hq (fun w => by unfold eqGuard; cases op <;> simp) (fun w => run_str (P := P) op T u v w h)
    · exact h.elim

theorem ok_un {op : UnOp} {T : TypeId} {x : Operand} (ho : o.op = .unOp op T x) (hd : dstOk C o = true) (hx : opndOk x = true) (h : (stUn op (evP σ.t x)).1) : OpOK P C o nid σ (stUn op (evP σ.t x)).2 := by
  unfold stUn at h ⊢
  split at h
  · rename_i q hp
    refine .value hd fun E0 fr a E hs => ?_
    have ex := hs.eval x hx
    rw [hp] at ex
    have ex := vr_val ex
    exact ⟨.bool (!q), by simp only [execOp, ho, ex, Op.unary, Sem.run_bind, Sem.run_pure, Result.andThen_ok], vr_mk _ _ _ rfl⟩
  · rename_i k n hp
    refine .value hd fun E0 fr a E hs => ?_
    have ex := hs.eval x hx
    rw [hp] at ex
    have ex := vr_val ex
    exact ⟨.int k (k.wrap (0 - n)), by simp only [execOp, ho, ex, Op.unary, Op.intArith, Sem.run_bind, Sem.run_pure, Result.andThen_ok], vr_mk _ _ _ rfl⟩
  · exact h.elim

theorem ok_convert {T T' : TypeId} {x : Operand} (ho : o.op = .convert T T' x) (hd : dstOk C o = true) (hx : opndOk x = true) (h : (stConvert (P.underlying T) (P.underlying T') (evP σ.t x)).1) : OpOK P C o nid σ (stConvert (P.underlying T) (P.underlying T') (evP σ.t x)).2 := by
  unfold stConvert at h ⊢
  split at h
  · rename_i k0 k k1 n hu hu' hp
    refine .value hd fun E0 fr a E hs => ?_
    have ex := hs.eval x hx
    rw [hp] at ex
    have ex := vr_val ex
    exact ⟨.int k (k.wrap n), by simp only [execOp, ho, ex, convert, Conv.intToInt, Sem.run_bind, run_underlying hu, run_underlying hu', Sem.run_pure, Result.andThen_ok], vr_mk _ _ _ rfl⟩
  · exact h.elim

theorem ok_len {T : TypeId} {x : Operand} (ho : o.op = .call { callee := .builtin .len, args := #[x], argTypes := #[T] }) (hd : dstOk C o = true) (hx : opndOk x = true) (h : (stLen (P.underlying T) (evP σ.t x)).1) : OpOK P C o nid σ (stLen (P.underlying T) (evP σ.t x)).2 := by
  unfold stLen at h ⊢
  have run : ∀ {d : TypeDesc} (v u : Value) (w : World), P.underlying T = some d → (Builtin.len_ #[T] o.type #[v]).run P w = .ok u w → ∀ a : Act, a.eval x = v → (execOp a.eval o).run P w = .ok (.value u) w := by
    intro d v u w hu hr a ha
    simp only [execOp, ho, resolve, Sem.run_bind, Sem.run_pure, Result.andThen_ok, invoke, builtin, List.map_toArray, List.map_cons, List.map_nil, ha, hr]
  split at h
  all_goals first
    | exact h.elim
    | skip
  · rename_i e id sz off len hu hp
    refine .value hd fun E0 fr a E hs => ?_
    have ex := hs.eval x hx
    rw [hp] at ex
    generalize hax : a.eval x = vx at ex
    refine ⟨.int .i64 len, run vx _ E.w hu ?_ a hax, vr_mk _ _ _ rfl⟩
    cases ex <;> simp [Builtin.len_, run_underlying hu, goInt]
  · rename_i e es hu hp
    refine .value hd fun E0 fr a E hs => ?_
    have ex := hs.eval x hx
    rw [hp] at ex
    generalize hax : a.eval x = vx at ex
    refine ⟨.int .i64 es.length, run vx _ E.w hu ?_ a hax, vr_mk _ _ _ rfl⟩
    cases ex with
    | d _ _ h => cases h <;> simp [Builtin.len_, run_underlying hu, goInt]
  · rename_i e hu hp
    refine .value hd fun E0 fr a E hs => ?_
    have ex := hs.eval x hx
    rw [hp] at ex
    have ex := vr_val ex
    refine ⟨.int .i64 0, run _ _ E.w hu ?_ a ex, vr_mk _ _ _ rfl⟩
    simp [Builtin.len_, run_underlying hu, goInt]
  · rename_i s hu hp
    refine .value hd fun E0 fr a E hs => ?_
    have ex := hs.eval x hx
    rw [hp] at ex
    have ex := vr_val ex
    refine ⟨.int .i64 s.size, run _ _ E.w hu ?_ a ex, vr_mk _ _ _ rfl⟩
    simp [Builtin.len_, run_underlying hu, goInt]
  · rename_i n e hu
    refine .value hd fun E0 fr a E hs => ?_
    refine ⟨.int .i64 n, run _ _ E.w hu ?_ a rfl, vr_mk _ _ _ rfl⟩
    simp [Builtin.len_, run_underlying hu, goInt]

theorem ok_min {T T' : TypeId} {x y : Operand} (ho : o.op = .call { callee := .builtin .min, args := #[x, y], argTypes := #[T, T'] }) (hd : dstOk C o = true) (hx : opndOk x = true) (hy : opndOk y = true) (h : (stMin (evP σ.t x) (evP σ.t y)).1) : OpOK P C o nid σ (stMin (evP σ.t x) (evP σ.t y)).2 := by
  unfold stMin at h ⊢
  split at h
  · rename_i k u k' v hp hq
    refine .value hd fun E0 fr a E hs => ?_
    have ex := hs.eval x hx
    have ey := hs.eval y hy
    rw [hp] at ex
    rw [hq] at ey
    have ex := vr_val ex
    have ey := vr_val ey
    refine ⟨.int k (if v < u then v else u), ?_, vr_mk _ _ _ rfl⟩
    simp [execOp, ho, resolve, invoke, builtin, ex, ey, Builtin.min_, Builtin.min2]
  · exact h.elim

theorem ok_max {T T' : TypeId} {x y : Operand} (ho : o.op = .call { callee := .builtin .max, args := #[x, y], argTypes := #[T, T'] }) (hd : dstOk C o = true) (hx : opndOk x = true) (hy : opndOk y = true) (h : (stMax (evP σ.t x) (evP σ.t y)).1) : OpOK P C o nid σ (stMax (evP σ.t x) (evP σ.t y)).2 := by
  unfold stMax at h ⊢
  split at h
  · rename_i k u k' v hp hq
    refine .value hd fun E0 fr a E hs => ?_
    have ex := hs.eval x hx
    have ey := hs.eval y hy
    rw [hp] at ex
    rw [hq] at ey
    have ex := vr_val ex
    have ey := vr_val ey
    refine ⟨.int k (if v > u then v else u), ?_, vr_mk _ _ _ rfl⟩
    simp [execOp, ho, resolve, invoke, builtin, ex, ey, Builtin.max_, Builtin.max2]
  · exact h.elim

def stMakeFunc (t : Nat → PV) (fn : Fn) (first caps : Array Operand) : Out := (True, ⟨.fn fn (first.toList.map (evP t)) (caps.toList.map (evP t)), [], []⟩)

theorem ok_makeFunc {fn : Fn} {first caps : Array Operand} (ho : o.op = .makeFunc fn first caps) (hd : dstOk C o = true) (h1 : first.toList.all opndOk = true) (h2 : caps.toList.all opndOk = true) : OpOK P C o nid σ (stMakeFunc σ.t fn first caps).2 := by
  refine .value hd fun E0 fr a E hs => ?_
  refine ⟨.func fn (first.toList.map a.eval).toArray (caps.toList.map a.eval).toArray, ?_, .fn _ _ _ _ _ (by simp) (by simp) (fun j p v hp hv => ?_) (fun j p v hp hv => ?_)⟩
  · have e : ∀ xs : Array Operand, (xs.toList.map a.eval).toArray = xs.map a.eval := fun xs => by apply Array.ext'; simp
    simp [execOp, ho, Instr.makeFunc, e]
  · rw [List.getElem?_map] at hp hv
    cases hj : first.toList[j]? with
    | none => rw [hj] at hp; cases hp
    | some x =>
      rw [hj] at hp hv; cases hp; cases hv
      exact hs.eval x (List.all_eq_true.1 h1 x (List.mem_of_getElem? hj))
  · rw [List.getElem?_map] at hp hv
    cases hj : caps.toList[j]? with
    | none => rw [hj] at hp; cases hp
    | some x =>
      rw [hj] at hp hv; cases hp; cases hv
      exact hs.eval x (List.all_eq_true.1 h2 x (List.mem_of_getElem? hj))

end sound
end Go.PM
