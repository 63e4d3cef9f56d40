/- The pure machine: arrays and structs of scalars compared. -/
import Derived.Test.YtmljpbhmdjpbaaaPm7
import Derived.ChangeKeysEq
import Derived.Laws.StructEq
namespace Go.PM
set_option linter.unusedVariables false
set_option linter.unusedSimpArgs false

/-- The kind of a cell of a type that can be compared. -/
inductive LK where
  | bool
  | int (k : IntKind)
  | str
deriving DecidableEq

def flatFs (rec : TypeId → Option (List LK)) : List Field → Nat → Option (List LK)
  | [], _ => some []
  | f :: fs, off => if f.offset = off ∧ f.name ≠ "_" then
      (match rec f.type with
      | some ks => (flatFs rec fs (off + ks.length)).map (ks ++ ·)
      | none => none)
    else none

def rep (n : Nat) (ks : List LK) : List LK := match n with | 0 => [] | n + 1 => ks ++ rep n ks

/-- The cells' kinds of a type. -/
def flatK (P : Program) : Nat → TypeId → Option (List LK)
  | 0, _ => none
  | d + 1, t => match P.underlying t with
    | some .bool => if P.cellsOf t = 1 then some [.bool] else none
    | some (.int k) => if P.cellsOf t = 1 then some [.int k] else none
    | some .string => if P.cellsOf t = 1 then some [.str] else none
    | some (.array n e) => match flatK P d e with
      | some ks => if P.cellsOf e = ks.length ∧ P.cellsOf t = n * ks.length then some (rep n ks) else none
      | none => none
    | some (.struct fs) => if P.stoodInHeld t then none else match flatFs (flatK P d) fs.toList 0 with
      | some ks => if P.cellsOf t = ks.length then some ks else none
      | none => none
    | _ => none

def tEq (P : Program) (t : TypeId) : Option (List LK) :=
  match P.underlying t with
  | some (.array _ _) | some (.struct _) => if P.eqGuardType P.depth t then none else flatK P 8 t
  | _ => none

def LK.eqv : LK → Value → Value → Option Bool
  | .bool, .bool a, .bool b => some (a == b)
  | .int _, .int k a, .int k' b => if k = k' then some (a == b) else none
  | .str, .string a, .string b => some (a == b)
  | _, _, _ => none

def eqvL : List LK → List Value → List Value → Option Bool
  | [], [], [] => some true
  | k :: ks, x :: xs, y :: ys => match k.eqv x y, eqvL ks xs ys with
    | some a, some b => some (a && b)
    | _, _ => none
  | _, _, _ => none

theorem eqvL_len : ∀ (ks : List LK) (xs ys : List Value) (r : Bool), eqvL ks xs ys = some r → xs.length = ks.length ∧ ys.length = ks.length
  | [], [], [], _, _ => ⟨rfl, rfl⟩
  | k :: ks, x :: xs, y :: ys, r, h => by
    unfold eqvL at h
    split at h
    · rename_i h1 h2
      have := eqvL_len ks xs ys _ h2
      simp [this.1, this.2]
    · cases h
  | [], _ :: _, _, _, h => by simp [eqvL] at h
  | [], [], _ :: _, _, h => by simp [eqvL] at h
  | _ :: _, [], _, _, h => by simp [eqvL] at h
  | _ :: _, _ :: _, [], _, h => by simp [eqvL] at h

theorem eqvL_append : ∀ (ks ks' : List LK) (xs ys : List Value) (r : Bool), eqvL (ks ++ ks') xs ys = some r →
    ∃ a b, eqvL ks (xs.take ks.length) (ys.take ks.length) = some a ∧ eqvL ks' (xs.drop ks.length) (ys.drop ks.length) = some b ∧ r = (a && b)
  | [], ks', xs, ys, r, h => ⟨true, r, by simp [eqvL], by simpa using h, by simp⟩
  | k :: ks, ks', [], _, r, h => by simp [eqvL] at h
  | k :: ks, ks', _ :: _, [], r, h => by simp [eqvL] at h
  | k :: ks, ks', x :: xs, y :: ys, r, h => by
    rw [List.cons_append, eqvL] at h
    split at h
    · rename_i a b h1 h2
      cases h
      obtain ⟨a', b', g1, g2, rfl⟩ := eqvL_append ks ks' xs ys b h2
      refine ⟨a && a', b', ?_, by simpa using g2, by rw [Bool.and_assoc]⟩
      simp [eqvL, h1, g1]
    · cases h

theorem rep_len (n : Nat) (ks : List LK) : (rep n ks).length = n * ks.length := by
  induction n with
  | zero => simp [rep]
  | succ n ih => rw [rep, List.length_append, ih, Nat.add_mul]; omega

/-- A value, by its cells. -/
def Stands (P : Program) (t : TypeId) (v : Value) (vs : List Value) : Prop :=
  match P.underlying t with
  | some (.array _ _) | some (.struct _) => v = .agg vs.toArray
  | _ => vs = [v]

section
variable {P : Program}

theorem run_part_stands {e : TypeId} {xs : Array Value} {off n : Nat} {d : Nat} {ks : List LK} (hk : flatK P d e = some ks) (hn : n = ks.length) (hoff : off + n ≤ xs.size) (w : World) :
    ∃ a, (part e xs off).run P w = .ok a w ∧ Stands P e a ((xs.toList.drop off).take n) := by
  subst hn
  cases d with
  | zero => simp [flatK] at hk
  | succ d =>
    unfold flatK at hk
    have plain : ∀ kd, P.underlying e = some kd → (∀ n e', kd ≠ .array n e') → (∀ fs, kd ≠ .struct fs) → ks.length = 1 → ∃ a, (part e xs off).run P w = .ok a w ∧ Stands P e a ((xs.toList.drop off).take ks.length) := by
      intro kd hu h1 h2 hl
      rw [hl] at hoff ⊢
      have hlt : off < xs.size := by omega
      refine ⟨xs[off], ?_, ?_⟩
      · have : (isAgg e).run P w = .ok false w := by
          unfold isAgg
          simp only [Sem.run_bind, run_underlying hu, Result.andThen_ok]
          cases kd <;> first | rfl | exact absurd rfl (h1 _ _) | exact absurd rfl (h2 _)
        unfold part
        simp only [Sem.run_bind, this, Result.andThen_ok, Bool.false_eq_true, if_false]
        rw [Array.getElem?_eq_getElem hlt]
        rfl
      · unfold Stands
        rw [hu]
        have : (xs.toList.drop off).take 1 = [xs[off]] := by
          rw [List.take_one]
          simp [List.head?_drop, hlt]
        cases kd <;> first | exact this | exact absurd rfl (h1 _ _) | exact absurd rfl (h2 _)
    have agg : ∀ kd, P.underlying e = some kd → ((∃ n e', kd = .array n e') ∨ (∃ fs, kd = .struct fs)) → P.cellsOf e = ks.length → ∃ a, (part e xs off).run P w = .ok a w ∧ Stands P e a ((xs.toList.drop off).take ks.length) := by
      intro kd hu hkd hc
      obtain ⟨i, hi⟩ := info_of_underlying hu
      refine ⟨.agg (xs.extract off (off + P.cellsOf e)), ?_, ?_⟩
      · have : (isAgg e).run P w = .ok true w := by
          unfold isAgg
          simp only [Sem.run_bind, run_underlying hu, Result.andThen_ok]
          rcases hkd with ⟨n, e', rfl⟩ | ⟨fs, rfl⟩ <;> rfl
        unfold part
        simp only [Sem.run_bind, this, Result.andThen_ok, if_true, run_sizeOf w hi, Sem.run_pure]
      · unfold Stands
        rw [hu]
        have e1 : Value.agg (xs.extract off (off + P.cellsOf e)) = .agg ((xs.toList.drop off).take ks.length).toArray := by
          congr 1
          apply Array.ext'
          rw [Array.toList_extract, hc]
          simp [List.extract]
        rcases hkd with ⟨n, e', rfl⟩ | ⟨fs, rfl⟩ <;> exact e1
    split at hk
    · rename_i hu
      split at hk
      · cases hk; exact plain _ hu (by simp) (by simp) rfl
      · cases hk
    · rename_i k hu
      split at hk
      · cases hk; exact plain _ hu (by simp) (by simp) rfl
      · cases hk
    · rename_i hu
      split at hk
      · cases hk; exact plain _ hu (by simp) (by simp) rfl
      · cases hk
    · rename_i n e' hu
      split at hk
      · split at hk
        · rename_i ks' hks' hc
          cases hk
          have hrep := rep_len n ks'
          exact agg _ hu (.inl ⟨_, _, rfl⟩) (by rw [hrep]; exact hc.2)
        · cases hk
      · cases hk
    · rename_i fs hu
      split at hk
      · cases hk
      · split at hk
        · rename_i ks' hks'
          split at hk
          · rename_i hc
            cases hk
            exact agg _ hu (.inr ⟨_, rfl⟩) hc
          · cases hk
        · cases hk
    · cases hk

def EqOk (P : Program) (D : Nat) (t : TypeId) (ks : List LK) : Prop :=
  ∀ (w : World) (x y : Value) (xs ys : List Value) (r : Bool), Stands P t x xs → Stands P t y ys → eqvL ks xs ys = some r → (Op.equalIn D t x y).run P w = .ok r w

theorem run_eqItems_stands {d D : Nat} {e : TypeId} {ks : List LK} (hk : flatK P d e = some ks) (hc : P.cellsOf e = ks.length) (IH : EqOk P D e ks) (w : World) (xs ys : Array Value) : ∀ (n i : Nat) (r : Bool), (i + n) * ks.length ≤ xs.size → (i + n) * ks.length ≤ ys.size →
    eqvL (rep n ks) ((xs.toList.drop (i * ks.length)).take (n * ks.length)) ((ys.toList.drop (i * ks.length)).take (n * ks.length)) = some r → (Op.eqItems D e (P.cellsOf e) xs ys (List.range' i n)).run P w = .ok r w
  | 0, i, r, _, _, h => by
    simp [rep, eqvL] at h
    subst h
    simp [Op.eqItems]
  | n + 1, i, r, hx, hy, h => by
    have e0 : (i + (n + 1)) * ks.length = i * ks.length + ks.length + n * ks.length := by
      rw [Nat.add_mul, Nat.add_mul]; omega
    have e1 : (n + 1) * ks.length = ks.length + n * ks.length := by rw [Nat.add_mul]; omega
    have e2 : (i + 1) * ks.length = i * ks.length + ks.length := by rw [Nat.add_mul]; omega
    rw [rep] at h
    obtain ⟨a, b, h1, h2, rfl⟩ := eqvL_append _ _ _ _ _ h
    rw [List.take_take, List.take_take, Nat.min_eq_left (by omega)] at h1
    rw [List.drop_take, List.drop_take, List.drop_drop, List.drop_drop, e1, Nat.add_sub_cancel_left, ← e2] at h2
    obtain ⟨a1, p1, s1⟩ := run_part_stands (xs := xs) (off := i * ks.length) hk rfl (by omega) w
    obtain ⟨a2, p2, s2⟩ := run_part_stands (xs := ys) (off := i * ks.length) hk rfl (by omega) w
    have p3 := IH w a1 a2 _ _ a s1 s2 h1
    have ih := run_eqItems_stands hk hc IH w xs ys n (i + 1) b (by rw [show i + 1 + n = i + (n + 1) by omega]; exact hx) (by rw [show i + 1 + n = i + (n + 1) by omega]; exact hy) h2
    rw [List.range'_succ]
    simp only [Op.eqItems, hc] at ih ⊢
    simp only [Sem.run_bind, p1, p2, p3, Result.andThen_ok]
    cases a
    · simp
    · simpa using ih

theorem run_eqFields_stands {d D : Nat} (IH : ∀ (t : TypeId) ks, flatK P d t = some ks → EqOk P D t ks) (w : World) (xs ys : Array Value) : ∀ (fs : List Field) (off : Nat) (ks : List LK) (r : Bool), flatFs (flatK P d) fs off = some ks → off + ks.length ≤ xs.size → off + ks.length ≤ ys.size →
    eqvL ks ((xs.toList.drop off).take ks.length) ((ys.toList.drop off).take ks.length) = some r → (Op.eqFields D xs ys fs).run P w = .ok r w
  | [], off, ks, r, hf, _, _, h => by
    simp only [flatFs, Option.some.injEq] at hf
    subst hf
    simp [eqvL] at h
    subst h
    simp [Op.eqFields]
  | f :: fs, off, ks, r, hf, hx, hy, h => by
    unfold flatFs at hf
    split at hf
    · rename_i hof
      split at hf
      · rename_i k1 hk1
        simp only [Option.map_eq_some_iff] at hf
        obtain ⟨k2, hk2, rfl⟩ := hf
        rw [List.length_append] at hx hy h
        obtain ⟨a, b, h1, h2, rfl⟩ := eqvL_append _ _ _ _ _ h
        rw [List.take_take, List.take_take, Nat.min_eq_left (by omega)] at h1
        rw [List.drop_take, List.drop_take, List.drop_drop, List.drop_drop, Nat.add_sub_cancel_left] at h2
        obtain ⟨hoff, hname⟩ := hof
        obtain ⟨a1, p1, s1⟩ := run_part_stands (xs := xs) (off := off) hk1 rfl (by omega) w
        obtain ⟨a2, p2, s2⟩ := run_part_stands (xs := ys) (off := off) hk1 rfl (by omega) w
        have p3 := IH f.type k1 hk1 w a1 a2 _ _ a s1 s2 h1
        have ih := run_eqFields_stands IH w xs ys fs (off + k1.length) k2 b hk2 (by omega) (by omega) h2
        simp only [Op.eqFields, hname, ne_eq, not_false_eq_true, if_true, hoff, Sem.run_bind, p1, p2, p3, Result.andThen_ok]
        cases a
        · simp
        · simpa using ih
      · cases hf
    · cases hf

theorem run_equalIn_flat (D0 : Nat) : ∀ (d : Nat) (t : TypeId) (ks : List LK), flatK P d t = some ks → EqOk P (D0 + d) t ks
  | 0, _, _, h => by simp [flatK] at h
  | d + 1, t, ks, h => by
    intro w x y xs ys r sx sy hr
    obtain ⟨hlx, hly⟩ := eqvL_len _ _ _ _ hr
    unfold flatK at h
    have one : ∀ k : LK, ks = [k] → ∃ a b, xs = [a] ∧ ys = [b] ∧ k.eqv a b = some r := by
      intro k hk
      subst hk
      match xs, ys, hlx, hly with
      | [a], [b], _, _ =>
        refine ⟨a, b, rfl, rfl, ?_⟩
        unfold eqvL at hr
        split at hr
        · rename_i h1 h2
          simp [eqvL] at h2
          subst h2
          cases hr
          simpa using h1
        · cases hr
    split at h
    · rename_i hu
      split at h
      · cases h
        obtain ⟨a, b, rfl, rfl, he⟩ := one _ rfl
        simp only [Stands, hu] at sx sy
        cases sx; cases sy
        unfold LK.eqv at he
        split at he <;> simp_all
        subst he
        exact run_equalIn_bool _ t hu _ _ w
      · cases h
    · rename_i k hu
      split at h
      · cases h
        obtain ⟨a, b, rfl, rfl, he⟩ := one _ rfl
        simp only [Stands, hu] at sx sy
        cases sx; cases sy
        unfold LK.eqv at he
        split at he
        · simp_all
        · split at he
          · rename_i hkk
            cases he
            subst hkk
            exact run_equalIn_int w _ t _ _ _ _ hu
          · cases he
        · simp_all
        · cases he
      · cases h
    · rename_i hu
      split at h
      · cases h
        obtain ⟨a, b, rfl, rfl, he⟩ := one _ rfl
        simp only [Stands, hu] at sx sy
        cases sx; cases sy
        unfold LK.eqv at he
        split at he
        · simp_all
        · simp_all
        · cases he
          rw [show D0 + (d + 1) = (D0 + d) + 1 from rfl, run_equalIn_string w _ t _ _ hu, beq_toListBytes]
        · cases he
      · cases h
    · rename_i n e hu
      split at h
      · rename_i k1 hk1
        split at h
        · rename_i hc
          cases h
          simp only [Stands, hu] at sx sy
          subst sx; subst sy
          obtain ⟨i, hi⟩ : ∃ i, P.info? e = some i := by
            cases d with
            | zero => simp [flatK] at hk1
            | succ d =>
              unfold flatK at hk1
              cases hue : P.underlying e with
              | none => simp [hue] at hk1
              | some _ => exact info_of_underlying hue
          rw [show D0 + (d + 1) = (D0 + d) + 1 from rfl, run_equalIn_array w (D0 + d) _ _ hu hi, List.range_eq_range']
          rw [rep_len] at hlx hly
          refine run_eqItems_stands hk1 hc.1 (run_equalIn_flat D0 d e k1 hk1) w _ _ n 0 r (by simp [hlx]) (by simp [hly]) ?_
          simp only [Nat.zero_mul, List.drop_zero]
          rw [List.take_of_length_le (by simp [hlx]), List.take_of_length_le (by simp [hly])]
          exact hr
        · cases h
      · cases h
    · rename_i fs hu
      split at h
      · cases h
      · rename_i hst
        split at h
        · rename_i k1 hk1
          split at h
          · cases h
            simp only [Stands, hu] at sx sy
            subst sx; subst sy
            have hfs : P.fieldsOf t = fs := by simp [Program.fieldsOf, hu]
            rw [show D0 + (d + 1) = (D0 + d) + 1 from rfl, run_equalIn_struct w (D0 + d) t _ _ (by rw [hfs]; exact hu) (by simpa using hst), hfs]
            refine run_eqFields_stands (fun t ks hk => run_equalIn_flat D0 d t ks hk) w _ _ fs.toList 0 _ r hk1 (by simp [hlx]) (by simp [hly]) ?_
            simp only [List.drop_zero]
            rw [List.take_of_length_le (by simp [hlx]), List.take_of_length_le (by simp [hly])]
            exact hr
          · cases h
        · cases h
    · cases h

/-- The values in cells that hold scalars. -/
def valsOf : List PV → Option (List Value)
  | [] => some []
  | .d (.val v) :: r => (valsOf r).map (v :: ·)
  | _ :: _ => none

theorem valsOf_vr {rd : Rd} {β : Bt} : ∀ (cs : List PV) (xs vs : List Value), valsOf cs = some xs → vs.length = cs.length → (∀ (j : Nat) p v, cs[j]? = some p → vs[j]? = some v → VR rd β p v) → vs = xs
  | [], _, vs, h, hl, _ => by cases h; exact List.length_eq_zero_iff.1 hl
  | c :: cs, xs, [], _, hl, _ => by cases hl
  | c :: cs, xs, v :: vs, h, hl, hr => by
    unfold valsOf at h
    split at h
    · rename_i h0; cases h0
    · rename_i u r h0
      cases h0
      simp only [Option.map_eq_some_iff] at h
      obtain ⟨xs', hxs, rfl⟩ := h
      have h1 := vr_val (hr 0 _ v rfl rfl)
      rw [h1, valsOf_vr cs xs' vs hxs (by simpa using hl) (fun j p v hp hv => hr (j + 1) p v (by simpa using hp) (by simpa using hv))]
    · cases h

/-- Arrays or structs compared. -/
def stAggEq (tb : Option (List LK)) (op : BinOp) (cs cs' : List PV) : Out :=
  match tb, valsOf cs, valsOf cs' with
  | some ks, some xs, some ys => match eqvL ks xs ys, op with
    | some r, .eql => (True, ⟨.b r, [], []⟩)
    | some r, .neq => (True, ⟨.b (!r), [], []⟩)
    | _, _ => nope
  | _, _, _ => nope

variable {C : Cx} {o : Oper} {nid : Nat} {σ : Core}

theorem ok_aggEq {op : BinOp} {T T' : TypeId} {x y : Operand} {cs cs' : List PV} (ho : o.op = .binOp op T x y T') (hd : dstOk C o = true) (hx : opndOk x = true) (hy : opndOk y = true) (h1 : evP σ.t x = .agg cs) (h2 : evP σ.t y = .agg cs') (h : (stAggEq (tEq P T) op cs cs').1) :
    OpOK P C o nid σ (stAggEq (tEq P T) op cs cs').2 := by
  unfold stAggEq at h ⊢
  split at h
  · rename_i ks xs ys htb hxs hys
    have hT : (∃ n e, P.underlying T = some (.array n e)) ∨ (∃ fs, P.underlying T = some (.struct fs)) := by
      unfold tEq at htb
      split at htb
      · exact .inl ⟨_, _, by assumption⟩
      · exact .inr ⟨_, by assumption⟩
      · cases htb
    have hg : P.eqGuardType P.depth T = false ∧ flatK P 8 T = some ks := by
      unfold tEq at htb
      rcases hT with ⟨n, e, hu⟩ | ⟨fs, hu⟩
      · rw [hu] at htb
        simp only at htb
        split at htb
        · cases htb
        · rename_i hh; exact ⟨by simpa using hh, htb⟩
      · rw [hu] at htb
        simp only at htb
        split at htb
        · cases htb
        · rename_i hh; exact ⟨by simpa using hh, htb⟩
    have key : ∀ r, eqvL ks xs ys = some r → ∀ (E0 : Env) (fr : Nat → Prop) (a : Act) (E : Env), SatF E0 C fr σ a E → ∃ v v' : Value, a.eval x = v ∧ a.eval y = v' ∧ (eqGuard op T x y v v').run P E.w = .ok () E.w ∧
        (binOp .eql T v v').run P E.w = .ok (.bool r) E.w ∧ (binOp .neq T v v').run P E.w = .ok (.bool (!r)) E.w := by
      intro r hr E0 fr a E hs
      have e1 := hs.eval x hx
      have e2 := hs.eval y hy
      rw [h1] at e1
      rw [h2] at e2
      obtain ⟨vs, hv, hvl, _, hvr⟩ := vr_agg e1
      obtain ⟨us, hu, hul, _, hur⟩ := vr_agg e2
      have := valsOf_vr cs xs vs hxs hvl hvr
      subst this
      have := valsOf_vr cs' ys us hys hul hur
      subst this
      have sx : Stands P T (.agg vs.toArray) vs := by
        unfold Stands
        rcases hT with ⟨n, e, hu⟩ | ⟨fs, hu⟩ <;> rw [hu]
      have sy : Stands P T (.agg us.toArray) us := by
        unfold Stands
        rcases hT with ⟨n, e, hu⟩ | ⟨fs, hu⟩ <;> rw [hu]
      have hq := run_equalIn_flat (P := P) 9992 8 T ks hg.2 E.w _ _ _ _ r sx sy hr
      refine ⟨_, _, hv, hu, run_eqGuard_agg E.w op T x y _ _ hg.1, ?_, ?_⟩
      · rw [run_eql_struct, hq]; rfl
      · rw [run_neq_struct, hq]; rfl
    cases hr : eqvL ks xs ys with
    | none => rw [hr] at h; exact h.elim
    | some r =>
      rw [hr] at h
      cases op
      case eql =>
        refine .value hd fun E0 fr a E hs => ?_
        obtain ⟨v, v', a1, a2, a3, a4, a5⟩ := key r hr E0 fr a E hs
        exact ⟨.bool r, by simp only [execOp, ho, a1, a2, Sem.run_bind, a3, a4, Result.andThen_ok, Sem.run_pure], vr_mk _ _ _ rfl⟩
      case neq =>
        refine .value hd fun E0 fr a E hs => ?_
        obtain ⟨v, v', a1, a2, a3, a4, a5⟩ := key r hr E0 fr a E hs
        exact ⟨.bool (!r), by simp only [execOp, ho, a1, a2, Sem.run_bind, a3, a5, Result.andThen_ok, Sem.run_pure], vr_mk _ _ _ rfl⟩
      all_goals exact h.elim
  · exact h.elim

end
end Go.PM
