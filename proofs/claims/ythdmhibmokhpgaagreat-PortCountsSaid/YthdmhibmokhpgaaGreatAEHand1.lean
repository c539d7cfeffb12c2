/- slices.Clone: a copy of a slice. -/
import Derived.Test.YthdmhibmokhpgaaGreatAEEq
import Derived.Maps.AppendAt
set_option linter.unusedVariables false
set_option linter.unusedSimpArgs false
namespace Go.AE

variable {P : Program}

/-- The text of slices.Clone, over a type of slices and the type of bools. -/
def cloneC (T B : Nat) : Code :=
  (Code.region 0 #[{ dst := some 2, op := Op.assign (Operand.const (Value.slice none 0 0)), type := T, pos := "slices.go:355", after := #[], guard := none }] false).seq
    (((Code.region 1 #[{ dst := some 3, op := Op.move (Operand.tmp 0), type := T, pos := "slices.go:357", after := #[], guard := none },
          { dst := some 4, op := Op.binOp BinOp.eql T (Operand.tmp 3) (Operand.const (Value.slice none 0 0)) T, type := B, pos := "slices.go:357", after := #[{ on := 0, ground := Ground.data }], guard := none }] false).seq
        (Code.cond (Operand.tmp 4)
          ((Code.region 2 #[{ dst := some 2, op := Op.assign (Operand.const (Value.slice none 0 0)), type := T, pos := "slices.go:358", after := #[], guard := none }] false).seq Code.ret)
          Code.skip)).seq
      ((Code.region 3
          #[{ dst := some 5, op := Op.buildSlice T 0 #[], type := T, pos := "slices.go:362", after := #[], guard := none },
            { dst := some 6, op := Op.move (Operand.tmp 0), type := T, pos := "slices.go:362", after := #[], guard := none },
            { dst := some 7, op := Op.call { callee := Callee.builtin Builtin.append, args := #[Operand.tmp 5, Operand.tmp 6], argTypes := #[T, T] }, type := T, pos := "slices.go:362",
              after := #[{ on := 0, ground := Ground.data }, { on := 1, ground := Ground.data }], guard := none },
            { dst := some 2, op := Op.assign (Operand.tmp 7), type := T, pos := "slices.go:362",
              after := #[{ on := 2, ground := Ground.data }, { on := 2, ground := Ground.chain }, { on := 0, ground := Ground.phase }, { on := 1, ground := Ground.phase }, { on := 2, ground := Ground.phase }], guard := none }]
          false).seq Code.ret))

theorem run_equalIn_nil {T e : Nat} (hu : P.underlying T = some (.slice e)) (p : Option Addr) (n cap d : Nat) (w : World) : (Op.equalIn (d + 1) T (.slice p n cap) (.slice none 0 0)).run P w = .ok p.isNone w := by
  cases p <;> (simp only [Op.equalIn, Sem.run_bind, run_underlying hu, Result.andThen_ok]; rfl)

theorem run_eql_nil {T e : Nat} (hu : P.underlying T = some (.slice e)) (p : Option Addr) (n cap : Nat) (x y : Operand) (w : World) :
    (do eqGuard .eql T x y (.slice p n cap) (.slice none 0 0); binOp .eql T (.slice p n cap) (.slice none 0 0)).run P w = .ok (.bool p.isNone) w := by
  have h : (Op.equal T (.slice p n cap) (.slice none 0 0)).run P w = .ok p.isNone w := run_equalIn_nil hu p n cap 9999 w
  simp [eqGuard, binOp, h] <;> rfl

theorem run_build_nil {T e : Nat} (hu : P.underlying T = some (.slice e)) {ti : TI} {i : TypeInfo} {d : TypeDesc} {z : Value} (ht : TyOk P e ti i d z) (w : World) :
    (Instr.buildSlice T 0 #[]).run P w = .ok (.slice (some ⟨w.heap.size, 0, Option.none⟩) 0 0) (w.alloc (.cells #[] e)) := by
  simp [Instr.buildSlice, run_underlying hu, run_size ht, newRow, Instr.fill, show Array.range 0 = #[] by simp]

theorem ReadAt.alloc {w : World} {p : Option Addr} {vals : List Value} (h : ReadAt w p vals) (o : Obj) : ReadAt (w.alloc o) p vals := fun j u hj => by
  obtain ⟨a, h1, h2, h3⟩ := h j u hj
  refine ⟨a, h1, h2, ?_⟩
  have hlt : a.block < w.heap.size := by
    unfold World.cell? at h3
    dsimp only at h3
    cases hb : w.heap[a.block]? with
    | none => rw [hb] at h3; cases h3
    | some x => exact (Array.getElem?_eq_some_iff.1 hb).1
  have hg := World.grownBy_alloc w o Option.none
  exact (grown_same hg hlt (by simp) (a.off + j)).cell h3

/-- An operation that tells a value. -/
theorem op_step {ops : Array Oper} {i : Nat} {o : Oper} {rest : List Nat} {a a' : Act} {w w' : World} {Q : Exit → Act → World → Prop} {u : Value} (ho : ops[i]? = some o) (hw : o.guard = Option.none) (hr : (execOp a.eval o).run P w = .ok (.value u) w') (ha : a.put o.dst u = a')
    (h : wpOps P ops Q rest a' w') : wpOps P ops Q (i :: rest) a w := by
  have hw' : Region.wanted o (yielded ops a.tmps) = true := by simp [Region.wanted, hw]
  simp only [wpOps, ho, hw', if_true]
  refine .inl ?_
  unfold Oper.wp
  rw [hr, Oper.upon_value, ha]
  exact h

abbrev aL (l : List Value) : Act := { tmps := l.toArray, defers := [] }

theorem clone_ok {g T B e : Nat} {t : STy} {fn : Func} (hat : FnAt P g fn) (hbody : fn.body = some (cloneC T B)) (hres : fn.results = #[.tmp 2]) (htm : fn.ntmps = 8) (hu : P.underlying T = some (.slice e)) {ti : TI} (hti : tiOf P e = some ti)
    (hsz : ti.size = t.sz) (hzl : ti.zero.length = t.sz) (hby : ti.bytes ≤ 32768) : CloneOk P g e t := by
  refine ⟨hat.enter (by rw [hbody]; rfl), fun w p n cap vals hvl hr h1 hn => ?_⟩
  obtain ⟨i, d, z, ht⟩ := tiOf_spec hti
  refine calls_of_wp hat.at_ hbody ?_
  rw [htm]
  let s : Value := .slice p n cap
  let nl : Value := .slice Option.none 0 0
  show (cloneC T B).wp P _ (aL [s, undef, undef, undef, undef, undef, undef, undef]) w
  have hpos : 0 < ti.size := by rw [hsz]; exact sz_pos t
  have hout : ∀ (l : List Value) (w' : World) (p' : Option Addr) (cap' : Nat), l[2]? = some (.slice p' n cap') → w.grownBy w' Option.none → OwnV w' e t.sz (.slice p' n cap') n vals → (∀ b, blk (.slice p' n cap') = some b → w.heap.size ≤ b ∧ b < w'.heap.size) →
      bodyPost P fn (fun e' w' => ∃ p' cap', e' = .returned (.slice p' n cap') ∧ w.grownBy w' Option.none ∧ OwnV w' e t.sz (.slice p' n cap') n vals ∧ ∀ b, blk (.slice p' n cap') = some b → w.heap.size ≤ b ∧ b < w'.heap.size) .ret (aL l) w' := by
    intro l w' p' cap' h2 hg hO hb
    refine ⟨rfl, .slice p' n cap', ?_, p', cap', rfl, hg, hO, hb⟩
    simp [results, hres, h2]
  refine wp_seq (wp_region (op_step (a' := aL [s, undef, nl, undef, undef, undef, undef, undef]) (u := nl) rfl rfl rfl rfl ?_))
  refine wp_seq (wp_seq (wp_region (op_step (a' := aL [s, undef, nl, s, undef, undef, undef, undef]) (u := s) rfl rfl rfl rfl (op_step (a' := aL [s, undef, nl, s, .bool p.isNone, undef, undef, undef]) rfl rfl (u := .bool p.isNone) (w' := w) ?_ rfl ?_))))
  · have h : (Op.equal T (.slice p n cap) (.slice Option.none 0 0)).run P w = .ok p.isNone w := run_equalIn_nil hu p n cap 9999 w
    simp [execOp, Act.eval, eqGuard, binOp, s, h]
  cases hp : p with
  | none =>
    have hn0 : n = 0 := by
      rcases Nat.eq_zero_or_pos n with h0 | h0
      · exact h0
      · obtain ⟨a, ha⟩ := hr.nil_or (by rw [hvl]; exact Nat.mul_pos h0 (sz_pos t))
        rw [hp] at ha
        cases ha
    refine wp_cond_true rfl (wp_seq (wp_region (op_step (a' := aL [s, undef, nl, s, .bool true, undef, undef, undef]) (u := nl) rfl rfl rfl rfl (wp_ret ?_))))
    exact hout _ _ Option.none 0 (by rw [hn0]; rfl) (World.grownBy.refl _ _) ⟨hvl, .inl ⟨_, by rw [hn0], hn0⟩⟩ (fun b hb => by cases hb)
  | some ap =>
    refine wp_cond_false rfl (wp_skip ?_)
    have hvl' : vals.length = n * ti.size := by rw [hsz]; exact hvl
    have hbuild := run_build_nil hu ht w
    have hrd := hr.alloc (.cells #[] e)
    have hg0 : w.grownBy (w.alloc (.cells #[] e)) Option.none := World.grownBy_alloc w _ _
    let nw : Value := .slice (some ⟨w.heap.size, 0, Option.none⟩) 0 0
    refine wp_seq (wp_region (op_step (a' := aL [s, undef, nl, s, .bool false, nw, undef, undef]) rfl rfl (u := nw) (w' := w.alloc (.cells #[] e)) ?_ rfl (op_step (a' := aL [s, undef, nl, s, .bool false, nw, s, undef]) (u := s) rfl rfl rfl rfl ?_)))
    · simp [execOp, hbuild, nw]
    rcases Nat.eq_zero_or_pos n with hz | hz
    · have hrun := run_append_zero hu ht T (some ⟨w.heap.size, 0, Option.none⟩) (some ap) 0 0 cap (Nat.le_refl _) (w.alloc (.cells #[] e))
      refine op_step (a' := aL [s, undef, nl, s, .bool false, nw, s, nw]) rfl rfl (u := nw) (w' := w.alloc (.cells #[] e)) ?_ rfl (op_step (a' := aL [s, undef, nw, s, .bool false, nw, s, nw]) (u := nw) rfl rfl rfl rfl (wp_ret (hout _ _ (some ⟨w.heap.size, 0, Option.none⟩) 0 (by rw [hz]; rfl) hg0 ⟨hvl, .inl ⟨_, by rw [hz], hz⟩⟩ fun b hb => by cases hb)))
      simp [execOp, resolve, invoke, builtin, Act.eval, s, nw, hp, hz, hrun]
    · obtain ⟨cap', w', hrun, hg, hlt, hO⟩ := run_append_new (p := some ⟨w.heap.size, 0, Option.none⟩) (q := some ap) (n := 0) (cap := 0) (m := n) (c := cap) (olds := []) (news := vals) (w := w.alloc (.cells #[] e)) hu ht (by rw [hzl, hsz]) hby hpos T (by simp) (fun j u h => (by simp at h)) hvl' (hp ▸ hrd) (Nat.le_refl _) hz (by omega) (by omega) (fun h => by cases h)
      simp only [Nat.zero_add, List.nil_append] at hrun hO
      rw [hsz] at hO
      let rv : Value := .slice (some ⟨(w.alloc (.cells #[] e)).heap.size, 0, Option.none⟩) n cap'
      refine op_step (a' := aL [s, undef, nl, s, .bool false, nw, s, rv]) rfl rfl (u := rv) (w' := w') ?_ rfl (op_step (a' := aL [s, undef, rv, s, .bool false, nw, s, rv]) (u := rv) rfl rfl rfl rfl (wp_ret (hout _ _ _ cap' rfl (hg0.trans hg) hO fun b hb => ?_)))
      · simp [execOp, resolve, invoke, builtin, Act.eval, s, nw, rv, hp, hrun]
      · have := blk_new (n := n) (cap := cap') hlt b hb
        exact ⟨Nat.le_trans hg0.size this.1, this.2⟩

end Go.AE
