/- Arguments, read: what can be read as data is told by plain data. -/
import Derived.Test.YthdmhibmokhpgaaGreatAERow
import Derived.ChangeArms
import Derived.OpenShut
set_option linter.unusedVariables false
set_option linter.unusedSimpArgs false
namespace Go.AE

variable {P : Program} {H : Type} {enc : TypeId × Value → H}

/-- The kind of a cell. -/
inductive LK where
  | i (k : IntKind) | b | s | sl (t : STy)

def lkEq : List LK → List LK → Bool
  | [], [] => true
  | .i k :: r, .i l :: s => isKind k l && lkEq r s
  | .b :: r, .b :: s => lkEq r s
  | .s :: r, .s :: s => lkEq r s
  | .sl k :: r, .sl l :: s => STy.eq k l && lkEq r s
  | _, _ => false

theorem lkEq_eq : ∀ {r s : List LK}, lkEq r s = true → r = s
  | [], [], _ => rfl
  | .i k :: r, .i l :: s, h => by
    simp only [lkEq, Bool.and_eq_true] at h
    rw [isKind_eq h.1, lkEq_eq h.2]
  | .b :: r, .b :: s, h => by rw [lkEq_eq (r := r) (s := s) h]
  | .s :: r, .s :: s, h => by rw [lkEq_eq (r := r) (s := s) h]
  | .sl k :: r, .sl l :: s, h => by
    simp only [lkEq, Bool.and_eq_true] at h
    rw [STy.eq_eq h.1, lkEq_eq h.2]
  | [], _ :: _, h => by simp [lkEq] at h
  | .i _ :: _, [], h => by simp [lkEq] at h
  | .i _ :: _, .b :: _, h => by simp [lkEq] at h
  | .i _ :: _, .s :: _, h => by simp [lkEq] at h
  | .i _ :: _, .sl _ :: _, h => by simp [lkEq] at h
  | .b :: _, [], h => by simp [lkEq] at h
  | .b :: _, .i _ :: _, h => by simp [lkEq] at h
  | .b :: _, .s :: _, h => by simp [lkEq] at h
  | .b :: _, .sl _ :: _, h => by simp [lkEq] at h
  | .s :: _, [], h => by simp [lkEq] at h
  | .s :: _, .i _ :: _, h => by simp [lkEq] at h
  | .s :: _, .b :: _, h => by simp [lkEq] at h
  | .s :: _, .sl _ :: _, h => by simp [lkEq] at h
  | .sl _ :: _, [], h => by simp [lkEq] at h
  | .sl _ :: _, .i _ :: _, h => by simp [lkEq] at h
  | .sl _ :: _, .b :: _, h => by simp [lkEq] at h
  | .sl _ :: _, .s :: _, h => by simp [lkEq] at h

def kindsOf : STy → List LK
  | .int => [.i .i64]
  | .u16 => [.i .u16]
  | .bool => [.b]
  | .str => [.s]
  | .frame => [.i .i64, .i .i64, .i .i64, .i .i64, .i .i64, .i .i64, .i .i64, .i .i64, .i .i64, .i .i64, .sl .int]
  | .core => [.sl .frame, .i .i64, .i .i64, .i .i64, .i .i64, .i .i64, .sl .int]
  | .ev => [.i .i64, .i .i64, .i .i64, .i .i64, .i .i64]
  | .call => [.i .i64, .i .i64, .i .i64]
  | .calls => [.sl .call]
  | .past => [.i .i64, .i .i64, .i .i64, .i .i64, .i .i64, .i .i64, .i .i64, .i .i64]
  | .thread => [.sl .call, .i .i64, .i .i64, .sl .past]
  | .step => [.i .i64, .b]
  | .move => [.i .i64, .i .i64]
  | .pair => [.i .i64, .i .i64]
  | .ints => [.sl .int]

theorem kinds_len (t : STy) : (kindsOf t).length = t.sz := by cases t <;> rfl

def repK (n : Nat) (l : List LK) : List LK := match n with
  | 0 => []
  | n + 1 => l ++ repK n l

def leafFs (L : Nat → Option (List LK)) (P : Program) : List Field → Nat → Option (List LK)
  | [], _ => some []
  | f :: r, off => if f.offset = off then match L f.type with
      | some ks => if P.cellsOf f.type = ks.length then match leafFs L P r (off + ks.length) with
          | some l => some (ks ++ l)
          | none => none
        else none
      | none => none
    else none

/-- The kinds of the cells of a type. -/
def leafK (P : Program) (sty : Nat → Option STy) : Nat → Nat → Option (List LK)
  | 0, _ => none
  | d + 1, T => match P.underlying T with
    | some (.int k) => some [.i k]
    | some .bool => some [.b]
    | some .string => some [.s]
    | some (.slice e) => match sty e, leafK P sty d e with
      | some t, some ks => if lkEq ks (kindsOf t) = true ∧ P.cellsOf e = ks.length then some [.sl t] else none
      | _, _ => none
    | some (.array n e) => match leafK P sty d e with
      | some ks => if P.cellsOf e = ks.length ∧ P.cellsOf T = n * ks.length then some (repK n ks) else none
      | none => none
    | some (.struct fs) => match leafFs (leafK P sty d) P fs.toList 0 with
      | some ks => if P.cellsOf T = ks.length then some ks else none
      | none => none
    | _ => none

/-- Values of such kinds, numbers within their kinds' bounds. -/
inductive Fit : List V → List LK → Prop
  | nil : Fit [] []
  | i (k : IntKind) (n : Int) (vs : List V) (ks : List LK) (hn : (Lit.int k n).wf = true) (h : Fit vs ks) : Fit (.i k n :: vs) (.i k :: ks)
  | b (x : Bool) (vs : List V) (ks : List LK) (h : Fit vs ks) : Fit (.b x :: vs) (.b :: ks)
  | s (x : List UInt8) (vs : List V) (ks : List LK) (hn : x.length ≤ maxLen) (h : Fit vs ks) : Fit (.s x :: vs) (.s :: ks)
  | sl (t : STy) (xs : List (El t)) (vs : List V) (ks : List LK) (hn : xs.length ≤ maxLen) (hx : ∀ x ∈ xs, Fit (cellsOf t x) (kindsOf t)) (h : Fit vs ks) : Fit (.sl t xs false :: vs) (.sl t :: ks)

theorem Fit.nil_inv {vs : List V} (h : Fit vs []) : vs = [] := by cases h; rfl
theorem Fit.i_inv {vs : List V} {k : IntKind} {ks : List LK} (h : Fit vs (.i k :: ks)) : ∃ n ws, vs = .i k n :: ws ∧ (Lit.int k n).wf = true ∧ Fit ws ks := by
  cases h with
  | i _ n ws _ hn h => exact ⟨n, ws, rfl, hn, h⟩
theorem Fit.b_inv {vs : List V} {ks : List LK} (h : Fit vs (.b :: ks)) : ∃ x ws, vs = .b x :: ws ∧ Fit ws ks := by
  cases h with
  | b x ws _ h => exact ⟨x, ws, rfl, h⟩
theorem Fit.s_inv {vs : List V} {ks : List LK} (h : Fit vs (.s :: ks)) : ∃ x ws, vs = .s x :: ws ∧ x.length ≤ maxLen ∧ Fit ws ks := by
  cases h with
  | s x ws _ hn h => exact ⟨x, ws, rfl, hn, h⟩
theorem Fit.sl_inv {vs : List V} {t : STy} {ks : List LK} (h : Fit vs (.sl t :: ks)) : ∃ xs ws, vs = .sl t xs false :: ws ∧ xs.length ≤ maxLen ∧ (∀ x ∈ xs, Fit (cellsOf t x) (kindsOf t)) ∧ Fit ws ks := by
  cases h with
  | sl _ xs ws _ hn hx h => exact ⟨xs, ws, rfl, hn, hx, h⟩

theorem Fit.append : ∀ {ks : List LK} {vs ws : List V} {ls : List LK}, Fit vs ks → Fit ws ls → Fit (vs ++ ws) (ks ++ ls)
  | [], vs, ws, ls, h, k => by rw [h.nil_inv]; exact k
  | .i l :: ks, vs, ws, ls, h, k => by
    obtain ⟨n, us, rfl, hn, h⟩ := h.i_inv
    exact .i _ _ _ _ hn (h.append k)
  | .b :: ks, vs, ws, ls, h, k => by
    obtain ⟨n, us, rfl, h1⟩ := h.b_inv
    exact .b _ _ _ (h1.append k)
  | .s :: ks, vs, ws, ls, h, k => by
    obtain ⟨n, us, rfl, hn, h⟩ := h.s_inv
    exact .s _ _ _ hn (h.append k)
  | .sl t :: ks, vs, ws, ls, h, k => by
    obtain ⟨xs, us, rfl, hn, hx, h⟩ := h.sl_inv
    exact .sl _ _ _ _ hn hx (h.append k)

theorem Fit.length : ∀ {ks : List LK} {vs : List V}, Fit vs ks → vs.length = ks.length
  | [], vs, h => by
    rw [h.nil_inv]
    rfl
  | .i l :: ks, vs, h => by
    obtain ⟨n, us, rfl, hn, h⟩ := h.i_inv
    rw [List.length_cons, List.length_cons, h.length]
  | .b :: ks, vs, h => by
    obtain ⟨n, us, rfl, h1⟩ := h.b_inv
    rw [List.length_cons, List.length_cons, h1.length]
  | .s :: ks, vs, h => by
    obtain ⟨n, us, rfl, hn, h⟩ := h.s_inv
    rw [List.length_cons, List.length_cons, h.length]
  | .sl t :: ks, vs, h => by
    obtain ⟨xs, us, rfl, hn, hx, h⟩ := h.sl_inv
    rw [List.length_cons, List.length_cons, h.length]

/-- Values of an element's kinds are an element's. -/
theorem Fit.el : ∀ {t : STy} {vs : List V}, Fit vs (kindsOf t) → ∃ x : El t, cellsOf t x = vs
  | .int, vs, h => by
    obtain ⟨a0, ws, rfl, -, h1⟩ := Fit.i_inv h
    obtain rfl := Fit.nil_inv h1
    exact ⟨(a0 : Int), rfl⟩
  | .u16, vs, h => by
    obtain ⟨a0, ws, rfl, -, h1⟩ := Fit.i_inv h
    obtain rfl := Fit.nil_inv h1
    exact ⟨(a0 : Int), rfl⟩
  | .bool, vs, h => by
    obtain ⟨a0, ws, rfl, h1⟩ := Fit.b_inv h
    obtain rfl := Fit.nil_inv h1
    exact ⟨(a0 : Bool), rfl⟩
  | .str, vs, h => by
    obtain ⟨a0, ws, rfl, -, h1⟩ := Fit.s_inv h
    obtain rfl := Fit.nil_inv h1
    exact ⟨(a0 : List UInt8), rfl⟩
  | .frame, vs, h => by
    obtain ⟨a0, ws, rfl, -, h1⟩ := Fit.i_inv h
    obtain ⟨a1, ws, rfl, -, h2⟩ := Fit.i_inv h1
    obtain ⟨a2, ws, rfl, -, h3⟩ := Fit.i_inv h2
    obtain ⟨a3, ws, rfl, -, h4⟩ := Fit.i_inv h3
    obtain ⟨a4, ws, rfl, -, h5⟩ := Fit.i_inv h4
    obtain ⟨a5, ws, rfl, -, h6⟩ := Fit.i_inv h5
    obtain ⟨a6, ws, rfl, -, h7⟩ := Fit.i_inv h6
    obtain ⟨a7, ws, rfl, -, h8⟩ := Fit.i_inv h7
    obtain ⟨a8, ws, rfl, -, h9⟩ := Fit.i_inv h8
    obtain ⟨a9, ws, rfl, -, h10⟩ := Fit.i_inv h9
    obtain ⟨a10, ws, rfl, -, -, h11⟩ := Fit.sl_inv h10
    obtain rfl := Fit.nil_inv h11
    exact ⟨(⟨a0, a1, a2, a3, a4, a5, a6, a7, a8, a9, a10⟩ : FrameD), rfl⟩
  | .core, vs, h => by
    obtain ⟨a0, ws, rfl, -, -, h1⟩ := Fit.sl_inv h
    obtain ⟨a1, ws, rfl, -, h2⟩ := Fit.i_inv h1
    obtain ⟨a2, ws, rfl, -, h3⟩ := Fit.i_inv h2
    obtain ⟨a3, ws, rfl, -, h4⟩ := Fit.i_inv h3
    obtain ⟨a4, ws, rfl, -, h5⟩ := Fit.i_inv h4
    obtain ⟨a5, ws, rfl, -, h6⟩ := Fit.i_inv h5
    obtain ⟨a6, ws, rfl, -, -, h7⟩ := Fit.sl_inv h6
    obtain rfl := Fit.nil_inv h7
    exact ⟨(⟨a0, a1, a2, a3, a4, a5, a6⟩ : CoreD), rfl⟩
  | .ev, vs, h => by
    obtain ⟨a0, ws, rfl, -, h1⟩ := Fit.i_inv h
    obtain ⟨a1, ws, rfl, -, h2⟩ := Fit.i_inv h1
    obtain ⟨a2, ws, rfl, -, h3⟩ := Fit.i_inv h2
    obtain ⟨a3, ws, rfl, -, h4⟩ := Fit.i_inv h3
    obtain ⟨a4, ws, rfl, -, h5⟩ := Fit.i_inv h4
    obtain rfl := Fit.nil_inv h5
    exact ⟨(⟨a0, a1, a2, a3, a4⟩ : EvD), rfl⟩
  | .call, vs, h => by
    obtain ⟨a0, ws, rfl, -, h1⟩ := Fit.i_inv h
    obtain ⟨a1, ws, rfl, -, h2⟩ := Fit.i_inv h1
    obtain ⟨a2, ws, rfl, -, h3⟩ := Fit.i_inv h2
    obtain rfl := Fit.nil_inv h3
    exact ⟨(⟨a0, a1, a2⟩ : CallD), rfl⟩
  | .calls, vs, h => by
    obtain ⟨a0, ws, rfl, -, -, h1⟩ := Fit.sl_inv h
    obtain rfl := Fit.nil_inv h1
    exact ⟨(a0 : List CallD), rfl⟩
  | .past, vs, h => by
    obtain ⟨a0, ws, rfl, -, h1⟩ := Fit.i_inv h
    obtain ⟨a1, ws, rfl, -, h2⟩ := Fit.i_inv h1
    obtain ⟨a2, ws, rfl, -, h3⟩ := Fit.i_inv h2
    obtain ⟨a3, ws, rfl, -, h4⟩ := Fit.i_inv h3
    obtain ⟨a4, ws, rfl, -, h5⟩ := Fit.i_inv h4
    obtain ⟨a5, ws, rfl, -, h6⟩ := Fit.i_inv h5
    obtain ⟨a6, ws, rfl, -, h7⟩ := Fit.i_inv h6
    obtain ⟨a7, ws, rfl, -, h8⟩ := Fit.i_inv h7
    obtain rfl := Fit.nil_inv h8
    exact ⟨(⟨⟨a0, a1, a2⟩, a3, a4, a5, a6, a7⟩ : PastD), rfl⟩
  | .thread, vs, h => by
    obtain ⟨a0, ws, rfl, -, -, h1⟩ := Fit.sl_inv h
    obtain ⟨a1, ws, rfl, -, h2⟩ := Fit.i_inv h1
    obtain ⟨a2, ws, rfl, -, h3⟩ := Fit.i_inv h2
    obtain ⟨a3, ws, rfl, -, -, h4⟩ := Fit.sl_inv h3
    obtain rfl := Fit.nil_inv h4
    exact ⟨(⟨a0, a1, a2, a3⟩ : ThreadD), rfl⟩
  | .step, vs, h => by
    obtain ⟨a0, ws, rfl, -, h1⟩ := Fit.i_inv h
    obtain ⟨a1, ws, rfl, h2⟩ := Fit.b_inv h1
    obtain rfl := Fit.nil_inv h2
    exact ⟨(⟨a0, a1⟩ : StepD), rfl⟩
  | .move, vs, h => by
    obtain ⟨a0, ws, rfl, -, h1⟩ := Fit.i_inv h
    obtain ⟨a1, ws, rfl, -, h2⟩ := Fit.i_inv h1
    obtain rfl := Fit.nil_inv h2
    exact ⟨(⟨a0, a1⟩ : MoveD), rfl⟩
  | .pair, vs, h => by
    obtain ⟨a0, ws, rfl, -, h1⟩ := Fit.i_inv h
    obtain ⟨a1, ws, rfl, -, h2⟩ := Fit.i_inv h1
    obtain rfl := Fit.nil_inv h2
    exact ⟨(⟨a0, a1⟩ : PairD), rfl⟩
  | .ints, vs, h => by
    obtain ⟨a0, ws, rfl, -, -, h1⟩ := Fit.sl_inv h
    obtain rfl := Fit.nil_inv h1
    exact ⟨(a0 : List Int), rfl⟩

theorem cells_spot {w : World} {a : Addr} {u : Value} (h : w.cell? a = some u) : a = ⟨a.block, a.off, none⟩ ∧ a.block < w.heap.size := by
  unfold World.cell? at h
  split at h
  · rename_i hb
    split at h
    · cases h
    · rename_i hs
      obtain ⟨b, o, s⟩ := a
      cases s with
      | none => exact ⟨rfl, (Array.getElem?_eq_some_iff.1 hb).1⟩
      | some _ => exact absurd rfl hs
  · cases h

theorem mapM_at {α β : Type} {f : α → Option β} : ∀ {l : List α} {r : List β}, l.mapM f = some r → r.length = l.length ∧ ∀ (j : Nat) (x : α), l[j]? = some x → ∃ y, f x = some y ∧ r[j]? = some y
  | [], r, h => by
    simp at h
    subst h
    exact ⟨rfl, fun j x hx => by simp at hx⟩
  | a :: l, r, h => by
    simp only [List.mapM_cons, Option.bind_eq_bind, Option.bind_eq_some_iff, Option.pure_def, Option.some.injEq] at h
    obtain ⟨y, hy, ys, hys, rfl⟩ := h
    have := mapM_at hys
    refine ⟨by simp [this.1], fun j x hx => ?_⟩
    cases j with
    | zero =>
      simp at hx
      subst hx
      exact ⟨y, hy, rfl⟩
    | succ j => exact this.2 j x (by simpa using hx)

theorem cells_at {w : World} {base n : Nat} {a : Addr} {cs : List Value} (h : w.cells? base a n = some cs) : cs.length = n ∧ ∀ (j : Nat) (u : Value), cs[j]? = some u → w.cell? (a.add j) = some u := by
  unfold World.cells? at h
  split at h
  · have := mapM_at h
    refine ⟨by simpa using this.1, fun j u hu => ?_⟩
    have hj : j < n := by
      have := (List.getElem?_eq_some_iff.1 hu).1
      have h2 := (mapM_at h).1
      simp at h2
      omega
    obtain ⟨y, h1, h2⟩ := this.2 j j (by simp [hj])
    rw [hu] at h2
    cases h2
    exact h1
  · cases h

theorem flat_len (t : STy) : ∀ xs : List (El t), (∀ x ∈ xs, (cellsOf t x).length = t.sz) → (flat t xs).length = xs.length * t.sz
  | [], _ => by simp [flat]
  | x :: xs, h => by
    have h1 := flat_len t xs fun x hx => h x (List.mem_cons_of_mem _ hx)
    have h2 := h x List.mem_cons_self
    simp only [flat, List.flatMap_cons, List.length_append, List.length_cons] at h1 ⊢
    rw [h1, h2, Nat.add_mul, Nat.one_mul, Nat.add_comm]

theorem add_plain (b o n : Nat) : (Addr.mk b o none).add n = ⟨b, o + n, none⟩ := by
  unfold Addr.add
  split
  · rename_i h
    rw [h]
    rfl
  · rfl

/-- An opened slice's elements. -/
theorem open_els {w : World} {b o : Nat} {t : STy} {len : Nat} {X : Type} {tr : List Value → Option X} {base : Nat} {ys : Nat → Option X}
    (htr : ∀ cs y, tr cs = some y → ∃ vs, Rs (fun _ => .none) (old w) w vs cs ∧ Fit vs (kindsOf t) ∧ ∀ u ∈ cs, u.oneCell' = true)
    (he : ∀ i, i < len → (w.cells? base (Addr.add ⟨b, o, none⟩ (i * t.sz)) t.sz).bind tr = ys i) (hy : ∀ i, i < len → (ys i).isSome = true) :
    ∀ n, n ≤ len → ∃ (xs : List (El t)) (vals : List Value), xs.length = n ∧ (∀ x ∈ xs, Fit (cellsOf t x) (kindsOf t)) ∧ Rs (fun _ => .none) (old w) w (flat t xs) vals ∧
      ∀ (j : Nat) (u : Value), vals[j]? = some u → old w b (o + j) ∧ w.cell? ⟨b, o + j, Option.none⟩ = some u ∧ u.oneCell' = true
  | 0, _ => ⟨[], [], rfl, fun _ h => (by cases h), Rs.nil, fun j u h => by simp at h⟩
  | n + 1, hn => by
    obtain ⟨xs, vals, hl, hx, hr, hv⟩ := open_els htr he hy n (Nat.le_of_succ_le hn)
    have h0 := he n hn
    obtain ⟨y, hyn⟩ := Option.isSome_iff_exists.1 (hy n hn)
    rw [hyn, Option.bind_eq_some_iff] at h0
    obtain ⟨cs, hcs, hy⟩ := h0
    obtain ⟨vs, h1, h2, h3⟩ := htr cs _ hy
    obtain ⟨x, rfl⟩ := h2.el
    have hlen : vals.length = n * t.sz := by
      rw [hr.1, flat_len t xs fun x h => by rw [(hx x h).length, kinds_len], hl]
    refine ⟨xs ++ [x], vals ++ cs, by simp [hl], fun y hy => ?_, ?_, fun j u hj => ?_⟩
    · rcases List.mem_append.1 hy with hy | hy
      · exact hx y hy
      · rw [List.mem_singleton] at hy
        rw [hy]
        exact h2
    · have : flat t (xs ++ [x]) = flat t xs ++ cellsOf t x := by simp [flat]
      rw [this]
      exact hr.append h1
    · by_cases hjl : j < vals.length
      · rw [List.getElem?_append_left hjl] at hj
        exact hv j u hj
      · rw [List.getElem?_append_right (Nat.le_of_not_lt hjl)] at hj
        have hc := (cells_at hcs).2 _ u hj
        rw [add_plain, add_plain] at hc
        have e : o + n * t.sz + (j - vals.length) = o + j := by omega
        rw [e] at hc
        exact ⟨(cells_spot hc).2, hc, h3 u (List.mem_of_getElem? hj)⟩

theorem rs_one {σ : Sg} {Φ : Im} {w : World} {v : V} {u : Value} (h : R σ Φ w v u) : Rs σ Φ w [v] [u] := Rs.cons h Rs.nil

theorem mem_one {v : Value} (h : v.oneCell' = true) : ∀ x ∈ [v], x.oneCell' = true := fun x hx => by
  rw [List.mem_singleton] at hx
  rw [hx]
  exact h

/-- What is read as data is told by plain data. -/
def Opens (enc : TypeId × Value → H) (P : Program) (w : World) (T : Nat) (ks : List LK) : Prop :=
  ∀ (fuel : Nat) (cs : List Value) (x : DataW H × List MemPlace), DataW.trod enc P w 0 (fun _ => true) true fuel T cs = some x →
    ∃ vs, Rs (fun _ => .none) (old w) w vs cs ∧ Fit vs ks ∧ ∀ u ∈ cs, u.oneCell' = true

theorem opens_fields {w : World} {L : Nat → Option (List LK)} (hL : ∀ T ks, L T = some ks → Opens enc P w T ks) :
    ∀ (fs : List Field) (off : Nat) (ks : List LK), leafFs L P fs off = some ks → ∀ (n : Nat) (cs : List Value), cs.length = off + ks.length →
      (∀ f ∈ fs, (DataW.trod enc P w 0 (fun _ => true) true n f.type ((cs.drop f.offset).take (P.cellsOf f.type))).isSome = true) →
      ∃ vs, Rs (fun _ => .none) (old w) w vs (cs.drop off) ∧ Fit vs ks ∧ ∀ u ∈ cs.drop off, u.oneCell' = true
  | [], off, ks, h, n, cs, hl, _ => by
    cases h
    have : cs.drop off = [] := List.drop_eq_nil_of_le (by simp at hl; omega)
    rw [this]
    exact ⟨[], Rs.nil, .nil, fun _ h => by cases h⟩
  | f :: fs, off, ks, h, n, cs, hl, ht => by
    simp only [leafFs] at h
    split at h
    · rename_i ho
      split at h
      · rename_i k1 hk
        split at h
        · rename_i hc
          split at h
          · rename_i l hfs
            cases h
            obtain ⟨y, hy⟩ := Option.isSome_iff_exists.1 (ht f List.mem_cons_self)
            rw [ho, hc] at hy
            obtain ⟨v1, r1, f1, o1⟩ := hL _ _ hk _ _ _ hy
            rw [List.length_append] at hl
            obtain ⟨v2, r2, f2, o2⟩ := opens_fields hL fs (off + k1.length) l hfs n cs (by omega) fun g hg => ht g (List.mem_cons_of_mem _ hg)
            have e : cs.drop off = (cs.drop off).take k1.length ++ cs.drop (off + k1.length) := by
              rw [← List.drop_drop, List.take_append_drop]
            rw [e]
            refine ⟨v1 ++ v2, r1.append r2, f1.append f2, fun u hu => ?_⟩
            rcases List.mem_append.1 hu with hu | hu
            · exact o1 u hu
            · exact o2 u hu
          · cases h
        · cases h
      · cases h
    · cases h

theorem rep_len (k : List LK) : ∀ n, (repK n k).length = n * k.length
  | 0 => by simp [repK]
  | n + 1 => by simp only [repK, List.length_append, rep_len k n, Nat.add_mul, Nat.one_mul, Nat.add_comm]

theorem opens_rep {w : World} {T : Nat} {k : List LK} (hT : Opens enc P w T k) (m : Nat) :
    ∀ (n off : Nat) (cs : List Value), cs.length = (off + n) * k.length →
      (∀ i, i < off + n → (DataW.trod enc P w 0 (fun _ => true) true m T ((cs.drop (i * k.length)).take k.length)).isSome = true) →
      ∃ vs, Rs (fun _ => .none) (old w) w vs (cs.drop (off * k.length)) ∧ Fit vs (repK n k) ∧ ∀ u ∈ cs.drop (off * k.length), u.oneCell' = true
  | 0, off, cs, hl, _ => by
    have : cs.drop (off * k.length) = [] := List.drop_eq_nil_of_le (by rw [hl, Nat.add_zero]; exact Nat.le_refl _)
    rw [this]
    exact ⟨[], Rs.nil, .nil, fun _ h => by cases h⟩
  | n + 1, off, cs, hl, ht => by
    obtain ⟨y, hy⟩ := Option.isSome_iff_exists.1 (ht off (by omega))
    obtain ⟨v1, r1, f1, o1⟩ := hT _ _ _ hy
    obtain ⟨v2, r2, f2, o2⟩ := opens_rep hT m n (off + 1) cs (by rw [hl]; congr 1; omega) fun i hi => ht i (by omega)
    have e : cs.drop (off * k.length) = (cs.drop (off * k.length)).take k.length ++ cs.drop ((off + 1) * k.length) := by
      rw [Nat.add_mul, Nat.one_mul, ← List.drop_drop, List.take_append_drop]
    rw [e]
    refine ⟨v1 ++ v2, r1.append r2, f1.append f2, fun u hu => ?_⟩
    rcases List.mem_append.1 hu with hu | hu
    · exact o1 u hu
    · exact o2 u hu

theorem opens_all {w : World} {sty : Nat → Option STy} : ∀ (d T : Nat) (ks : List LK), leafK P sty d T = some ks → Opens enc P w T ks
  | 0, _, _, h => by simp [leafK] at h
  | d + 1, T, ks, h => by
    intro fuel cs x hx
    unfold leafK at h
    split at h
    · rename_i k hu
      cases h
      obtain ⟨n, rfl, _, hw⟩ := DataW.trod_int hu hx
      exact ⟨[.i k n], rs_one (.i _ _), .i _ _ _ _ hw .nil, mem_one rfl⟩
    · rename_i hu
      cases h
      obtain ⟨b, rfl, _⟩ := DataW.trod_bool hu hx
      exact ⟨[.b b], rs_one (.b _), .b _ _ _ .nil, mem_one rfl⟩
    · rename_i hu
      cases h
      obtain ⟨s, rfl, _, hl⟩ := DataW.trod_string hu hx
      refine ⟨[.s s.data.toList], rs_one ?_, .s _ _ _ (by simpa using hl) .nil, mem_one rfl⟩
      have : R (fun _ => .none) (old w) w (.s s.data.toList) (.string ⟨s.data.toList.toArray⟩) := .s _
      simpa using this
    · rename_i e hu
      split at h
      · rename_i t k ht hk
        split at h
        · rename_i hc
          obtain ⟨hc1, hc2⟩ := hc
          have hc1 := lkEq_eq hc1
          subst hc1
          cases h
          rw [kinds_len] at hc2
          have ih := opens_all (w := w) d e _ hk
          rcases DataW.trod_slice hu hx with ⟨rfl, _⟩ | ⟨a, len, cap, elems, rest, n, _, rfl, _, _, hl, hm, hel, he, _⟩
          · refine ⟨[.sl t [] false], rs_one ?_, .sl _ _ _ _ (Nat.zero_le _) (fun _ h => by cases h) .nil, mem_one rfl⟩
            exact .sl t [] false none 0 [] rfl (fun j v u h => by simp [flat] at h) (Nat.le_refl _) (fun h => by cases h) (fun j u h => by simp at h)
          · rw [hc2] at he
            by_cases h0 : len = 0
            · subst h0
              refine ⟨[.sl t [] false], rs_one ?_, .sl _ _ _ _ (Nat.zero_le _) (fun _ h => by cases h) .nil, mem_one rfl⟩
              exact .sl t [] false (some a) cap [] rfl (fun j v u h => by simp [flat] at h) (Nat.zero_le _) (fun h => by cases h) (fun j u h => by simp at h)
            · have hy : ∀ i, i < len → (elems[i]?).isSome = true := fun i hi => by simp [hel, hi]
              have ha : ∃ b o, a = ⟨b, o, none⟩ := by
                have e0 := he 0 (by omega)
                obtain ⟨y, hy0⟩ := Option.isSome_iff_exists.1 (hy 0 (by omega))
                rw [hy0, Option.bind_eq_some_iff] at e0
                obtain ⟨cs0, hcs0, _⟩ := e0
                have h1 := cells_at hcs0
                have hp := sz_pos t
                have h2 := h1.2 0 (cs0[0]'(by omega)) (by simp)
                have e1 : (a.add (0 * t.sz)).add 0 = a := by
                  rw [Nat.zero_mul]
                  rfl
                rw [e1] at h2
                exact ⟨_, _, (cells_spot h2).1⟩
              obtain ⟨b, o, rfl⟩ := ha
              obtain ⟨xs, vals, hxl, hxf, hxr, hxv⟩ := open_els (fun cs y h => ih n cs y h) he hy len (Nat.le_refl _)
              subst hxl
              refine ⟨[.sl t xs false], rs_one ?_, .sl _ _ _ _ (Nat.le_trans hl hm) hxf .nil, mem_one rfl⟩
              exact .sl t xs false (some ⟨b, o, none⟩) cap vals hxr.1 hxr.2 hl (fun h => by cases h) fun j u hj => ⟨_, rfl, rfl, hxv j u hj⟩
        · cases h
      · cases h
    · rename_i n e hu
      split at h
      · rename_i k hk
        split at h
        · rename_i hc
          cases h
          obtain ⟨xs, m, _, _, hl, hxl, ha⟩ := DataW.trod_array hu hx
          have ih := opens_all (w := w) d e _ hk
          rw [hc.1] at ha
          have := opens_rep ih m n 0 cs (by rw [hl, hc.2, Nat.zero_add]) fun i hi => by
            rw [ha i (by omega)]
            simp [hxl]
            omega
          simpa using this
        · cases h
      · cases h
    · rename_i fs hu
      split at h
      · rename_i k hk
        split at h
        · rename_i hc
          cases h
          obtain ⟨xs, m, _, _, hl, hxl, ha⟩ := DataW.trod_struct hu hx
          have := opens_fields (w := w) (enc := enc) (fun T ks h => opens_all (w := w) d T ks h) fs.toList 0 ks hk m cs (by rw [hl, hc, Nat.zero_add]) fun f hf => by
            obtain ⟨i, hi⟩ := List.getElem?_of_mem hf
            rw [ha i f (by simpa using hi)]
            have : i < fs.size := by
              have := (List.getElem?_eq_some_iff.1 hi).1
              simpa using this
            simp [hxl, this]
          simpa using this
        · cases h
      · cases h
    · cases h

/-- An argument that is read as data. -/
theorem open_trod {w : World} {sty : Nat → Option STy} {d T : Nat} {ks : List LK} (hk : leafK P sty d T = some ks) {v : Value} {x : DataW H} {ps : List MemPlace} (h : DataW.Trod enc P w 0 (fun _ => true) true T v x ps) :
    ∃ vs, Rs (fun _ => .none) (old w) w vs v.cells.toList ∧ Fit vs ks ∧ ∀ u ∈ v.cells.toList, u.oneCell' = true := by
  obtain ⟨fuel, h⟩ := h
  exact opens_all d T ks hk fuel _ _ h

/-- An argument of several cells that is read as data. -/
theorem open_agg {w : World} {sty : Nat → Option STy} {d T : Nat} {ks : List LK} (hk : leafK P sty d T = some ks) (hn : ks.length ≠ 1) {v : Value} {x : DataW H} {ps : List MemPlace} (h : DataW.Trod enc P w 0 (fun _ => true) true T v x ps) :
    ∃ vs, R (fun _ => .none) (old w) w (.agg vs) v ∧ Fit vs ks := by
  obtain ⟨vs, hr, hf, h1⟩ := open_trod hk h
  refine ⟨vs, ?_, hf⟩
  have hl : v.cells.toList.length ≠ 1 := by rw [hr.1, hf.length]; exact hn
  cases v with
  | agg cs =>
    have : R (fun _ => .none) (old w) w (.agg vs) (.agg cs.toList.toArray) := .agg vs cs.toList hr.1 hr.2 h1
    simpa using this
  | _ => exact absurd rfl hl

theorem fit_sys {vs : List V} (h : Fit vs [.sl .int, .sl .int, .b, .sl .core, .sl .ev]) : ∃ s : SysD, eSysD s = .agg vs := by
  obtain ⟨a0, ws, rfl, -, -, h1⟩ := Fit.sl_inv h
  obtain ⟨a1, ws, rfl, -, -, h2⟩ := Fit.sl_inv h1
  obtain ⟨a2, ws, rfl, h3⟩ := Fit.b_inv h2
  obtain ⟨a3, ws, rfl, -, -, h4⟩ := Fit.sl_inv h3
  obtain ⟨a4, ws, rfl, -, -, h5⟩ := Fit.sl_inv h4
  obtain rfl := Fit.nil_inv h5
  exact ⟨⟨⟨a0, a1, a2⟩, a3, a4⟩, rfl⟩

end Go.AE
