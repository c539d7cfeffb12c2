/- How abstract values and objects are told of a world: places, what nobody writes, relations, and how they stay. -/
import Derived.Test.YthdmhibmokhpgaaGreatAELoop
import Derived.Below
import Derived.Laws.CopyOwn
import Derived.Laws.MakeOwn
set_option linter.unusedVariables false
set_option linter.unusedSimpArgs false
namespace Go.AE

/-- Where an abstract object lies. -/
inductive Lc where
  | none
  | gone
  | cell (b off : Nat)
  | row (v : Value) (esz ver : Nat) (own : Bool)
  | map (b : Nat)

abbrev Sg := Nat → Lc
/-- The cells that nobody writes. -/
abbrev Im := Nat → Nat → Prop

/-- The block of a slice that has room. -/
def blk : Value → Option Nat
  | .slice (some a) _ (_ + 1) => some a.block
  | _ => Option.none

def Lc.covers : Lc → Nat → Nat → Prop
  | .cell b' o', b, o => b = b' ∧ o = o'
  | .row v _ _ true, b, _ => blk v = some b
  | .map b', b, _ => b = b'
  | _, _, _ => False

def flat (t : STy) (xs : List (El t)) : List V := xs.flatMap (cellsOf t)

/-- What a value says of a Go value. -/
inductive R (σ : Sg) (Φ : Im) (w : World) : V → Value → Prop
  | u (x : Value) : R σ Φ w .u x
  | und : R σ Φ w .und undef
  | b (x : Bool) : R σ Φ w (.b x) (.bool x)
  | i (k : IntKind) (n : Int) : R σ Φ w (.i k n) (.int k n)
  | s (x : List UInt8) : R σ Φ w (.s x) (.string ⟨x.toArray⟩)
  | p (id n b off : Nat) (h : ∀ j, j < n → σ (id + j) = .cell b (off + j) ∨ σ (id + j) = .gone) : R σ Φ w (.p id n) (.pointer (some ⟨b, off, Option.none⟩))
  | pnil : R σ Φ w .pnil (.pointer Option.none)
  | px (t : STy) (x : El t) (off b o : Nat) (vals : List Value) (hl : vals.length = (cellsOf t x).length)
      (hr : ∀ (j : Nat) (v : V) (u : Value), (cellsOf t x)[j]? = some v → vals[j]? = some u → R σ Φ w v u)
      (hw : ∀ (j : Nat) (u : Value), vals[j]? = some u → Φ b (o + j) ∧ w.cell? ⟨b, o + j, Option.none⟩ = some u ∧ u.oneCell' = true) : R σ Φ w (.px t x off) (.pointer (some ⟨b, o + off, Option.none⟩))
  | pr (id ver ix off : Nat) (a : Addr)
      (h : ∃ v sz ver' own, σ id = .row v sz ver' own ∧ ver ≤ ver' ∧ (ver' = ver → ∃ a0 n cap, v = .slice (some a0) n cap ∧ ix < n ∧ a = ⟨a0.block, a0.off + (ix * sz + off), Option.none⟩)) :
      R σ Φ w (.pr id ver ix off) (.pointer (some a))
  | nils : R σ Φ w .nils (.slice Option.none 0 0)
  | sl (t : STy) (xs : List (El t)) (ex : Bool) (p : Option Addr) (cap : Nat) (vals : List Value) (hl : vals.length = (flat t xs).length)
      (hr : ∀ (j : Nat) (v : V) (u : Value), (flat t xs)[j]? = some v → vals[j]? = some u → R σ Φ w v u)
      (hn : xs.length ≤ cap) (he : ex = true → cap = xs.length)
      (hw : ∀ (j : Nat) (u : Value), vals[j]? = some u → ∃ a, p = some a ∧ a.spot = Option.none ∧ Φ a.block (a.off + j) ∧ w.cell? ⟨a.block, a.off + j, Option.none⟩ = some u ∧ u.oneCell' = true) :
      R σ Φ w (.sl t xs ex) (.slice p xs.length cap)
  | o (id ver : Nat) (p : Option Addr) (n cap : Nat) (h : ∃ v sz ver' own, σ id = .row v sz ver' own ∧ ver ≤ ver' ∧ (ver' = ver → v = .slice p n cap)) : R σ Φ w (.o id ver) (.slice p n cap)
  | ov (id ver off len : Nat) (p : Option Addr) (cap : Nat) (hc : len ≤ cap)
      (h : ∃ v sz ver' own, σ id = .row v sz ver' own ∧ ver ≤ ver' ∧ (ver' = ver → ∃ p' n cap', v = .slice p' n cap' ∧ off + len ≤ n ∧ (0 < len → ∃ a, p' = some a ∧ p = some ⟨a.block, a.off + off * sz, Option.none⟩))) :
      R σ Φ w (.ov id ver off len) (.slice p len cap)
  | cs (id len esz : Nat) (p : Option Addr) (cap : Nat) (hc : len ≤ cap)
      (h : ∀ j, j < len * esz → ∃ b off, p = some ⟨b, off, Option.none⟩ ∧ (σ (id + j) = .cell b (off + j) ∨ σ (id + j) = .gone)) : R σ Φ w (.cs id len esz) (.slice p len cap)
  | f (fn : Fn) (fs cs : List V) (us1 us2 : List Value) (h1 : us1.length = fs.length) (h2 : us2.length = cs.length)
      (hr1 : ∀ (j : Nat) (v : V) (u : Value), fs[j]? = some v → us1[j]? = some u → R σ Φ w v u) (hr2 : ∀ (j : Nat) (v : V) (u : Value), cs[j]? = some v → us2[j]? = some u → R σ Φ w v u) :
      R σ Φ w (.f fn fs cs) (.func fn us1.toArray us2.toArray)
  | fnil : R σ Φ w .fnil .nilFunc
  | m (id b : Nat) (h : σ id = .map b) : R σ Φ w (.m id) (.map (some b))
  | mnil : R σ Φ w .mnil (.map Option.none)
  | agg (cs : List V) (us : List Value) (hl : us.length = cs.length) (hr : ∀ (j : Nat) (v : V) (u : Value), cs[j]? = some v → us[j]? = some u → R σ Φ w v u) (h1 : ∀ u ∈ us, u.oneCell' = true) :
      R σ Φ w (.agg cs) (.agg us.toArray)
  | tup (cs : List V) (us : List Value) (hl : us.length = cs.length) (hr : ∀ (j : Nat) (v : V) (u : Value), cs[j]? = some v → us[j]? = some u → R σ Φ w v u) :
      R σ Φ w (.tup cs) (.tuple us.toArray)
  | ifc (t : TypeId) (v : V) (x : Value) (h : R σ Φ w v x) : R σ Φ w (.ifc t v) (.iface t x)
  | ifnil : R σ Φ w .ifnil .nilIface

/-- Value by value. -/
def Rs (σ : Sg) (Φ : Im) (w : World) (vs : List V) (us : List Value) : Prop := us.length = vs.length ∧ ∀ (j : Nat) (v : V) (u : Value), vs[j]? = some v → us[j]? = some u → R σ Φ w v u

/-- What a place may have become. -/
def Lc.later : Lc → Lc → Prop
  | .none, _ => True
  | .gone, l => l = .gone
  | .cell b off, l => l = .cell b off ∨ l = .gone
  | .row v sz ver own, l => ∃ v' ver' own', l = .row v' sz ver' own' ∧ ver ≤ ver' ∧ (ver' = ver → v' = v)
  | .map b, l => l = .map b

theorem Lc.later.refl (l : Lc) : l.later l := by
  cases l with
  | none => trivial
  | gone => rfl
  | cell b off => exact .inl rfl
  | row v sz ver own => exact ⟨v, ver, own, rfl, Nat.le_refl _, fun _ => rfl⟩
  | map b => rfl

theorem Lc.later.trans {a b c : Lc} (h : a.later b) (k : b.later c) : a.later c := by
  cases a with
  | none => trivial
  | gone =>
    cases h
    exact k
  | cell b off =>
    rcases h with rfl | rfl
    · exact k
    · exact .inr k
  | row v sz ver own =>
    obtain ⟨v', ver', own', rfl, h1, h2⟩ := h
    obtain ⟨v2, ver2, own2, rfl, h3, h4⟩ := k
    exact ⟨v2, ver2, own2, rfl, Nat.le_trans h1 h3, fun e => by
      have e1 : ver' = ver := by omega
      rw [h4 (by omega), h2 e1]⟩
  | map b =>
    cases h
    exact k

/-- The relation stays while places go on, what nobody writes stays as it is, and there is more of it. -/
theorem R.mono {σ σ' : Sg} {Φ Φ' : Im} {w w' : World} (hσ : ∀ id, (σ id).later (σ' id)) (hΦ : ∀ b o, Φ b o → Φ' b o)
    (hw : ∀ b o u, Φ b o → w.cell? ⟨b, o, Option.none⟩ = some u → w'.cell? ⟨b, o, Option.none⟩ = some u) {v : V} {x : Value} (h : R σ Φ w v x) : R σ' Φ' w' v x := by
  have rw_ : ∀ {id v sz ver own}, σ id = .row v sz ver own → ∃ v' ver' own', σ' id = .row v' sz ver' own' ∧ ver ≤ ver' ∧ (ver' = ver → v' = v) := by
    intro id v sz ver own e
    have := hσ id
    rw [e] at this
    exact this
  induction h with
  | u x => exact .u x
  | und => exact .und
  | b x => exact .b x
  | i k n => exact .i k n
  | s x => exact .s x
  | p id n b off h =>
    refine .p id n b off fun j hj => ?_
    have := hσ (id + j)
    rcases h j hj with e | e <;> rw [e] at this
    · exact this
    · exact .inr this
  | pnil => exact .pnil
  | px t x off b o vals hl hr hw' ih =>
    exact .px t x off b o vals hl ih fun j u hj => let ⟨h1, h2, h3⟩ := hw' j u hj; ⟨hΦ _ _ h1, hw _ _ _ h1 h2, h3⟩
  | pr id ver ix off a h =>
    obtain ⟨v, sz, ver', own, e, h1, h2⟩ := h
    obtain ⟨v', ver2, own', e', h3, h4⟩ := rw_ e
    refine .pr id ver ix off a ⟨v', sz, ver2, own', e', Nat.le_trans h1 h3, fun hv => ?_⟩
    obtain rfl := h4 (by omega)
    exact h2 (by omega)
  | nils => exact .nils
  | sl t xs ex p cap vals hl hr hn he hw' ih =>
    exact .sl t xs ex p cap vals hl ih hn he fun j u hj => let ⟨a, h0, h1, h2, h3, h4⟩ := hw' j u hj; ⟨a, h0, h1, hΦ _ _ h2, hw _ _ _ h2 h3, h4⟩
  | o id ver p n cap h =>
    obtain ⟨v, sz, ver', own, e, h1, h2⟩ := h
    obtain ⟨v', ver2, own', e', h3, h4⟩ := rw_ e
    refine .o id ver p n cap ⟨v', sz, ver2, own', e', Nat.le_trans h1 h3, fun hv => ?_⟩
    obtain rfl := h4 (by omega)
    exact h2 (by omega)
  | ov id ver off len p cap hc h =>
    obtain ⟨v, sz, ver', own, e, h1, h2⟩ := h
    obtain ⟨v', ver2, own', e', h3, h4⟩ := rw_ e
    refine .ov id ver off len p cap hc ⟨v', sz, ver2, own', e', Nat.le_trans h1 h3, fun hv => ?_⟩
    obtain rfl := h4 (by omega)
    exact h2 (by omega)
  | cs id len esz p cap hc h =>
    refine .cs id len esz p cap hc fun j hj => ?_
    obtain ⟨b, off, e0, h1⟩ := h j hj
    refine ⟨b, off, e0, ?_⟩
    have := hσ (id + j)
    rcases h1 with e | e <;> rw [e] at this
    · exact this
    · exact .inr this
  | f fn fs cs us1 us2 h1 h2 hr1 hr2 ih1 ih2 => exact .f fn fs cs us1 us2 h1 h2 ih1 ih2
  | fnil => exact .fnil
  | m id b h =>
    have := hσ id
    rw [h] at this
    exact .m id b this
  | mnil => exact .mnil
  | agg cs us hl hr h1 ih => exact .agg cs us hl ih h1
  | tup cs us hl hr ih => exact .tup cs us hl ih
  | ifc t v x h ih => exact .ifc t v x ih
  | ifnil => exact .ifnil

theorem Rs.mono {σ σ' : Sg} {Φ Φ' : Im} {w w' : World} (hσ : ∀ id, (σ id).later (σ' id)) (hΦ : ∀ b o, Φ b o → Φ' b o)
    (hw : ∀ b o u, Φ b o → w.cell? ⟨b, o, Option.none⟩ = some u → w'.cell? ⟨b, o, Option.none⟩ = some u) {vs : List V} {us : List Value} (h : Rs σ Φ w vs us) : Rs σ' Φ' w' vs us :=
  ⟨h.1, fun j v u h1 h2 => (h.2 j v u h1 h2).mono hσ hΦ hw⟩

def isPl : V → Bool
  | .b _ => true
  | .i _ _ => true
  | .s _ => true
  | .sl _ _ _ => true
  | _ => false

theorem cellsOf_pl (t : STy) (x : El t) : (cellsOf t x).all isPl = true := by cases t <;> rfl

theorem isPl_mem {t : STy} {x : El t} {v : V} (h : v ∈ cellsOf t x) : isPl v = true := List.all_eq_true.1 (cellsOf_pl t x) v h

theorem isPl_flat {t : STy} {xs : List (El t)} {v : V} (h : v ∈ flat t xs) : isPl v = true := by
  simp only [AE.flat, List.mem_flatMap] at h
  obtain ⟨y, _, hy⟩ := h
  exact isPl_mem hy

theorem cellsOf_length (t : STy) (x : El t) : (cellsOf t x).length = t.sz := by cases t <;> rfl

theorem flat_length (t : STy) (xs : List (El t)) : (flat t xs).length = xs.length * t.sz := by
  induction xs with
  | nil => simp [AE.flat]
  | cons x xs ih =>
    have : flat t (x :: xs) = cellsOf t x ++ flat t xs := rfl
    rw [this, List.length_append, ih, cellsOf_length, List.length_cons, Nat.add_mul]
    omega

theorem sz_pos (t : STy) : 0 < t.sz := by cases t <;> decide

/-- What elements hold tells no places. -/
theorem R.pl {σ σ' : Sg} {Φ : Im} {w : World} {v : V} {u : Value} (hv : isPl v = true) (h : R σ Φ w v u) : R σ' Φ w v u := by
  induction h with
  | b x => exact .b x
  | i k n => exact .i k n
  | s x => exact .s x
  | sl t xs ex p cap vals hl hr hn he hw' ih =>
    exact .sl t xs ex p cap vals hl (fun j v u h1 h2 => ih j v u h1 h2 (isPl_flat (List.mem_of_getElem? h1))) hn he hw'
  | _ => simp [isPl] at hv

/-- The one that is told, the other told too. -/
theorem Rs.get {σ : Sg} {Φ : Im} {w : World} {vs : List V} {us : List Value} (h : Rs σ Φ w vs us) {j : Nat} {v : V} (hv : vs[j]? = some v) : ∃ u, us[j]? = some u ∧ R σ Φ w v u := by
  have hj : j < vs.length := (List.getElem?_eq_some_iff.1 hv).1
  have hj' : j < us.length := by rw [h.1]; exact hj
  exact ⟨us[j], by simp [hj'], h.2 j v _ hv (by simp [hj'])⟩

theorem Rs.nil {σ : Sg} {Φ : Im} {w : World} : Rs σ Φ w [] [] := ⟨rfl, fun _ _ _ h => by simp at h⟩

theorem Rs.cons {σ : Sg} {Φ : Im} {w : World} {v : V} {u : Value} {vs : List V} {us : List Value} (h : R σ Φ w v u) (hs : Rs σ Φ w vs us) : Rs σ Φ w (v :: vs) (u :: us) :=
  ⟨by simp [hs.1], fun j v' u' h1 h2 => by
    cases j with
    | zero => simp at h1 h2; subst h1; subst h2; exact h
    | succ j => simp at h1 h2; exact hs.2 j v' u' h1 h2⟩

theorem Rs.append {σ : Sg} {Φ : Im} {w : World} {vs vs' : List V} {us us' : List Value} (h : Rs σ Φ w vs us) (hs : Rs σ Φ w vs' us') : Rs σ Φ w (vs ++ vs') (us ++ us') :=
  ⟨by simp [h.1, hs.1], fun j v' u' h1 h2 => by
    by_cases hj : j < vs.length
    · rw [List.getElem?_append_left hj] at h1
      rw [List.getElem?_append_left (by rw [h.1]; exact hj)] at h2
      exact h.2 j v' u' h1 h2
    · rw [List.getElem?_append_right (by omega)] at h1
      rw [List.getElem?_append_right (by rw [h.1]; omega), h.1] at h2
      exact hs.2 _ v' u' h1 h2⟩

theorem Rs.take {σ : Sg} {Φ : Im} {w : World} {vs : List V} {us : List Value} (h : Rs σ Φ w vs us) (n : Nat) : Rs σ Φ w (vs.take n) (us.take n) :=
  ⟨by simp [h.1], fun j v' u' h1 h2 => by
    rw [List.getElem?_take] at h1 h2
    split at h1
    · rename_i hj; rw [if_pos hj] at h2; exact h.2 j v' u' h1 h2
    · cases h1⟩

theorem Rs.drop {σ : Sg} {Φ : Im} {w : World} {vs : List V} {us : List Value} (h : Rs σ Φ w vs us) (n : Nat) : Rs σ Φ w (vs.drop n) (us.drop n) :=
  ⟨by simp [h.1], fun j v' u' h1 h2 => by
    rw [List.getElem?_drop] at h1 h2
    exact h.2 _ v' u' h1 h2⟩

theorem Rs.set {σ : Sg} {Φ : Im} {w : World} {vs : List V} {us : List Value} (h : Rs σ Φ w vs us) (n : Nat) {v : V} {u : Value} (hv : R σ Φ w v u) : Rs σ Φ w (vs.set n v) (us.set n u) :=
  ⟨by simp [h.1], fun j v' u' h1 h2 => by
    rw [List.getElem?_set] at h1 h2
    split at h1
    · rename_i hj
      subst hj
      rw [if_pos rfl] at h2
      split at h1
      · split at h2
        · cases h1; cases h2; exact hv
        · cases h2
      · cases h1
    · rename_i hj
      rw [if_neg hj] at h2
      exact h.2 j v' u' h1 h2⟩

theorem Rs.imp {σ σ' : Sg} {Φ Φ' : Im} {w w' : World} {vs : List V} {us : List Value} (h : Rs σ Φ w vs us) (hh : ∀ v u, v ∈ vs → R σ Φ w v u → R σ' Φ' w' v u) : Rs σ' Φ' w' vs us :=
  ⟨h.1, fun j v u h1 h2 => hh v u (List.mem_of_getElem? h1) (h.2 j v u h1 h2)⟩

/-- A row of one's own: it lies nowhere, or it is a block, whole. -/
def OwnV (w : World) (e sz : Nat) (v : Value) (n : Nat) (vals : List Value) : Prop :=
  vals.length = n * sz ∧
  ((∃ p, v = .slice p 0 0 ∧ n = 0) ∨
   ∃ g cap cur, v = .slice (some ⟨g, 0, Option.none⟩) n cap ∧ 0 < cap ∧ w.heap[g]? = some (.cells cur e (0, 0)) ∧ n ≤ cap ∧ cap ≤ maxLen ∧ cur.size = cap * sz ∧ cur.toList.take (n * sz) = vals)

/-- A map's entries. -/
def EntOk (σ : Sg) (Φ : Im) (w : World) (ag : Bool) (es : List (Int × List V)) (ms : List MapEntry) : Prop :=
  ms.length = es.length ∧ ∀ (j : Nat) (e : Int × List V) (m : MapEntry), es[j]? = some e → ms[j]? = some m →
    m.key = .int .i64 e.1 ∧ ∃ us, Rs σ Φ w e.2 us ∧ (∀ u ∈ us, u.oneCell' = true) ∧ (ag = true → m.val = .agg us.toArray) ∧ (ag = false → us = [m.val])

/-- What is known of an object. -/
def ObOk (σ : Sg) (Φ : Im) (w : World) (id : Nat) : Ob → Prop
  | .c v => ∃ b off u, σ id = .cell b off ∧ w.cell? ⟨b, off, Option.none⟩ = some u ∧ w.frozen? ⟨b, off, Option.none⟩ = false ∧ u.oneCell' = true ∧ R σ Φ w v u
  | .row e t xs ver mu ap nz => ∃ v own, σ id = .row v t.sz ver own ∧ (nz = true → xs ≠ []) ∧ ((mu || ap) = true → own = true) ∧
      (own = true → ∃ vals, OwnV w e t.sz v xs.length vals ∧ Rs σ Φ w (flat t xs) vals ∧ ∀ u ∈ vals, u.oneCell' = true) ∧
      (own = false → R σ Φ w (.sl t xs false) v)
  | .map ag es => ∃ b ms cl, σ id = .map b ∧ w.heap[b]? = some (.map ms cl) ∧ EntOk σ Φ w ag es ms.toList
  | .tmap ag t es => ∃ b ms cl, σ id = .map b ∧ w.heap[b]? = some (.map ms cl) ∧ EntOk σ Φ w ag (es.map fun e => (e.1, cellsOf t e.2)) ms.toList
  | .dead => True

/-- Places lie apart from each other and from what nobody writes. -/
structure Hp (σ : Sg) (Φ : Im) (w : World) (n : Nat) : Prop where
  dom : ∀ id, n ≤ id → σ id = .none
  sep : ∀ i j b o, (σ i).covers b o → (σ j).covers b o → i = j
  imm : ∀ i b o, (σ i).covers b o → ¬ Φ b o
  lt : ∀ i b o, (σ i).covers b o → b < w.heap.size
  immlt : ∀ b o, Φ b o → b < w.heap.size

/-- A place is as it was. -/
def same (w w' : World) (b o : Nat) : Prop :=
  ∀ x, w.heap[b]? = some x → match x with
    | .cells c e fr => ∃ c', w'.heap[b]? = some (.cells c' e fr) ∧ c'.size = c.size ∧ c'[o]? = c[o]?
    | x => w'.heap[b]? = some x

theorem same.refl (w : World) (b o : Nat) : same w w b o := fun x hx => by
  cases x <;> first | exact hx | exact ⟨_, hx, rfl, rfl⟩

theorem same.of_heap {w w' : World} {b : Nat} (h : w'.heap[b]? = w.heap[b]?) (o : Nat) : same w w' b o := fun x hx => by
  rw [← h] at hx
  cases x <;> first | exact hx | exact ⟨_, hx, rfl, rfl⟩

theorem same.trans {w w' w'' : World} {b o : Nat} (h : same w w' b o) (k : same w' w'' b o) : same w w'' b o := fun x hx => by
  have := h x hx
  cases x with
  | cells c e fr =>
    obtain ⟨c', h1, h2, h3⟩ := this
    obtain ⟨c2, h4, h5, h6⟩ := k _ h1
    exact ⟨c2, h4, h5.trans h2, h6.trans h3⟩
  | _ => exact k _ this

theorem same.cell {w w' : World} {b o : Nat} (h : same w w' b o) {u : Value} (hu : w.cell? ⟨b, o, Option.none⟩ = some u) : w'.cell? ⟨b, o, Option.none⟩ = some u := by
  unfold World.cell? at hu ⊢
  dsimp only at hu ⊢
  cases hb : w.heap[b]? with
  | none => rw [hb] at hu; cases hu
  | some x =>
    rw [hb] at hu
    cases x with
    | cells c e fr =>
      obtain ⟨c', h1, h2, h3⟩ := h _ hb
      rw [h1]
      dsimp only at hu ⊢
      simpa [h3] using hu
    | _ => cases hu

theorem same.frozen {w w' : World} {b o : Nat} (h : same w w' b o) (hb : b < w.heap.size) : w'.frozen? ⟨b, o, Option.none⟩ = w.frozen? ⟨b, o, Option.none⟩ := by
  unfold World.frozen?
  dsimp only
  have hx : w.heap[b]? = some w.heap[b] := by simp [hb]
  have := h _ hx
  rw [hx]
  revert this
  cases w.heap[b] with
  | cells c e fr => rintro ⟨c', h1, _, _⟩; rw [h1]
  | _ => intro h1; rw [h1]

/-- If each place of a block is as it was, the block is. -/
theorem same.block {w w' : World} {b : Nat} (h : ∀ o, same w w' b o) (hb : b < w.heap.size) : w'.heap[b]? = w.heap[b]? := by
  have hx : w.heap[b]? = some w.heap[b] := by simp [hb]
  rw [hx]
  revert h hx
  cases w.heap[b] with
  | cells c e fr =>
    intro h hx
    obtain ⟨c', h1, h2, _⟩ := h 0 _ hx
    rw [h1]
    congr 2
    apply Array.ext_getElem?
    intro o
    obtain ⟨c2, h4, _, h6⟩ := h o _ hx
    rw [h1] at h4
    cases h4
    exact h6
  | _ => intro h hx; exact h 0 _ hx

/-- What a stretch of the run did: it wrote what it told, and what is from base on. -/
structure Tr (base : Nat) (W : Nat → Prop) (σ : Sg) (Φ : Im) (w : World) (σ' : Sg) (Φ' : Im) (w' : World) : Prop where
  os : w'.os = w.os
  tape : w'.tape = w.tape
  output : w'.output = w.output
  size : w.heap.size ≤ w'.heap.size
  keep : ∀ b o, b < w.heap.size → (∀ id, (W id ∨ base ≤ id) → ¬ (σ id).covers b o) → same w w' b o
  imm : ∀ b o, Φ b o → Φ' b o
  immNew : ∀ b o, Φ' b o → Φ b o ∨ w.heap.size ≤ b ∨ ∃ id, (W id ∨ base ≤ id) ∧ (σ id).covers b o
  later : ∀ id, id < base → (σ id).later (σ' id)
  eqs : ∀ id, id < base → ¬ W id → σ' id = σ id
  cov : ∀ id b o, (σ' id).covers b o → w.heap.size ≤ b ∨ (id < base ∧ (σ id).covers b o) ∨ (base ≤ id ∧ ∃ id0, base ≤ id0 ∧ (σ id0).covers b o)

theorem Tr.refl (base : Nat) (W : Nat → Prop) (σ : Sg) (Φ : Im) (w : World) : Tr base W σ Φ w σ Φ w where
  os := rfl
  tape := rfl
  output := rfl
  size := Nat.le_refl _
  keep := fun b o _ _ => same.refl w b o
  imm := fun _ _ h => h
  immNew := fun _ _ h => .inl h
  later := fun id _ => Lc.later.refl _
  eqs := fun _ _ _ => rfl
  cov := fun id b o h => by
    by_cases hid : id < base
    · exact .inr (.inl ⟨hid, h⟩)
    · exact .inr (.inr ⟨by omega, id, by omega, h⟩)

theorem Tr.trans {base : Nat} {W1 W2 W : Nat → Prop} {σ1 σ2 σ3 : Sg} {Φ1 Φ2 Φ3 : Im} {w1 w2 w3 : World} (h : Tr base W1 σ1 Φ1 w1 σ2 Φ2 w2) (k : Tr base W2 σ2 Φ2 w2 σ3 Φ3 w3)
    (h1 : ∀ id, W1 id → W id) (h2 : ∀ id, W2 id → W id) : Tr base W σ1 Φ1 w1 σ3 Φ3 w3 where
  os := k.os.trans h.os
  tape := k.tape.trans h.tape
  output := k.output.trans h.output
  size := Nat.le_trans h.size k.size
  keep := fun b o hb hn => by
    refine (h.keep b o hb fun id hid => hn id (hid.imp (h1 id) _root_.id)).trans (k.keep b o (Nat.lt_of_lt_of_le hb h.size) fun id hid hc => ?_)
    rcases h.cov id b o hc with h3 | ⟨h3, h4⟩ | ⟨h3, id0, h4, h5⟩
    · omega
    · rcases hid with hid | hid
      · exact hn id (.inl (h2 id hid)) h4
      · omega
    · exact hn id0 (.inr h4) h5
  imm := fun b o hh => k.imm b o (h.imm b o hh)
  immNew := fun b o hh => by
    rcases k.immNew b o hh with h3 | h3 | ⟨id, h3, h4⟩
    · rcases h.immNew b o h3 with h5 | h5 | ⟨id, h5, h6⟩
      · exact .inl h5
      · exact .inr (.inl h5)
      · exact .inr (.inr ⟨id, h5.imp (h1 id) _root_.id, h6⟩)
    · exact .inr (.inl (Nat.le_trans h.size h3))
    · rcases h.cov id b o h4 with h5 | ⟨h5, h6⟩ | ⟨h5, id0, h6, h7⟩
      · exact .inr (.inl h5)
      · exact .inr (.inr ⟨id, h3.imp (h2 id) _root_.id, h6⟩)
      · exact .inr (.inr ⟨id0, .inr h6, h7⟩)
  later := fun id hid => (h.later id hid).trans (k.later id hid)
  eqs := fun id hid hn => (k.eqs id hid fun hw => hn (h2 id hw)).trans (h.eqs id hid fun hw => hn (h1 id hw))
  cov := fun id b o hc => by
    rcases k.cov id b o hc with h3 | ⟨h3, h4⟩ | ⟨h3, id0, h4, h5⟩
    · exact .inl (Nat.le_trans h.size h3)
    · rcases h.cov id b o h4 with h5 | h5 | ⟨h5, _⟩
      · exact .inl h5
      · exact .inr (.inl h5)
      · omega
    · rcases h.cov id0 b o h5 with h6 | ⟨h6, _⟩ | ⟨h6, id1, h7, h8⟩
      · exact .inl h6
      · omega
      · exact .inr (.inr ⟨h3, id1, h7, h8⟩)

/-- The same stretch, told from a smaller base on. -/
theorem Tr.weaken {base base' : Nat} {W W' : Nat → Prop} {σ σ' : Sg} {Φ Φ' : Im} {w w' : World} (h : Tr base W σ Φ w σ' Φ' w') (hb : base' ≤ base) (hW : ∀ id, id < base' → W id → W' id) : Tr base' W' σ Φ w σ' Φ' w' where
  os := h.os
  tape := h.tape
  output := h.output
  size := h.size
  keep := fun b o hb' hn => h.keep b o hb' fun id hid => hn id (by
    by_cases h1 : id < base'
    · rcases hid with hid | hid
      · exact .inl (hW id h1 hid)
      · omega
    · exact .inr (by omega))
  imm := h.imm
  immNew := fun b o hh => by
    rcases h.immNew b o hh with h1 | h1 | ⟨id, h1, h2⟩
    · exact .inl h1
    · exact .inr (.inl h1)
    · refine .inr (.inr ⟨id, ?_, h2⟩)
      by_cases h3 : id < base'
      · rcases h1 with h1 | h1
        · exact .inl (hW id h3 h1)
        · omega
      · exact .inr (by omega)
  later := fun id hid => h.later id (by omega)
  eqs := fun id hid hn => h.eqs id (by omega) fun hw => hn (hW id hid hw)
  cov := fun id b o hc => by
    rcases h.cov id b o hc with h1 | ⟨h1, h2⟩ | ⟨h1, id0, h2, h3⟩
    · exact .inl h1
    · by_cases h3 : id < base'
      · exact .inr (.inl ⟨h3, h2⟩)
      · exact .inr (.inr ⟨by omega, id, by omega, h2⟩)
    · exact .inr (.inr ⟨by omega, id0, by omega, h3⟩)

/-- Cells that nobody writes stay. -/
theorem Tr.cells {base : Nat} {W : Nat → Prop} {σ σ' : Sg} {Φ Φ' : Im} {w w' : World} {n : Nat} (h : Tr base W σ Φ w σ' Φ' w') (hp : Hp σ Φ w n) (b o : Nat) (u : Value) (hΦ : Φ b o)
    (hu : w.cell? ⟨b, o, Option.none⟩ = some u) : w'.cell? ⟨b, o, Option.none⟩ = some u :=
  (h.keep b o (hp.immlt b o hΦ) fun id _ hc => hp.imm id b o hc hΦ).cell hu

/-- Values stay, if all places are below base. -/
theorem Tr.value {base : Nat} {W : Nat → Prop} {σ σ' : Sg} {Φ Φ' : Im} {w w' : World} (h : Tr base W σ Φ w σ' Φ' w') (hp : Hp σ Φ w base) {v : V} {x : Value} (hv : R σ Φ w v x) : R σ' Φ' w' v x :=
  hv.mono (fun id => by
    by_cases hid : id < base
    · exact h.later id hid
    · rw [hp.dom id (by omega)]; trivial) h.imm (h.cells hp)

theorem Tr.values {base : Nat} {W : Nat → Prop} {σ σ' : Sg} {Φ Φ' : Im} {w w' : World} (h : Tr base W σ Φ w σ' Φ' w') (hp : Hp σ Φ w base) {vs : List V} {us : List Value} (hv : Rs σ Φ w vs us) : Rs σ' Φ' w' vs us :=
  hv.imp fun _ _ _ hr => h.value hp hr

/-- Objects that aren't written stay. -/
theorem Tr.ob {base : Nat} {W : Nat → Prop} {σ σ' : Sg} {Φ Φ' : Im} {w w' : World} (h : Tr base W σ Φ w σ' Φ' w') (hp : Hp σ Φ w base) {id : Nat} (hid : id < base) (hW : ¬ W id) {ob : Ob} (ho : ObOk σ Φ w id ob) :
    ObOk σ' Φ' w' id ob := by
  have hs : σ' id = σ id := h.eqs id hid hW
  have hk : ∀ b o, (σ id).covers b o → same w w' b o := fun b o hc => h.keep b o (hp.lt id b o hc) fun id' hid' hc' => by
    obtain rfl := hp.sep _ _ b o hc hc'
    rcases hid' with h1 | h1
    · exact hW h1
    · omega
  cases ob with
  | c v =>
    obtain ⟨b, off, u, h1, h2, h3, h4, h5⟩ := ho
    have hc : (σ id).covers b off := by rw [h1]; exact ⟨rfl, rfl⟩
    exact ⟨b, off, u, hs.trans h1, (hk b off hc).cell h2, by rw [(hk b off hc).frozen (hp.lt id b off hc)]; exact h3, h4, h.value hp h5⟩
  | row e t xs ver mu ap nz =>
    obtain ⟨v, own, h1, h2, h3, h4, h5⟩ := ho
    refine ⟨v, own, hs.trans h1, h2, h3, fun ho => ?_, fun ho => h.value hp (h5 ho)⟩
    obtain ⟨vals, ⟨ho1, ho2⟩, hr, h1c⟩ := h4 ho
    refine ⟨vals, ⟨ho1, ?_⟩, h.values hp hr, h1c⟩
    rcases ho2 with ho2 | ⟨g, cap, cur, hv, hc, hg, r⟩
    · exact .inl ho2
    · refine .inr ⟨g, cap, cur, hv, hc, ?_, r⟩
      have hcov : ∀ o, (σ id).covers g o := fun o => by
        rw [h1, ho, hv]
        cases cap with
        | zero => omega
        | succ cap => rfl
      rw [same.block (fun o => hk g o (hcov o)) (hp.lt id g 0 (hcov 0))]
      exact hg
  | map ag es =>
    obtain ⟨b, ms, cl, h1, h2, h3, h4⟩ := ho
    have hcov : ∀ o, (σ id).covers b o := fun o => by rw [h1]; rfl
    refine ⟨b, ms, cl, hs.trans h1, ?_, h3, fun j e m he hm => ?_⟩
    · rw [same.block (fun o => hk b o (hcov o)) (hp.lt id b 0 (hcov 0))]; exact h2
    · obtain ⟨h6, us, h7, h8⟩ := h4 j e m he hm
      exact ⟨h6, us, h.values hp h7, h8⟩
  | tmap ag t es =>
    obtain ⟨b, ms, cl, h1, h2, h3, h4⟩ := ho
    have hcov : ∀ o, (σ id).covers b o := fun o => by rw [h1]; rfl
    refine ⟨b, ms, cl, hs.trans h1, ?_, h3, fun j e m he hm => ?_⟩
    · rw [same.block (fun o => hk b o (hcov o)) (hp.lt id b 0 (hcov 0))]; exact h2
    · obtain ⟨h6, us, h7, h8⟩ := h4 j e m he hm
      exact ⟨h6, us, h.values hp h7, h8⟩
  | dead => trivial

/-- What an operation made of a heap of n objects. -/
structure Res (n n' : Nat) (H' : List Ob) (W : Nat → Prop) (σ : Sg) (Φ : Im) (w : World) (σ' : Sg) (Φ' : Im) (w' : World) : Prop where
  hp : Hp σ' Φ' w' n'
  tr : Tr n W σ Φ w σ' Φ' w'
  ob : ∀ id, (W id ∨ n ≤ id) → ∀ o, H'[id]? = some o → ObOk σ' Φ' w' id o

theorem Res.refl {n : Nat} {H : List Ob} {σ : Sg} {Φ : Im} {w : World} (hp : Hp σ Φ w n) (hn : H.length = n) : Res n n H (fun _ => False) σ Φ w σ Φ w where
  hp := hp
  tr := Tr.refl _ _ _ _ _
  ob := fun id hid o ho => by
    rcases hid with h | h
    · cases h
    · have := (List.getElem?_eq_some_iff.1 ho).1
      omega

end Go.AE
