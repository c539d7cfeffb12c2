/- What the printed proofs of specs use. -/
import Derived.Test.YthdmhibmokhpgaaGreatAESpec4
set_option linter.unusedVariables false
set_option linter.unusedSimpArgs false
namespace Go.AE

variable {P : Program} {C : Cfg}

theorem inl_of {A B : Type} {o : Option A} {y : A ⊕ B} (h : o.map Sum.inl = some y) : ∃ a, y = .inl a ∧ o = some a := by
  cases o with
  | none => cases h
  | some a => cases h; exact ⟨a, rfl, rfl⟩

theorem inr_of {A B : Type} {o : Option B} {y : A ⊕ B} (h : o.map Sum.inr = some y) : ∃ a, y = .inr a ∧ o = some a := by
  cases o with
  | none => cases h
  | some a => cases h; exact ⟨a, rfl, rfl⟩

/-- A loop's way out. -/
theorem side_ok {tp : List Ps} {op : List Po} {k : List LfK} {ks hs : List Nat} {st : St} {x : Tup k} (h : (mtSt tp op (st.weak ks hs)).bind (toTup k) = some x) (σ : Sg) (Φ : Im) (a : Act) (w : World) (hr : Rel (fun _ => True) σ Φ st a w) :
    Rel (fun _ => True) σ Φ (mkSt tp op (ofTup k x)) a w := (weak_sound hr ks hs).made h

/-- A loop's spec, put together. -/
theorem lspec_ok {A B : Type} (hC : CfgOk P C) {f base n D : Nat} {ks : List Nat} {tp : List Ps} {op : List Po} {k : List LfK} {body : Code} {F : Nat → Option Code} (hFo : CodeOk P C f F) (hli : LI F body) (hbn : base ≤ n) (hbo : base ≤ op.length)
    {stp : (Tup k → Option (A ⊕ B)) → Tup k → Option (A ⊕ B)} {KK : Ex → St → Option (A ⊕ B)}
    (heq : ∀ nx x, evC C f base D body (mkSt tp op (ofTup k x)) (fun e st => match e with | .normal => (match (mtSt tp op (st.cut ks base n)).bind (toTup k) with | some y => nx y | none => none) | e => KK e st) = stp nx x)
    {exA exB : Ex} {encA : A → St} {encB : B → St}
    (hK : ∀ e st y, KK e st = some y → match y with
      | .inl y => e = exA ∧ ∀ (σ : Sg) (Φ : Im) (a : Act) (w : World), Rel (fun _ => True) σ Φ st a w → Rel (fun _ => True) σ Φ (encA y) a w
      | .inr y => e = exB ∧ ∀ (σ : Sg) (Φ : Im) (a : Act) (w : World), Rel (fun _ => True) σ Φ st a w → Rel (fun _ => True) σ Φ (encB y) a w)
    (N : Nat) : LSpecOk P body ⟨base, A, B, fun st => ((mtSt tp op st).bind (toTup k)).map (natIter stp N), exA, encA, exB, encB⟩ := by
  intro st y h σ Φ a w hr Q hQ
  dsimp only at h
  cases hx : (mtSt tp op st).bind (toTup k) with
  | none => rw [hx] at h; cases h
  | some x =>
    rw [hx] at h
    simp only [Option.map_some, Option.some.injEq] at h
    refine rounds_ok hC hFo hli hbn hbo heq hK N x y h σ Φ a w (hr.made hx) Q ?_
    cases y with
    | inl y => exact hQ
    | inr y => exact hQ

end Go.AE
