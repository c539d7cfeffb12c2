/- A function's spec, from what the evaluator says of it. -/
import Derived.Test.YthdmhibmokhpgaaGreatAESound9
set_option linter.unusedVariables false
set_option linter.unusedSimpArgs false
namespace Go.AE

variable {P : Program} {C : Cfg} {β : Type}

theorem holds_of_ev (hC : CfgOk P C) {d g : Nat} {vs : List V} {fin : V → Option β} {y : β} (h : evFn C d g vs fin = some y) {enc : β → V} (hdec : ∀ v y, fin v = some y → ∀ (σ : Sg) (Φ : Im) (w : World) (u : Value), R σ Φ w v u → R (fun _ => .none) Φ w (enc y) u) :
    ∀ (Φ : Im) (w : World) (us : List Value), (∀ b o, Φ b o → b < w.heap.size) → Rs (fun _ => .none) Φ w vs us →
      Calls P g us.toArray w fun e w' => ∃ u Φ', e = .returned u ∧ w.grownBy w' Option.none ∧ (∀ b o, Φ b o → Φ' b o) ∧ (∀ b o, Φ' b o → Φ b o ∨ (w.heap.size ≤ b ∧ b < w'.heap.size)) ∧ R (fun _ => .none) Φ' w' (enc y) u := by
  intro Φ w us hΦ hr
  unfold evFn at h
  obtain ⟨v, H', l, h1, _, _, hs⟩ := (ev_sound hC d).2.2 g vs [] [] _ y h
  have hp : Hp (fun _ => .none) Φ w ([] : List Ob).length := ⟨fun _ _ => rfl, fun _ _ _ _ h => h.elim, fun _ _ _ h => h.elim, fun _ _ _ h => h.elim, hΦ⟩
  refine Calls.mono (hs (fun _ => .none) Φ w us hp (fun id _ o ho => by simp at ho) hr) fun e w' he => ?_
  obtain ⟨u, σ', Φ', rfl, hR, hres⟩ := he
  have hob : ∀ id o, H'[id]? = some o → ObOk σ' Φ' w' id o := fun id o ho => hres.ob id (.inr (Nat.zero_le _)) o ho
  have hg : w.grownBy w' Option.none := ⟨hres.tr.os, hres.tr.tape, hres.tr.output, hres.tr.size, fun k hk _ => same.block (fun o => hres.tr.keep k o hk fun id _ h => h) hk⟩
  have hnew : ∀ b o, Φ' b o → Φ b o ∨ w.heap.size ≤ b := fun b o h => by
    rcases hres.tr.immNew b o h with h2 | h2 | ⟨id, _, h2⟩
    · exact .inl h2
    · exact .inr h2
    · exact h2.elim
  have hcov : ∀ id b o, (σ' id).covers b o → w.heap.size ≤ b := fun id b o h => by
    rcases hres.tr.cov id b o h with h2 | ⟨_, h2⟩ | ⟨_, _, _, h2⟩
    · exact h2
    · exact h2.elim
    · exact h2.elim
  have key : ∃ σ2 Φ2, R σ2 Φ2 w' (fz H' v) u ∧ (∀ b o, Φ' b o → Φ2 b o) ∧ (∀ b o, Φ2 b o → Φ' b o ∨ w.heap.size ≤ b) ∧ ∀ b o, Φ2 b o → b < w'.heap.size := by
    have go : ∀ (args : List V) (xs : List Value), Rs σ' Φ' w' args xs → ∃ σ2 Φ2, Rs σ2 Φ2 w' (args.map (fz2 H')) xs ∧ (∀ b o, Φ' b o → Φ2 b o) ∧ (∀ b o, Φ2 b o → Φ' b o ∨ w.heap.size ≤ b) ∧ ∀ b o, Φ2 b o → b < w'.heap.size := by
      intro args xs hx
      obtain ⟨σ2, Φ2, ht⟩ := told_exists hres.hp hx fun id _ o ho => hob id o ho
      refine ⟨σ2, Φ2, told_args hres.hp ht (fun id _ o ho => hob id o ho) hx, ht.res.tr.imm, fun b o h => ?_, ht.res.hp.immlt⟩
      rcases ht.res.tr.immNew b o h with h2 | h2 | ⟨id, _, h2⟩
      · exact .inl h2
      · exact .inr (Nat.le_trans hres.tr.size h2)
      · exact .inr (hcov id b o h2)
    cases v with
    | tup cs =>
      cases hR with
      | tup _ ws hl hrs =>
        obtain ⟨σ2, Φ2, h2, h3⟩ := go cs ws ⟨hl, hrs⟩
        exact ⟨σ2, Φ2, .tup _ ws h2.1 h2.2, h3⟩
    | _ =>
      obtain ⟨σ2, Φ2, h2, h3⟩ := go [_] [u] (Rs.cons hR Rs.nil)
      exact ⟨σ2, Φ2, h2.2 0 _ u rfl rfl, h3⟩
  obtain ⟨σ2, Φ2, h2, h3, h4, h5⟩ := key
  refine ⟨u, Φ2, rfl, hg, fun b o h => h3 b o (hres.tr.imm b o h), fun b o h => ?_, hdec _ y h1 σ2 Φ2 w' u h2⟩
  rcases h4 b o h with h6 | h6
  · rcases hnew b o h6 with h7 | h7
    · exact .inl h7
    · exact .inr ⟨h7, h5 b o h⟩
  · exact .inr ⟨h6, h5 b o h⟩

end Go.AE

/- A loop's spec, from what the evaluator says of one round. -/
namespace Go.AE

variable {P : Program} {C : Cfg}

theorem weakH_get (hs : List Nat) : ∀ (H : List Ob) (i0 j : Nat), (weakH hs i0 H)[j]? = (H[j]?).map fun o => if hs.contains (i0 + j) then o else match o with | .c _ => .c .u | _ => .dead
  | [], _, _ => by simp [weakH]
  | o :: H, i0, j => by
    simp only [weakH]
    cases j with
    | zero => cases o <;> simp
    | succ j =>
      simp only [List.getElem?_cons_succ, weakH_get hs H (i0 + 1) j]
      have : i0 + 1 + j = i0 + (j + 1) := by omega
      rw [this]

theorem weakH_length (hs : List Nat) : ∀ (H : List Ob) (i0 : Nat), (weakH hs i0 H).length = H.length
  | [], _ => rfl
  | o :: H, i0 => by simp [weakH, weakH_length hs H (i0 + 1)]

theorem weak_sound {T : Nat → Prop} {σ : Sg} {Φ : Im} {st : St} {a : Act} {w : World} (h : Rel T σ Φ st a w) (ks hs : List Nat) : Rel T σ Φ (st.weak ks hs) a w where
  hp := by
    have : (st.weak ks hs).H.length = st.H.length := weakH_length hs st.H 0
    rw [this]
    exact h.hp
  ob := fun id hid o ho => by
    have ho' : (weakH hs 0 st.H)[id]? = some o := ho
    rw [weakH_get, Nat.zero_add] at ho'
    cases hq : st.H[id]? with
    | none => rw [hq] at ho'; cases ho'
    | some o0 =>
      rw [hq] at ho'
      simp only [Option.map_some, Option.some.injEq] at ho'
      have hob := h.ob id hid o0 hq
      split at ho'
      · subst ho'; exact hob
      · cases o0 with
        | c v =>
          subst ho'
          obtain ⟨b, off, u, h1, h2, h3, h4, _⟩ := hob
          exact ⟨b, off, u, h1, h2, h3, h4, .u _⟩
        | _ => subst ho'; trivial
  tm := forget_sound ks h.tm 0
  df := h.df

/-- A state that has the shape is made again of its leaves. -/
theorem Rel.made {T : Nat → Prop} {σ : Sg} {Φ : Im} {st : St} {a : Act} {w : World} (h : Rel T σ Φ st a w) {tp : List Ps} {op : List Po} {k : List LfK} {x : Tup k} (hx : (mtSt tp op st).bind (toTup k) = some x) : Rel T σ Φ (mkSt tp op (ofTup k x)) a w := by
  cases hm : mtSt tp op st with
  | none => rw [hm] at hx; cases hx
  | some l =>
    rw [hm] at hx
    have hx : toTup k l = some x := hx
    obtain ⟨e1, e2⟩ := mkSt_mtSt hm
    rw [ofTup_toTup hx]
    refine ⟨by rw [e2]; exact h.hp, by rw [e2]; exact h.ob, by rw [e1]; exact h.tm, h.df⟩

end Go.AE

/- A loop's spec, from what the evaluator says of one round: all rounds. -/
namespace Go.AE

variable {P : Program} {C : Cfg}

theorem mkH_length : ∀ (os : List Po) (l : List Lf), (mkH os l).1.length = os.length
  | [], _ => rfl
  | p :: ps, l => by simp [mkH, mkH_length ps]

theorem mkSt_length (tp : List Ps) (op : List Po) (l : List Lf) : (mkSt tp op l).H.length = op.length := mkH_length op _

theorem rounds_ok {A B : Type} (hC : CfgOk P C) {f base n D : Nat} {ks : List Nat} {tp : List Ps} {op : List Po} {k : List LfK} {body : Code} {F : Nat → Option Code} (hFo : CodeOk P C f F) (hli : LI F body) (hbn : base ≤ n) (hbo : base ≤ op.length)
    {stp : (Tup k → Option (A ⊕ B)) → Tup k → Option (A ⊕ B)} {KK : Ex → St → Option (A ⊕ B)}
    (heq : ∀ nx x, evC C f base D body (mkSt tp op (ofTup k x)) (fun e st => match e with | .normal => (match (mtSt tp op (st.cut ks base n)).bind (toTup k) with | some y => nx y | none => none) | e => KK e st) = stp nx x)
    {exA exB : Ex} {encA : A → St} {encB : B → St}
    (hK : ∀ e st y, KK e st = some y → match y with
      | .inl y => e = exA ∧ ∀ (σ : Sg) (Φ : Im) (a : Act) (w : World), Rel (fun _ => True) σ Φ st a w → Rel (fun _ => True) σ Φ (encA y) a w
      | .inr y => e = exB ∧ ∀ (σ : Sg) (Φ : Im) (a : Act) (w : World), Rel (fun _ => True) σ Φ st a w → Rel (fun _ => True) σ Φ (encB y) a w) :
    ∀ (m : Nat) (x : Tup k) (y : A ⊕ B), natIter stp m x = some y → ∀ (σ : Sg) (Φ : Im) (a : Act) (w : World), Rel (fun _ => True) σ Φ (mkSt tp op (ofTup k x)) a w → ∀ Q : Exit → Act → World → Prop,
      (match y with
        | .inl y => ∀ σ' Φ' a' w', Rel (fun _ => True) σ' Φ' (encA y) a' w' → Tr base (fun _ => True) σ Φ w σ' Φ' w' → Q exA.ex a' w'
        | .inr y => ∀ σ' Φ' a' w', Rel (fun _ => True) σ' Φ' (encB y) a' w' → Tr base (fun _ => True) σ Φ w σ' Φ' w' → Q exB.ex a' w') → LoopWp P body Q a w
  | 0, x, y, h => by simp [natIter] at h
  | m + 1, x, y, h => by
    intro σ Φ a w hr Q hQ
    simp only [natIter] at h
    rw [← heq] at h
    obtain ⟨e, st1, l1, h1, habs, hs⟩ := (ev_sound hC D).1 f base F hFo body _ _ y hli (by rw [mkSt_length]; exact hbo) h
    have leave : ∀ e0, e0 = e → e0 ≠ .normal → KK e0 st1 = some y → LoopWp P body Q a w := by
      intro e0 he hn hk
      subst he
      have hk' := hK e0 st1 y hk
      cases y with
      | inl y =>
        obtain ⟨rfl, hk'⟩ := hk'
        exact round_exit hn hs (fun _ => True) σ Φ a w (fun _ _ => trivial) (fun _ _ => trivial) hr Q fun σ' Φ' a' w' h3 h4 => hQ σ' Φ' a' w' (hk' σ' Φ' a' w' h3) (h4.weaken (Nat.le_refl _) fun _ _ _ => trivial)
      | inr y =>
        obtain ⟨rfl, hk'⟩ := hk'
        exact round_exit hn hs (fun _ => True) σ Φ a w (fun _ _ => trivial) (fun _ _ => trivial) hr Q fun σ' Φ' a' w' h3 h4 => hQ σ' Φ' a' w' (hk' σ' Φ' a' w' h3) (h4.weaken (Nat.le_refl _) fun _ _ _ => trivial)
    cases e with
    | normal =>
      dsimp only at h1
      split at h1
      · rename_i x' hx'
        refine LoopWp.round (hs (fun _ => True) σ Φ a w (fun _ _ => trivial) (fun _ _ => trivial) hr _ fun σ1 Φ1 a1 w1 h3 h4 => ?_)
        obtain ⟨σ2, h5, h6⟩ := cut_sound (fun _ => trivial) h3 ks hbn (fun _ => True)
        refine rounds_ok hC hFo hli hbn hbo heq hK m x' y h1 σ2 Φ1 a1 w1 (h5.made hx') Q ?_
        have htr := h4.trans h6 (W := fun _ => True) (fun _ _ => trivial) (fun _ _ => trivial)
        cases y with
        | inl y => exact fun σ' Φ' a' w' h7 h8 => hQ σ' Φ' a' w' h7 (htr.trans h8 (fun _ _ => trivial) fun _ _ => trivial)
        | inr y => exact fun σ' Φ' a' w' h7 h8 => hQ σ' Φ' a' w' h7 (htr.trans h8 (fun _ _ => trivial) fun _ _ => trivial)
      · cases h1
    | exit j => exact leave _ rfl (by simp) h1
    | goto j => exact leave _ rfl (by simp) h1
    | ret => exact leave _ rfl (by simp) h1

end Go.AE
