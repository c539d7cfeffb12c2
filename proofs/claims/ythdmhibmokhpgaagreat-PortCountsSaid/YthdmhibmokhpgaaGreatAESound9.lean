/- Calls are sound: whole; what the tables promise. -/
import Derived.Test.YthdmhibmokhpgaaGreatAESound8
set_option linter.unusedVariables false
set_option linter.unusedSimpArgs false
namespace Go.AE

variable {P : Program} {C : Cfg} {ρ : Type}

/-- A copy of a slice. -/
def CloneOk (P : Program) (g e : Nat) (t : STy) : Prop := Enter P g ∧ ∀ (w : World) (p : Option Addr) (n cap : Nat) (vals : List Value), vals.length = n * t.sz → ReadAt w p vals → (∀ u ∈ vals, u.oneCell' = true) → n ≤ most →
  Calls P g #[.slice p n cap] w fun e' w' => ∃ p' cap', e' = .returned (.slice p' n cap') ∧ w.grownBy w' Option.none ∧ OwnV w' e t.sz (.slice p' n cap') n vals ∧ ∀ b, blk (.slice p' n cap') = some b → w.heap.size ≤ b ∧ b < w'.heap.size

/-- Room for a slice. -/
def GrowOk (P : Program) (g e : Nat) (t : STy) : Prop := Enter P g ∧ ∀ (w : World) (n : Int), 0 ≤ n → n ≤ most →
  Calls P g #[.slice Option.none 0 0, .int .i64 n] w fun e' w' => ∃ p' cap', e' = .returned (.slice p' 0 cap') ∧ w.grownBy w' Option.none ∧ OwnV w' e t.sz (.slice p' 0 cap') 0 [] ∧ ∀ b, blk (.slice p' 0 cap') = some b → w.heap.size ≤ b ∧ b < w'.heap.size

/-- The closure that exchanges a frame. -/
def SetOk (P : Program) (g : Nat) : Prop := ∀ {ρ : Type} (args : List V) (H : List Ob) (lg : Lg) (K : V → List Ob → Lg → Option ρ) (r : ρ), evSet args H lg K = some r → ∃ v H' l, K v H' (l ++ lg) = some r ∧ Fr H l H' ∧ CallSem P g args H v H' l

/-- What the tables promise. -/
structure CfgOk (P : Program) (C : Cfg) : Prop where
  mixed : P.follows .mixedOrders = true
  ty : TysOk P C
  fns : FnsOk P C
  specs : ∀ g s, look g C.specs = some s → SpecOk P g s
  clones : ∀ g x, look g C.clones = some x → CloneOk P g x.1 x.2
  grows : ∀ g x, look g C.grows = some x → GrowOk P g x.1 x.2
  sets : ∀ g, C.sets.contains g = true → SetOk P g
  eqs : ∀ T, C.eqs.contains T = true → EqOk P T

theorem evCallF_sound (hC : CfgOk P C) {call : CallK ρ} (hcall : CallOk P call) {g : Nat} {args : List V} {H : List Ob} {lg : Lg} {K : V → List Ob → Lg → Option ρ} {r : ρ} (h : evCallF C call g args H lg K = some r) :
    ∃ v H' l, K v H' (l ++ lg) = some r ∧ Fr H l H' ∧ CallSem P g args H v H' l := by
  unfold evCallF at h
  split at h
  · rename_i e t hcl
    obtain ⟨hen, hok⟩ := hC.clones g _ hcl
    split at h
    · rename_i x
      split at h
      · rename_i ys nz lx hsrc
        obtain ⟨hlx, hsrc⟩ := srcOf_sound hsrc
        rcases brB_some h with ⟨hb, h'⟩ | ⟨_, h'⟩
        · have hb := of_decide_eq_true hb
          refine ⟨_, _, lx, h', Fr.push _ _ _, hen, fun σ Φ w us hp ho hr => ?_⟩
          obtain ⟨u, us', rfl, hu, hr'⟩ := hr.split
          obtain rfl := hr'.nil_inv
          obtain ⟨p, cap, vals, rfl, hrs, h1, _, hread⟩ := hsrc σ Φ w u ho hu
          have hvl := hrs.1
          rw [flat_length] at hvl
          refine Calls.mono (hok w p ys.length cap vals hvl hread h1 hb) fun e' w' he => ?_
          obtain ⟨p', cap', rfl, hg, hO, hblk⟩ := he
          obtain ⟨σ', hres, hR⟩ := res_newRow (H := H) (e := e) (t := t) (xs := ys) (mu := true) (ap := true) (nz := false) hlx hp hg rfl hO hrs h1 hblk (fun e => by cases e)
          exact ⟨_, σ', Φ, rfl, hR, hres⟩
        · cases h'
      · cases h
    · cases h
  · split at h
    · rename_i e t hcl
      obtain ⟨hen, hok⟩ := hC.grows g _ hcl
      split at h
      · rename_i n
        rcases brB_some h with ⟨hb, h'⟩ | ⟨_, h'⟩
        · simp only [Bool.and_eq_true, decide_eq_true_eq] at hb
          refine ⟨_, _, [], h', Fr.push _ _ _, hen, fun σ Φ w us hp ho hr => ?_⟩
          obtain ⟨u, us', rfl, hu, hr'⟩ := hr.split
          obtain ⟨u2, us2, rfl, hu2, hr2⟩ := hr'.split
          obtain rfl := hr2.nil_inv
          cases hu; cases hu2
          refine Calls.mono (hok w n hb.1 hb.2) fun e' w' he => ?_
          obtain ⟨p', cap', rfl, hg, hO, hblk⟩ := he
          obtain ⟨σ', hres, hR⟩ := res_newRow (H := H) (e := e) (t := t) (xs := []) (mu := true) (ap := true) (nz := false) wrote_nil hp hg rfl hO Rs.nil (fun _ h => by cases h) hblk (fun e => by cases e)
          exact ⟨_, σ', Φ, rfl, hR, hres⟩
        · cases h'
      · cases h
    · split at h
      · rename_i j m hsp
        split at h
        · rename_i k n hj
          obtain ⟨q, hq, rfl, h'⟩ := brI_some h
          have : args.set j (.i k (q : Int)) = args := set_self hj
          rw [this] at h'
          exact evCallS_sound hC.specs hcall h'
        · cases h
      · split at h
        · rename_i hset
          exact hC.sets g hset args H lg K r h
        · exact evCallS_sound hC.specs hcall h

theorem callsOk (hC : CfgOk P C) (call : CallK ρ) (hcall : CallOk P call) : CallsOk P C call := ⟨hC.eqs, fun _ _ _ _ _ _ h => evCallF_sound hC hcall h⟩

/-- The evaluator is sound. -/
theorem ev_sound (hC : CfgOk P C) (d : Nat) : EvOk P C ρ d := evC_sound hC.mixed hC.ty hC.fns (callsOk hC) d

end Go.AE
