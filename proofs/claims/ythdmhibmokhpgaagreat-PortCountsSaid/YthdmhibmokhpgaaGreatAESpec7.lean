/- What the printed specs are made of: arguments read one by one; loops' ways out. (Printed by spec7.py.) -/
import Derived.Test.YthdmhibmokhpgaaGreatAESpec6
set_option linter.unusedVariables false
set_option linter.unusedSimpArgs false
namespace Go.AE

variable {P : Program} {C : Cfg}

def fin1 {X : Type} (d : V → Option X) : V → Option X := fun v => d v
def fin2 {X Y : Type} (d : V → Option X) (e : V → Option Y) : V → Option (X × Y)
  | .tup [v, w] => match d v, e w with | some x, some y => some (x, y) | _, _ => none
  | _ => none
def fin3 {X Y Z : Type} (d : V → Option X) (e : V → Option Y) (f : V → Option Z) : V → Option (X × Y × Z)
  | .tup [v, w, r] => match d v, e w, f r with | some x, some y, some z => some (x, y, z) | _, _, _ => none
  | _ => none
def enc2 {X Y : Type} (d : X → V) (e : Y → V) : X × Y → V := fun y => .tup [d y.1, e y.2]
def enc3 {X Y Z : Type} (d : X → V) (e : Y → V) (f : Z → V) : X × Y × Z → V := fun y => .tup [d y.1, e y.2.1, f y.2.2]

theorem tup_ok {cs cs' : List V} {σ : Sg} {Φ : Im} {w : World} {u : Value} (hr : R σ Φ w (.tup cs) u) (h : ∀ us, Rs σ Φ w cs us → Rs (fun _ => .none) Φ w cs' us) : R (fun _ => .none) Φ w (.tup cs') u := by
  cases hr with
  | tup _ us hl hr =>
    have := h us ⟨hl, hr⟩
    exact .tup _ us this.1 this.2

theorem fin2_ok {X Y : Type} {d : V → Option X} {e : V → Option Y} {ed : X → V} {ee : Y → V} (hd : DecOk d ed) (he : DecOk e ee) : DecOk (fin2 d e) (enc2 ed ee) := fun v x h σ Φ w u hr => by
  unfold fin2 at h
  split at h
  · split at h
    · rename_i h1 h2
      cases h
      refine tup_ok hr fun us hrs => ?_
      obtain ⟨u0, us, rfl, r0, hrs⟩ := hrs.split
      obtain ⟨u1, us, rfl, r1, hrs⟩ := hrs.split
      obtain rfl := hrs.nil_inv
      exact Rs.cons (hd _ _ h1 _ _ _ _ r0) (Rs.cons (he _ _ h2 _ _ _ _ r1) Rs.nil)
    · cases h
  · cases h

theorem fin3_ok {X Y Z : Type} {d : V → Option X} {e : V → Option Y} {f : V → Option Z} {ed : X → V} {ee : Y → V} {ef : Z → V} (hd : DecOk d ed) (he : DecOk e ee) (hf : DecOk f ef) : DecOk (fin3 d e f) (enc3 ed ee ef) := fun v x h σ Φ w u hr => by
  unfold fin3 at h
  split at h
  · split at h
    · rename_i h1 h2 h3
      cases h
      refine tup_ok hr fun us hrs => ?_
      obtain ⟨u0, us, rfl, r0, hrs⟩ := hrs.split
      obtain ⟨u1, us, rfl, r1, hrs⟩ := hrs.split
      obtain ⟨u2, us, rfl, r2, hrs⟩ := hrs.split
      obtain rfl := hrs.nil_inv
      exact Rs.cons (hd _ _ h1 _ _ _ _ r0) (Rs.cons (he _ _ h2 _ _ _ _ r1) (Rs.cons (hf _ _ h3 _ _ _ _ r2) Rs.nil))
    · cases h
  · cases h

/-- A spec, of what holds of arguments that are told without places. -/
theorem holds_dec {g : Nat} {vs : List V} {v : V} {cs : List V} (h : ∀ (σ : Sg) (Φ : Im) (w : World) (us : List Value), Rs σ Φ w vs us → Rs (fun _ => .none) Φ w cs us)
    (hc : ∀ (Φ : Im) (w : World) (us : List Value), (∀ b o, Φ b o → b < w.heap.size) → Rs (fun _ => .none) Φ w cs us →
      Calls P g us.toArray w fun e w' => ∃ u Φ', e = .returned u ∧ w.grownBy w' Option.none ∧ (∀ b o, Φ b o → Φ' b o) ∧ (∀ b o, Φ' b o → Φ b o ∨ (w.heap.size ≤ b ∧ b < w'.heap.size)) ∧ R (fun _ => .none) Φ' w' v u) : Holds P g vs v :=
  fun σ Φ w us hΦ hr => hc Φ w us hΦ (h σ Φ w us hr)

def run0 {β : Type}  (p : Option β) : List V → Option (Option β)
  | [] => some p
  | _ => none

theorem run0_ok (hC : CfgOk P C) {g D : Nat} (hen : Enter P g) {β : Type}  {p : Option β} {fin : V → Option β} {enc : β → V} (hfin : DecOk fin enc)
    (hev : evFn C D g [] fin = p) (keeps : Bool) : SpecOk P g ⟨β, run0  p, enc, keeps⟩ := by
  refine ⟨hen, fun vs y h => ?_⟩
  dsimp only at h
  unfold run0 at h
  split at h
  · simp only [Option.some.injEq] at h
    rw [← hev] at h
    exact holds_dec (cs := []) (fun σ Φ w us hr => by obtain rfl := hr.nil_inv; exact Rs.nil) (holds_of_ev hC h hfin)
  · cases h

def run1 {X0 β : Type} (d0 : V → Option X0) (p : X0 → Option β) : List V → Option (Option β)
  | [v0] => match d0 v0 with | some x0 => some (p x0) | _ => none
  | _ => none

theorem run1_ok (hC : CfgOk P C) {g D : Nat} (hen : Enter P g) {X0 β : Type} {d0 : V → Option X0} {e0 : X0 → V} (o0 : DecOk d0 e0) {p : X0 → Option β} {fin : V → Option β} {enc : β → V} (hfin : DecOk fin enc)
    (hev : ∀ x0, evFn C D g [e0 x0] fin = p x0) (keeps : Bool) : SpecOk P g ⟨β, run1 d0 p, enc, keeps⟩ := by
  refine ⟨hen, fun vs y h => ?_⟩
  dsimp only at h
  unfold run1 at h
  split at h
  · split at h
    · rename_i h0
      simp only [Option.some.injEq] at h
      rw [← hev] at h
      refine holds_dec (cs := [_]) (fun σ Φ w us hr => ?_) (holds_of_ev hC h hfin)
      obtain ⟨u0, us, rfl, r0, hr⟩ := hr.split
      obtain rfl := hr.nil_inv
      exact Rs.cons (o0 _ _ h0 _ _ _ _ r0) Rs.nil
    · cases h
  · cases h

def run2 {X0 X1 β : Type} (d0 : V → Option X0) (d1 : V → Option X1) (p : X0 → X1 → Option β) : List V → Option (Option β)
  | [v0, v1] => match d0 v0, d1 v1 with | some x0, some x1 => some (p x0 x1) | _, _ => none
  | _ => none

theorem run2_ok (hC : CfgOk P C) {g D : Nat} (hen : Enter P g) {X0 X1 β : Type} {d0 : V → Option X0} {e0 : X0 → V} {d1 : V → Option X1} {e1 : X1 → V} (o0 : DecOk d0 e0) (o1 : DecOk d1 e1) {p : X0 → X1 → Option β} {fin : V → Option β} {enc : β → V} (hfin : DecOk fin enc)
    (hev : ∀ x0 x1, evFn C D g [e0 x0, e1 x1] fin = p x0 x1) (keeps : Bool) : SpecOk P g ⟨β, run2 d0 d1 p, enc, keeps⟩ := by
  refine ⟨hen, fun vs y h => ?_⟩
  dsimp only at h
  unfold run2 at h
  split at h
  · split at h
    · rename_i h0 h1
      simp only [Option.some.injEq] at h
      rw [← hev] at h
      refine holds_dec (cs := [_, _]) (fun σ Φ w us hr => ?_) (holds_of_ev hC h hfin)
      obtain ⟨u0, us, rfl, r0, hr⟩ := hr.split
      obtain ⟨u1, us, rfl, r1, hr⟩ := hr.split
      obtain rfl := hr.nil_inv
      exact Rs.cons (o0 _ _ h0 _ _ _ _ r0) (Rs.cons (o1 _ _ h1 _ _ _ _ r1) Rs.nil)
    · cases h
  · cases h

def run3 {X0 X1 X2 β : Type} (d0 : V → Option X0) (d1 : V → Option X1) (d2 : V → Option X2) (p : X0 → X1 → X2 → Option β) : List V → Option (Option β)
  | [v0, v1, v2] => match d0 v0, d1 v1, d2 v2 with | some x0, some x1, some x2 => some (p x0 x1 x2) | _, _, _ => none
  | _ => none

theorem run3_ok (hC : CfgOk P C) {g D : Nat} (hen : Enter P g) {X0 X1 X2 β : Type} {d0 : V → Option X0} {e0 : X0 → V} {d1 : V → Option X1} {e1 : X1 → V} {d2 : V → Option X2} {e2 : X2 → V} (o0 : DecOk d0 e0) (o1 : DecOk d1 e1) (o2 : DecOk d2 e2) {p : X0 → X1 → X2 → Option β} {fin : V → Option β} {enc : β → V} (hfin : DecOk fin enc)
    (hev : ∀ x0 x1 x2, evFn C D g [e0 x0, e1 x1, e2 x2] fin = p x0 x1 x2) (keeps : Bool) : SpecOk P g ⟨β, run3 d0 d1 d2 p, enc, keeps⟩ := by
  refine ⟨hen, fun vs y h => ?_⟩
  dsimp only at h
  unfold run3 at h
  split at h
  · split at h
    · rename_i h0 h1 h2
      simp only [Option.some.injEq] at h
      rw [← hev] at h
      refine holds_dec (cs := [_, _, _]) (fun σ Φ w us hr => ?_) (holds_of_ev hC h hfin)
      obtain ⟨u0, us, rfl, r0, hr⟩ := hr.split
      obtain ⟨u1, us, rfl, r1, hr⟩ := hr.split
      obtain ⟨u2, us, rfl, r2, hr⟩ := hr.split
      obtain rfl := hr.nil_inv
      exact Rs.cons (o0 _ _ h0 _ _ _ _ r0) (Rs.cons (o1 _ _ h1 _ _ _ _ r1) (Rs.cons (o2 _ _ h2 _ _ _ _ r2) Rs.nil))
    · cases h
  · cases h

def run4 {X0 X1 X2 X3 β : Type} (d0 : V → Option X0) (d1 : V → Option X1) (d2 : V → Option X2) (d3 : V → Option X3) (p : X0 → X1 → X2 → X3 → Option β) : List V → Option (Option β)
  | [v0, v1, v2, v3] => match d0 v0, d1 v1, d2 v2, d3 v3 with | some x0, some x1, some x2, some x3 => some (p x0 x1 x2 x3) | _, _, _, _ => none
  | _ => none

theorem run4_ok (hC : CfgOk P C) {g D : Nat} (hen : Enter P g) {X0 X1 X2 X3 β : Type} {d0 : V → Option X0} {e0 : X0 → V} {d1 : V → Option X1} {e1 : X1 → V} {d2 : V → Option X2} {e2 : X2 → V} {d3 : V → Option X3} {e3 : X3 → V} (o0 : DecOk d0 e0) (o1 : DecOk d1 e1) (o2 : DecOk d2 e2) (o3 : DecOk d3 e3) {p : X0 → X1 → X2 → X3 → Option β} {fin : V → Option β} {enc : β → V} (hfin : DecOk fin enc)
    (hev : ∀ x0 x1 x2 x3, evFn C D g [e0 x0, e1 x1, e2 x2, e3 x3] fin = p x0 x1 x2 x3) (keeps : Bool) : SpecOk P g ⟨β, run4 d0 d1 d2 d3 p, enc, keeps⟩ := by
  refine ⟨hen, fun vs y h => ?_⟩
  dsimp only at h
  unfold run4 at h
  split at h
  · split at h
    · rename_i h0 h1 h2 h3
      simp only [Option.some.injEq] at h
      rw [← hev] at h
      refine holds_dec (cs := [_, _, _, _]) (fun σ Φ w us hr => ?_) (holds_of_ev hC h hfin)
      obtain ⟨u0, us, rfl, r0, hr⟩ := hr.split
      obtain ⟨u1, us, rfl, r1, hr⟩ := hr.split
      obtain ⟨u2, us, rfl, r2, hr⟩ := hr.split
      obtain ⟨u3, us, rfl, r3, hr⟩ := hr.split
      obtain rfl := hr.nil_inv
      exact Rs.cons (o0 _ _ h0 _ _ _ _ r0) (Rs.cons (o1 _ _ h1 _ _ _ _ r1) (Rs.cons (o2 _ _ h2 _ _ _ _ r2) (Rs.cons (o3 _ _ h3 _ _ _ _ r3) Rs.nil)))
    · cases h
  · cases h

def run5 {X0 X1 X2 X3 X4 β : Type} (d0 : V → Option X0) (d1 : V → Option X1) (d2 : V → Option X2) (d3 : V → Option X3) (d4 : V → Option X4) (p : X0 → X1 → X2 → X3 → X4 → Option β) : List V → Option (Option β)
  | [v0, v1, v2, v3, v4] => match d0 v0, d1 v1, d2 v2, d3 v3, d4 v4 with | some x0, some x1, some x2, some x3, some x4 => some (p x0 x1 x2 x3 x4) | _, _, _, _, _ => none
  | _ => none

theorem run5_ok (hC : CfgOk P C) {g D : Nat} (hen : Enter P g) {X0 X1 X2 X3 X4 β : Type} {d0 : V → Option X0} {e0 : X0 → V} {d1 : V → Option X1} {e1 : X1 → V} {d2 : V → Option X2} {e2 : X2 → V} {d3 : V → Option X3} {e3 : X3 → V} {d4 : V → Option X4} {e4 : X4 → V} (o0 : DecOk d0 e0) (o1 : DecOk d1 e1) (o2 : DecOk d2 e2) (o3 : DecOk d3 e3) (o4 : DecOk d4 e4) {p : X0 → X1 → X2 → X3 → X4 → Option β} {fin : V → Option β} {enc : β → V} (hfin : DecOk fin enc)
    (hev : ∀ x0 x1 x2 x3 x4, evFn C D g [e0 x0, e1 x1, e2 x2, e3 x3, e4 x4] fin = p x0 x1 x2 x3 x4) (keeps : Bool) : SpecOk P g ⟨β, run5 d0 d1 d2 d3 d4 p, enc, keeps⟩ := by
  refine ⟨hen, fun vs y h => ?_⟩
  dsimp only at h
  unfold run5 at h
  split at h
  · split at h
    · rename_i h0 h1 h2 h3 h4
      simp only [Option.some.injEq] at h
      rw [← hev] at h
      refine holds_dec (cs := [_, _, _, _, _]) (fun σ Φ w us hr => ?_) (holds_of_ev hC h hfin)
      obtain ⟨u0, us, rfl, r0, hr⟩ := hr.split
      obtain ⟨u1, us, rfl, r1, hr⟩ := hr.split
      obtain ⟨u2, us, rfl, r2, hr⟩ := hr.split
      obtain ⟨u3, us, rfl, r3, hr⟩ := hr.split
      obtain ⟨u4, us, rfl, r4, hr⟩ := hr.split
      obtain rfl := hr.nil_inv
      exact Rs.cons (o0 _ _ h0 _ _ _ _ r0) (Rs.cons (o1 _ _ h1 _ _ _ _ r1) (Rs.cons (o2 _ _ h2 _ _ _ _ r2) (Rs.cons (o3 _ _ h3 _ _ _ _ r3) (Rs.cons (o4 _ _ h4 _ _ _ _ r4) Rs.nil))))
    · cases h
  · cases h

def run6 {X0 X1 X2 X3 X4 X5 β : Type} (d0 : V → Option X0) (d1 : V → Option X1) (d2 : V → Option X2) (d3 : V → Option X3) (d4 : V → Option X4) (d5 : V → Option X5) (p : X0 → X1 → X2 → X3 → X4 → X5 → Option β) : List V → Option (Option β)
  | [v0, v1, v2, v3, v4, v5] => match d0 v0, d1 v1, d2 v2, d3 v3, d4 v4, d5 v5 with | some x0, some x1, some x2, some x3, some x4, some x5 => some (p x0 x1 x2 x3 x4 x5) | _, _, _, _, _, _ => none
  | _ => none

theorem run6_ok (hC : CfgOk P C) {g D : Nat} (hen : Enter P g) {X0 X1 X2 X3 X4 X5 β : Type} {d0 : V → Option X0} {e0 : X0 → V} {d1 : V → Option X1} {e1 : X1 → V} {d2 : V → Option X2} {e2 : X2 → V} {d3 : V → Option X3} {e3 : X3 → V} {d4 : V → Option X4} {e4 : X4 → V} {d5 : V → Option X5} {e5 : X5 → V} (o0 : DecOk d0 e0) (o1 : DecOk d1 e1) (o2 : DecOk d2 e2) (o3 : DecOk d3 e3) (o4 : DecOk d4 e4) (o5 : DecOk d5 e5) {p : X0 → X1 → X2 → X3 → X4 → X5 → Option β} {fin : V → Option β} {enc : β → V} (hfin : DecOk fin enc)
    (hev : ∀ x0 x1 x2 x3 x4 x5, evFn C D g [e0 x0, e1 x1, e2 x2, e3 x3, e4 x4, e5 x5] fin = p x0 x1 x2 x3 x4 x5) (keeps : Bool) : SpecOk P g ⟨β, run6 d0 d1 d2 d3 d4 d5 p, enc, keeps⟩ := by
  refine ⟨hen, fun vs y h => ?_⟩
  dsimp only at h
  unfold run6 at h
  split at h
  · split at h
    · rename_i h0 h1 h2 h3 h4 h5
      simp only [Option.some.injEq] at h
      rw [← hev] at h
      refine holds_dec (cs := [_, _, _, _, _, _]) (fun σ Φ w us hr => ?_) (holds_of_ev hC h hfin)
      obtain ⟨u0, us, rfl, r0, hr⟩ := hr.split
      obtain ⟨u1, us, rfl, r1, hr⟩ := hr.split
      obtain ⟨u2, us, rfl, r2, hr⟩ := hr.split
      obtain ⟨u3, us, rfl, r3, hr⟩ := hr.split
      obtain ⟨u4, us, rfl, r4, hr⟩ := hr.split
      obtain ⟨u5, us, rfl, r5, hr⟩ := hr.split
      obtain rfl := hr.nil_inv
      exact Rs.cons (o0 _ _ h0 _ _ _ _ r0) (Rs.cons (o1 _ _ h1 _ _ _ _ r1) (Rs.cons (o2 _ _ h2 _ _ _ _ r2) (Rs.cons (o3 _ _ h3 _ _ _ _ r3) (Rs.cons (o4 _ _ h4 _ _ _ _ r4) (Rs.cons (o5 _ _ h5 _ _ _ _ r5) Rs.nil)))))
    · cases h
  · cases h

def run7 {X0 X1 X2 X3 X4 X5 X6 β : Type} (d0 : V → Option X0) (d1 : V → Option X1) (d2 : V → Option X2) (d3 : V → Option X3) (d4 : V → Option X4) (d5 : V → Option X5) (d6 : V → Option X6) (p : X0 → X1 → X2 → X3 → X4 → X5 → X6 → Option β) : List V → Option (Option β)
  | [v0, v1, v2, v3, v4, v5, v6] => match d0 v0, d1 v1, d2 v2, d3 v3, d4 v4, d5 v5, d6 v6 with | some x0, some x1, some x2, some x3, some x4, some x5, some x6 => some (p x0 x1 x2 x3 x4 x5 x6) | _, _, _, _, _, _, _ => none
  | _ => none

theorem run7_ok (hC : CfgOk P C) {g D : Nat} (hen : Enter P g) {X0 X1 X2 X3 X4 X5 X6 β : Type} {d0 : V → Option X0} {e0 : X0 → V} {d1 : V → Option X1} {e1 : X1 → V} {d2 : V → Option X2} {e2 : X2 → V} {d3 : V → Option X3} {e3 : X3 → V} {d4 : V → Option X4} {e4 : X4 → V} {d5 : V → Option X5} {e5 : X5 → V} {d6 : V → Option X6} {e6 : X6 → V} (o0 : DecOk d0 e0) (o1 : DecOk d1 e1) (o2 : DecOk d2 e2) (o3 : DecOk d3 e3) (o4 : DecOk d4 e4) (o5 : DecOk d5 e5) (o6 : DecOk d6 e6) {p : X0 → X1 → X2 → X3 → X4 → X5 → X6 → Option β} {fin : V → Option β} {enc : β → V} (hfin : DecOk fin enc)
    (hev : ∀ x0 x1 x2 x3 x4 x5 x6, evFn C D g [e0 x0, e1 x1, e2 x2, e3 x3, e4 x4, e5 x5, e6 x6] fin = p x0 x1 x2 x3 x4 x5 x6) (keeps : Bool) : SpecOk P g ⟨β, run7 d0 d1 d2 d3 d4 d5 d6 p, enc, keeps⟩ := by
  refine ⟨hen, fun vs y h => ?_⟩
  dsimp only at h
  unfold run7 at h
  split at h
  · split at h
    · rename_i h0 h1 h2 h3 h4 h5 h6
      simp only [Option.some.injEq] at h
      rw [← hev] at h
      refine holds_dec (cs := [_, _, _, _, _, _, _]) (fun σ Φ w us hr => ?_) (holds_of_ev hC h hfin)
      obtain ⟨u0, us, rfl, r0, hr⟩ := hr.split
      obtain ⟨u1, us, rfl, r1, hr⟩ := hr.split
      obtain ⟨u2, us, rfl, r2, hr⟩ := hr.split
      obtain ⟨u3, us, rfl, r3, hr⟩ := hr.split
      obtain ⟨u4, us, rfl, r4, hr⟩ := hr.split
      obtain ⟨u5, us, rfl, r5, hr⟩ := hr.split
      obtain ⟨u6, us, rfl, r6, hr⟩ := hr.split
      obtain rfl := hr.nil_inv
      exact Rs.cons (o0 _ _ h0 _ _ _ _ r0) (Rs.cons (o1 _ _ h1 _ _ _ _ r1) (Rs.cons (o2 _ _ h2 _ _ _ _ r2) (Rs.cons (o3 _ _ h3 _ _ _ _ r3) (Rs.cons (o4 _ _ h4 _ _ _ _ r4) (Rs.cons (o5 _ _ h5 _ _ _ _ r5) (Rs.cons (o6 _ _ h6 _ _ _ _ r6) Rs.nil))))))
    · cases h
  · cases h

theorem hand1_ok {g : Nat} (hen : Enter P g) {X0 β : Type} {d0 : V → Option X0} {e0 : X0 → V} (o0 : DecOk d0 e0) {f : X0 → β} {enc : β → V} (keeps : Bool)
    (h : ∀ x0 (Φ : Im) (w : World) (us : List Value), (∀ b o, Φ b o → b < w.heap.size) → Rs (fun _ => .none) Φ w [e0 x0] us →
      Calls P g us.toArray w fun e w' => ∃ u Φ', e = .returned u ∧ w.grownBy w' Option.none ∧ (∀ b o, Φ b o → Φ' b o) ∧ (∀ b o, Φ' b o → Φ b o ∨ (w.heap.size ≤ b ∧ b < w'.heap.size)) ∧ R (fun _ => .none) Φ' w' (enc (f x0)) u) :
    SpecOk P g ⟨β, run1 d0 (fun x0 => some (f x0)), enc, keeps⟩ := by
  refine ⟨hen, fun vs y h0 => ?_⟩
  dsimp only at h0
  unfold run1 at h0
  split at h0
  · split at h0
    · rename_i h1
      simp only [Option.some.injEq] at h0
      subst h0
      refine holds_dec (cs := [e0 _]) (fun σ Φ w us hr => ?_) (h _)
      obtain ⟨u0, us, rfl, r0, hr⟩ := hr.split
      obtain rfl := hr.nil_inv
      exact Rs.cons (o0 _ _ h1 _ _ _ _ r0) Rs.nil
    · cases h0
  · cases h0

theorem hand2_ok {g : Nat} (hen : Enter P g) {X0 X1 β : Type} {d0 : V → Option X0} {e0 : X0 → V} {d1 : V → Option X1} {e1 : X1 → V} (o0 : DecOk d0 e0) (o1 : DecOk d1 e1) {f : X0 → X1 → β} {enc : β → V} (keeps : Bool)
    (h : ∀ x0 x1 (Φ : Im) (w : World) (us : List Value), (∀ b o, Φ b o → b < w.heap.size) → Rs (fun _ => .none) Φ w [e0 x0, e1 x1] us →
      Calls P g us.toArray w fun e w' => ∃ u Φ', e = .returned u ∧ w.grownBy w' Option.none ∧ (∀ b o, Φ b o → Φ' b o) ∧ (∀ b o, Φ' b o → Φ b o ∨ (w.heap.size ≤ b ∧ b < w'.heap.size)) ∧ R (fun _ => .none) Φ' w' (enc (f x0 x1)) u) :
    SpecOk P g ⟨β, run2 d0 d1 (fun x0 x1 => some (f x0 x1)), enc, keeps⟩ := by
  refine ⟨hen, fun vs y h0 => ?_⟩
  dsimp only at h0
  unfold run2 at h0
  split at h0
  · split at h0
    · rename_i h1 h2
      simp only [Option.some.injEq] at h0
      subst h0
      refine holds_dec (cs := [e0 _, e1 _]) (fun σ Φ w us hr => ?_) (h _ _)
      obtain ⟨u0, us, rfl, r0, hr⟩ := hr.split
      obtain ⟨u1, us, rfl, r1, hr⟩ := hr.split
      obtain rfl := hr.nil_inv
      exact Rs.cons (o0 _ _ h1 _ _ _ _ r0) (Rs.cons (o1 _ _ h2 _ _ _ _ r1) Rs.nil)
    · cases h0
  · cases h0

theorem hand3_ok {g : Nat} (hen : Enter P g) {X0 X1 X2 β : Type} {d0 : V → Option X0} {e0 : X0 → V} {d1 : V → Option X1} {e1 : X1 → V} {d2 : V → Option X2} {e2 : X2 → V} (o0 : DecOk d0 e0) (o1 : DecOk d1 e1) (o2 : DecOk d2 e2) {f : X0 → X1 → X2 → β} {enc : β → V} (keeps : Bool)
    (h : ∀ x0 x1 x2 (Φ : Im) (w : World) (us : List Value), (∀ b o, Φ b o → b < w.heap.size) → Rs (fun _ => .none) Φ w [e0 x0, e1 x1, e2 x2] us →
      Calls P g us.toArray w fun e w' => ∃ u Φ', e = .returned u ∧ w.grownBy w' Option.none ∧ (∀ b o, Φ b o → Φ' b o) ∧ (∀ b o, Φ' b o → Φ b o ∨ (w.heap.size ≤ b ∧ b < w'.heap.size)) ∧ R (fun _ => .none) Φ' w' (enc (f x0 x1 x2)) u) :
    SpecOk P g ⟨β, run3 d0 d1 d2 (fun x0 x1 x2 => some (f x0 x1 x2)), enc, keeps⟩ := by
  refine ⟨hen, fun vs y h0 => ?_⟩
  dsimp only at h0
  unfold run3 at h0
  split at h0
  · split at h0
    · rename_i h1 h2 h3
      simp only [Option.some.injEq] at h0
      subst h0
      refine holds_dec (cs := [e0 _, e1 _, e2 _]) (fun σ Φ w us hr => ?_) (h _ _ _)
      obtain ⟨u0, us, rfl, r0, hr⟩ := hr.split
      obtain ⟨u1, us, rfl, r1, hr⟩ := hr.split
      obtain ⟨u2, us, rfl, r2, hr⟩ := hr.split
      obtain rfl := hr.nil_inv
      exact Rs.cons (o0 _ _ h1 _ _ _ _ r0) (Rs.cons (o1 _ _ h2 _ _ _ _ r1) (Rs.cons (o2 _ _ h3 _ _ _ _ r2) Rs.nil))
    · cases h0
  · cases h0


/-- Is it this way out? -/
def exEq : Ex → Ex → Bool
  | .normal, .normal => true
  | .exit i, .exit j => i == j
  | .goto i, .goto j => i == j
  | .ret, .ret => true
  | _, _ => false

theorem exEq_eq {a b : Ex} (h : exEq a b = true) : a = b := by
  cases a <;> cases b <;> first | rfl | (simp [exEq] at h; subst h; rfl) | (simp [exEq] at h)

/-- What a way out tells. -/
def sideD (tp : List Ps) (op : List Po) (k : List LfK) (ks hs : List Nat) (st : St) : Option (Tup k) := (mtSt tp op (st.weak ks hs)).bind (toTup k)
def sideN (_ : St) : Option Empty := none
def encD (tp : List Ps) (op : List Po) (k : List LfK) (y : Tup k) : St := mkSt tp op (ofTup k y)
def encN (_ : Empty) : St := ⟨[], [], []⟩

def SideOk {A : Type} (d : St → Option A) (enc : A → St) : Prop := ∀ st y, d st = some y → ∀ (σ : Sg) (Φ : Im) (a : Act) (w : World), Rel (fun _ => True) σ Φ st a w → Rel (fun _ => True) σ Φ (enc y) a w

theorem sideD_ok (tp : List Ps) (op : List Po) (k : List LfK) (ks hs : List Nat) : SideOk (sideD tp op k ks hs) (encD tp op k) := fun _ _ h σ Φ a w hr => side_ok h σ Φ a w hr
theorem sideN_ok : SideOk sideN encN := fun _ y _ => y.elim

def loopK {A B : Type} (exA : Ex) (dA : St → Option A) (exB : Ex) (dB : St → Option B) (e : Ex) (st : St) : Option (A ⊕ B) :=
  match exEq e exA with
  | true => match dA st with
    | some y => some (.inl y)
    | none => match exEq e exB with
      | true => (dB st).map .inr
      | false => none
  | false => match exEq e exB with
    | true => (dB st).map .inr
    | false => none

theorem loopK_ok {A B : Type} {exA exB : Ex} {dA : St → Option A} {dB : St → Option B} {encA : A → St} {encB : B → St} (hA : SideOk dA encA) (hB : SideOk dB encB) : ∀ e st y, loopK exA dA exB dB e st = some y → match y with
      | .inl y => e = exA ∧ ∀ (σ : Sg) (Φ : Im) (a : Act) (w : World), Rel (fun _ => True) σ Φ st a w → Rel (fun _ => True) σ Φ (encA y) a w
      | .inr y => e = exB ∧ ∀ (σ : Sg) (Φ : Im) (a : Act) (w : World), Rel (fun _ => True) σ Φ st a w → Rel (fun _ => True) σ Φ (encB y) a w := by
  intro e st y h
  have side : ∀ y, exEq e exB = true → (dB st).map Sum.inr = some y → match y with
      | .inl y => e = exA ∧ ∀ (σ : Sg) (Φ : Im) (a : Act) (w : World), Rel (fun _ => True) σ Φ st a w → Rel (fun _ => True) σ Φ (encA y) a w
      | .inr y => e = exB ∧ ∀ (σ : Sg) (Φ : Im) (a : Act) (w : World), Rel (fun _ => True) σ Φ st a w → Rel (fun _ => True) σ Φ (encB y) a w := by
    intro y hb h
    obtain ⟨b, rfl, hd⟩ := inr_of h
    exact ⟨exEq_eq hb, hB st b hd⟩
  unfold loopK at h
  split at h
  · rename_i he
    split at h
    · rename_i x hx
      cases h
      exact ⟨exEq_eq he, hA st x hx⟩
    · split at h
      · rename_i hb
        exact side y hb h
      · cases h
  · split at h
    · rename_i hb
      exact side y hb h
    · cases h

theorem loopsOf_mem {F : Nat → Option Code} {id : Nat} {b : Code} : ∀ {c : Code}, loopIn id c = some b → ∀ p ∈ loopsOf b, p ∈ loopsOf c
  | .seq x y, h, p, hp => by
    simp only [loopIn] at h
    split at h
    · rename_i r hr
      cases h
      exact List.mem_append_left _ (loopsOf_mem (F := F) hr p hp)
    · exact List.mem_append_right _ (loopsOf_mem (F := F) h p hp)
  | .cond _ x y, h, p, hp => by
    simp only [loopIn] at h
    split at h
    · rename_i r hr
      cases h
      exact List.mem_append_left _ (loopsOf_mem (F := F) hr p hp)
    · exact List.mem_append_right _ (loopsOf_mem (F := F) h p hp)
  | .block j c, h, p, hp => by
    by_cases hl : ∃ b, c = .loop b
    · obtain ⟨c, rfl⟩ := hl
      simp only [loopIn] at h
      split at h
      · cases h
        exact List.mem_cons_of_mem _ hp
      · exact List.mem_cons_of_mem _ (loopsOf_mem (F := F) h p hp)
    · have hl : ∀ b, c ≠ .loop b := fun b e => hl ⟨b, e⟩
      rw [loopIn_block hl] at h
      rw [loopsOf_block hl]
      exact loopsOf_mem (F := F) h p hp
  | .loop a, h, p, hp => loopsOf_mem (F := F) (c := a) h p hp
  | .scope a, h, p, hp => loopsOf_mem (F := F) (c := a) h p hp
  | .skip, h, _, _ => by cases h
  | .region .., h, _, _ => by cases h
  | .exit .., h, _, _ => by cases h
  | .label .., h, _, _ => by cases h
  | .goto .., h, _, _ => by cases h
  | .ret, h, _, _ => by cases h
  | .refuse .., h, _, _ => by cases h
  | .rangeFunc .., h, _, _ => by cases h

theorem FnAt.loop_li {g : Nat} {fn : Func} (h : FnAt P g fn) {c : Code} (hc : fn.body = some c) {id : Nat} (hid : (loopIn id c).isSome = true) : LI (fun id => loopIn id c) (loopBody fn id) := by
  obtain ⟨b, hb⟩ := Option.isSome_iff_exists.1 hid
  have e : loopBody fn id = b := by
    simp only [loopBody, hc, hb]
    rfl
  rw [e]
  refine LI_of b fun p hp => ?_
  have hm := loopsOf_mem (F := fun id => loopIn id c) hb p hp
  have := h.ok
  simp only [fnOkB, hc, Bool.and_eq_true] at this
  show loopIn p.1 c = some p.2
  rw [loopIn_look]
  exact look_mem this.2 p hm

/-- What is done behind a round. -/
def loopC {ρ : Type} (tp : List Ps) (op : List Po) (k : List LfK) (ks : List Nat) (base n : Nat) (KK : Ex → St → Option ρ) (nx : Tup k → Option ρ) (e : Ex) (st : St) : Option ρ := match e with
  | .normal => (match (mtSt tp op (st.cut ks base n)).bind (toTup k) with | some y => nx y | none => none)
  | e => KK e st

/-- The evaluator comes to a plain step at a round. -/
def LoopEq (C : Cfg) (f base D : Nat) (fn : Func) (id : Nat) (ks : List Nat) (n : Nat) (tp : List Ps) (op : List Po) (k : List LfK) {A B : Type} (exA : Ex) (dA : St → Option A) (exB : Ex) (dB : St → Option B) (stp : (Tup k → Option (A ⊕ B)) → Tup k → Option (A ⊕ B)) : Prop :=
  ∀ nx x, evC C f base D (loopBody fn id) (mkSt tp op (ofTup k x)) (loopC tp op k ks base n (loopK exA dA exB dB) nx) = stp nx x

def loopSp (base : Nat) (tp : List Ps) (op : List Po) (k : List LfK) {A B : Type} (stp : (Tup k → Option (A ⊕ B)) → Tup k → Option (A ⊕ B)) (N : Nat) (exA : Ex) (encA : A → St) (exB : Ex) (encB : B → St) : LSpec :=
  ⟨base, A, B, fun st => ((mtSt tp op st).bind (toTup k)).map (natIter stp N), exA, encA, exB, encB⟩

/-- A loop's spec, put together as it is printed. -/
theorem loop_ok {A B : Type} {D : Nat} (hC : CfgOk P C) {f base n id : Nat} {fn : Func} (hf : look f C.fns = some fn) (hat : FnAt P f fn) (hid : (match fn.body with | some c => (loopIn id c).isSome | none => false) = true)
    {ks : List Nat} {tp : List Ps} {op : List Po} {k : List LfK} (hb : (Nat.ble base n && Nat.ble base op.length) = true)
    {stp : (Tup k → Option (A ⊕ B)) → Tup k → Option (A ⊕ B)} {exA exB : Ex} {dA : St → Option A} {dB : St → Option B} {encA : A → St} {encB : B → St} (hA : SideOk dA encA) (hB : SideOk dB encB)
    (heq : LoopEq C f base D fn id ks n tp op k exA dA exB dB stp) (N : Nat) :
    LSpecOk P (loopBody fn id) (loopSp base tp op k stp N exA encA exB encB) := by
  simp only [Bool.and_eq_true] at hb
  cases hc : fn.body with
  | none => rw [hc] at hid; cases hid
  | some c =>
    rw [hc] at hid
    have hCode := (hC.fns.fn f fn hf).2.2 c hc
    refine lspec_ok (D := D) (base := base) (n := n) (ks := ks) (KK := loopK exA dA exB dB) hC hCode.2 (hat.loop_li hc hid) (Nat.le_of_ble_eq_true hb.1) (Nat.le_of_ble_eq_true hb.2) (fun nx x => ?_) (loopK_ok hA hB) N
    rw [← heq nx x]
    congr 1

end Go.AE
