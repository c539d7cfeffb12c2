/- The functions that are asked, as plain Lean functions. Printed by g2.py. -/
import Derived.Test.YthdmhibmokhpgaaGreatAEExt
set_option linter.unusedVariables false
set_option linter.unusedSimpArgs false
set_option maxRecDepth 100000
namespace Go.Hz
open Go.AE

/- hazel/hazelref01.mod -/
def r01_mod (N : Nat) (a0 : Int) (a1 : Int) : Option (Int) :=
  bif decide (a1 = (0 : Int)) then none else
  bif decide ((Int.tmod a0 a1) < (0 : Int)) then some (w64 ((Int.tmod a0 a1) + a1)) else
  some (Int.tmod a0 a1)

/- hazel/hazelref01.Index -/
def r01_Index (N : Nat) (a0 : Int) : Option (Int) :=
  (r01_mod N a0 2097152).bind fun z1 =>
  some (w64 (Int.tdiv z1 (2 : Int)))

/- hazel/hazelref02.At -/
def r02_At (N : Nat) (a0 : Int) (a1 : Int) : Option (Int) :=
  some (w64 ((w64 ((128 : Int) + (w64 ((4 : Int) * (w64 (a0 - (1 : Int))))))) + a1))

/- hazel/hazelref02.Node -/
def r02_Node_L0_st (N : Nat) (nx : (Int × Int × (List Int) × (List Int) × Bool) → Option ((Int) ⊕ ((List Int) × (List Int) × Bool))) (x : Int × Int × (List Int) × (List Int) × Bool) : Option ((Int) ⊕ ((List Int) × (List Int) × Bool)) :=
  bif decide (x.2.1 < (x.2.2.2.1.length : Int)) then
    bif (w64 ((w64 ((128 : Int) + (w64 ((4 : Int) * (w64 (x.2.1 - (1 : Int))))))) + (1 : Int))) == x.1 then some (.inl x.2.1) else
    bif (w64 ((w64 ((128 : Int) + (w64 ((4 : Int) * (w64 (x.2.1 - (1 : Int))))))) + (2 : Int))) == x.1 then some (.inl x.2.1) else
    bif (w64 ((w64 ((128 : Int) + (w64 ((4 : Int) * (w64 (x.2.1 - (1 : Int))))))) + (3 : Int))) == x.1 then some (.inl x.2.1) else
    nx (x.1, w64 (x.2.1 + (1 : Int)), x.2.2.1, x.2.2.2.1, x.2.2.2.2)
  else
    some (.inr (x.2.2.1, x.2.2.2.1, x.2.2.2.2))
def r02_Node_L0 (N : Nat) (x : Int × Int × (List Int) × (List Int) × Bool) : Option ((Int) ⊕ ((List Int) × (List Int) × Bool)) := natIter (r02_Node_L0_st N) N x

def r02_Node (N : Nat) (a0 : MemD) (a1 : Int) : Option (Int) :=
  (r02_Node_L0 N (a1, (1 : Int), a0.W, a0.G, a0.bad)).bind fun l1 =>
  brS l1 (fun l1a =>
    some l1a) (fun l1b =>
    some (0 : Int))

/- hazel/hazelref02.bad -/
def r02_bad (N : Nat) (a0 : MemD) (a1 : Int) : Option (Bool) :=
  bif decide (a1 < (0 : Int)) then some true else
  bif decide (a1 ≥ (a0.W.length : Int)) then some true else
  (r02_Node N a0 a1).bind fun z1 =>
  bif a0.bad then some true else
  bif decide (z1 > (0 : Int)) then
    (idx a0.G z1).bind fun y2 =>
    some (y2 == (0 : Int))
  else
    some false

/- hazel/hazelref02.Load -/
def r02_Load (N : Nat) (a0 : MemD) (a1 : Int) : Option (MemD × Int) :=
  (r02_bad N a0 a1).bind fun z1 =>
  bif decide (a1 < (0 : Int)) then some ({ a0 with bad := z1 }, (0 : Int)) else
  bif decide (a1 ≥ (a0.W.length : Int)) then some ({ a0 with bad := z1 }, (0 : Int)) else
  (idx a0.W a1).bind fun y2 =>
  some ({ a0 with bad := z1 }, y2)

/- hazel/hazelref04.Walk -/
def r04_Walk_L2_st (N : Nat) (nx : (Int × Int × (List Int) × (List Int) × Bool × (List Int) × (List Int) × Bool × (List Int)) → Option ((Bool) ⊕ (Int × (List Int) × (List Int) × Bool × (List Int) × (List Int) × Bool × (List Int)))) (x : Int × Int × (List Int) × (List Int) × Bool × (List Int) × (List Int) × Bool × (List Int)) : Option ((Bool) ⊕ (Int × (List Int) × (List Int) × Bool × (List Int) × (List Int) × Bool × (List Int))) :=
  bif decide (x.2.1 < (x.2.2.2.2.2.2.2.2.length : Int)) then
    bif (decide ((0 : Int) ≤ x.2.1)) && (decide (x.2.1 < (x.2.2.2.2.2.2.2.2.length : Int))) then
      (x.2.2.2.2.2.2.2.2[x.2.1.toNat]?).bind fun y1 =>
      bif y1 == x.1 then some (.inl false) else
      nx (x.1, w64 (x.2.1 + (1 : Int)), x.2.2.1, x.2.2.2.1, x.2.2.2.2.1, x.2.2.2.2.2.1, x.2.2.2.2.2.2.1, x.2.2.2.2.2.2.2.1, x.2.2.2.2.2.2.2.2)
    else none
  else
    some (.inr (x.1, x.2.2.1, x.2.2.2.1, x.2.2.2.2.1, x.2.2.2.2.2.1, x.2.2.2.2.2.2.1, x.2.2.2.2.2.2.2.1, x.2.2.2.2.2.2.2.2))
def r04_Walk_L2 (N : Nat) (x : Int × Int × (List Int) × (List Int) × Bool × (List Int) × (List Int) × Bool × (List Int)) : Option ((Bool) ⊕ (Int × (List Int) × (List Int) × Bool × (List Int) × (List Int) × Bool × (List Int))) := natIter (r04_Walk_L2_st N) N x

def r04_Walk_L0_st (N : Nat) (nx : (Int × (List Int) × (List Int) × Bool × (List Int) × (List Int) × Bool × (List Int)) → Option ((Bool) ⊕ ((List Int) × (List Int) × Bool × (List Int) × (List Int) × Bool × (List Int)))) (x : Int × (List Int) × (List Int) × Bool × (List Int) × (List Int) × Bool × (List Int)) : Option ((Bool) ⊕ ((List Int) × (List Int) × Bool × (List Int) × (List Int) × Bool × (List Int))) :=
  bif x.1 != (0 : Int) then
    bif decide (x.1 < (0 : Int)) then some (.inl false) else
    bif decide (x.1 ≥ (x.2.2.1.length : Int)) then some (.inl false) else
    (r04_Walk_L2 N (x.1, (0 : Int), x.2.1, x.2.2.1, x.2.2.2.1, x.2.2.2.2.1, x.2.2.2.2.2.1, x.2.2.2.2.2.2.1, x.2.2.2.2.2.2.2)).bind fun l1 =>
    brS l1 (fun l1a =>
      some (.inl l1a)) (fun l1b =>
      bif decide (l1b.2.2.2.2.2.2.2.length + 1 ≤ most) then
        (r02_At N l1b.1 0).bind fun z2 =>
        (r02_Load N (⟨l1b.2.1, l1b.2.2.1, l1b.2.2.2.1⟩) z2).bind fun z3 =>
        nx (z3.2, l1b.2.1, l1b.2.2.1, l1b.2.2.2.1, l1b.2.2.2.2.1, l1b.2.2.2.2.2.1, l1b.2.2.2.2.2.2.1, l1b.2.2.2.2.2.2.2 ++ ([l1b.1]))
      else none)
  else
    some (.inr (x.2.1, x.2.2.1, x.2.2.2.1, x.2.2.2.2.1, x.2.2.2.2.2.1, x.2.2.2.2.2.2.1, x.2.2.2.2.2.2.2))
def r04_Walk_L0 (N : Nat) (x : Int × (List Int) × (List Int) × Bool × (List Int) × (List Int) × Bool × (List Int)) : Option ((Bool) ⊕ ((List Int) × (List Int) × Bool × (List Int) × (List Int) × Bool × (List Int))) := natIter (r04_Walk_L0_st N) N x

def r04_Walk (N : Nat) (a0 : MemD) : Option ((List Int) × Bool) :=
  (r02_Load N a0 0).bind fun z1 =>
  (r01_Index N z1.2).bind fun z2 =>
  (r04_Walk_L0 N (z2, a0.W, a0.G, a0.bad, z1.1.W, z1.1.G, z1.1.bad, [])).bind fun l3 =>
  brS l3 (fun l3a =>
    some ([], l3a)) (fun l3b =>
    some (l3b.2.2.2.2.2.2, true))

/- hazel/hazelref02.Store -/
def r02_Store (N : Nat) (a0 : MemD) (a1 : Int) (a2 : Int) : Option (MemD) :=
  bif decide (a1 < (0 : Int)) then some ({ a0 with bad := true }) else
  bif decide (a1 ≥ (a0.W.length : Int)) then some ({ a0 with bad := true }) else
  bif decide (0 + a0.W.length ≤ most) then
    bif (decide ((0 : Int) ≤ a1)) && (decide (a1 < (([] ++ a0.W).length : Int))) then
      (([] ++ a0.W)[a1.toNat]?).bind fun y1 =>
      (r02_bad N a0 a1).bind fun z2 =>
      some (⟨([] ++ a0.W).set a1.toNat a2, a0.G, z2⟩)
    else none
  else none

/- hazel/hazelref01.Tag -/
def r01_Tag (N : Nat) (a0 : Int) : Option (Int) :=
  (r01_mod N a0 2305843009213693952).bind fun z1 =>
  some (w64 (Int.tdiv z1 (2097152 : Int)))

/- hazel/hazelref01.Next -/
def r01_Next (N : Nat) (a0 : Int) (a1 : Int) (a2 : Int) : Option (Int) :=
  (r01_Tag N a0).bind fun z1 =>
  (r01_mod N (w64 (z1 + (1 : Int))) 1099511627776).bind fun z2 =>
  (r01_mod N a1 1048576).bind fun z3 =>
  (r01_mod N a2 2).bind fun z4 =>
  some (w64 ((w64 ((w64 (z2 * (2097152 : Int))) + (w64 (z3 * (2 : Int))))) + z4))

/- hazel/hazelref02.Turn -/
def r02_Turn (N : Nat) (a0 : MemD) (a1 : Int) (a2 : Int) : Option (MemD) :=
  bif decide (a1 < (1 : Int)) then some ({ a0 with bad := true }) else
  bif decide (a1 ≥ (a0.G.length : Int)) then some ({ a0 with bad := true }) else
  (idx a0.G a1).bind fun y1 =>
  bif y1 == (0 : Int) then
    bif a2 == (1 : Int) then
      bif decide (0 + a0.G.length ≤ most) then
        bif (decide ((0 : Int) ≤ a1)) && (decide (a1 < (([] ++ a0.G).length : Int))) then
          (([] ++ a0.G)[a1.toNat]?).bind fun y2 =>
          some ({ a0 with G := ([] ++ a0.G).set a1.toNat a2 })
        else none
      else none
    else
      bif y1 == (1 : Int) then
        bif a2 == (2 : Int) then
          bif decide (0 + a0.G.length ≤ most) then
            bif (decide ((0 : Int) ≤ a1)) && (decide (a1 < (([] ++ a0.G).length : Int))) then
              (([] ++ a0.G)[a1.toNat]?).bind fun y3 =>
              some ({ a0 with G := ([] ++ a0.G).set a1.toNat a2 })
            else none
          else none
        else
          bif y1 == (1 : Int) then
            bif a2 == (0 : Int) then
              bif decide (0 + a0.G.length ≤ most) then
                bif (decide ((0 : Int) ≤ a1)) && (decide (a1 < (([] ++ a0.G).length : Int))) then
                  (([] ++ a0.G)[a1.toNat]?).bind fun y4 =>
                  some ({ a0 with G := ([] ++ a0.G).set a1.toNat a2 })
                else none
              else none
            else
              bif y1 == (2 : Int) then
                bif !(a2 == (0 : Int)) then some ({ a0 with bad := true }) else
                bif decide (0 + a0.G.length ≤ most) then
                  bif (decide ((0 : Int) ≤ a1)) && (decide (a1 < (([] ++ a0.G).length : Int))) then
                    (([] ++ a0.G)[a1.toNat]?).bind fun y5 =>
                    some ({ a0 with G := ([] ++ a0.G).set a1.toNat a2 })
                  else none
                else none
              else
                some ({ a0 with bad := true })
          else
            bif y1 == (2 : Int) then
              bif !(a2 == (0 : Int)) then some ({ a0 with bad := true }) else
              bif decide (0 + a0.G.length ≤ most) then
                bif (decide ((0 : Int) ≤ a1)) && (decide (a1 < (([] ++ a0.G).length : Int))) then
                  (([] ++ a0.G)[a1.toNat]?).bind fun y6 =>
                  some ({ a0 with G := ([] ++ a0.G).set a1.toNat a2 })
                else none
              else none
            else
              some ({ a0 with bad := true })
      else
        bif y1 == (1 : Int) then
          bif a2 == (0 : Int) then
            bif decide (0 + a0.G.length ≤ most) then
              bif (decide ((0 : Int) ≤ a1)) && (decide (a1 < (([] ++ a0.G).length : Int))) then
                (([] ++ a0.G)[a1.toNat]?).bind fun y7 =>
                some ({ a0 with G := ([] ++ a0.G).set a1.toNat a2 })
              else none
            else none
          else
            bif y1 == (2 : Int) then
              bif !(a2 == (0 : Int)) then some ({ a0 with bad := true }) else
              bif decide (0 + a0.G.length ≤ most) then
                bif (decide ((0 : Int) ≤ a1)) && (decide (a1 < (([] ++ a0.G).length : Int))) then
                  (([] ++ a0.G)[a1.toNat]?).bind fun y8 =>
                  some ({ a0 with G := ([] ++ a0.G).set a1.toNat a2 })
                else none
              else none
            else
              some ({ a0 with bad := true })
        else
          bif y1 == (2 : Int) then
            bif !(a2 == (0 : Int)) then some ({ a0 with bad := true }) else
            bif decide (0 + a0.G.length ≤ most) then
              bif (decide ((0 : Int) ≤ a1)) && (decide (a1 < (([] ++ a0.G).length : Int))) then
                (([] ++ a0.G)[a1.toNat]?).bind fun y9 =>
                some ({ a0 with G := ([] ++ a0.G).set a1.toNat a2 })
              else none
            else none
          else
            some ({ a0 with bad := true })
  else
    bif y1 == (1 : Int) then
      bif a2 == (2 : Int) then
        bif decide (0 + a0.G.length ≤ most) then
          bif (decide ((0 : Int) ≤ a1)) && (decide (a1 < (([] ++ a0.G).length : Int))) then
            (([] ++ a0.G)[a1.toNat]?).bind fun y10 =>
            some ({ a0 with G := ([] ++ a0.G).set a1.toNat a2 })
          else none
        else none
      else
        bif y1 == (1 : Int) then
          bif a2 == (0 : Int) then
            bif decide (0 + a0.G.length ≤ most) then
              bif (decide ((0 : Int) ≤ a1)) && (decide (a1 < (([] ++ a0.G).length : Int))) then
                (([] ++ a0.G)[a1.toNat]?).bind fun y11 =>
                some ({ a0 with G := ([] ++ a0.G).set a1.toNat a2 })
              else none
            else none
          else
            bif y1 == (2 : Int) then
              bif !(a2 == (0 : Int)) then some ({ a0 with bad := true }) else
              bif decide (0 + a0.G.length ≤ most) then
                bif (decide ((0 : Int) ≤ a1)) && (decide (a1 < (([] ++ a0.G).length : Int))) then
                  (([] ++ a0.G)[a1.toNat]?).bind fun y12 =>
                  some ({ a0 with G := ([] ++ a0.G).set a1.toNat a2 })
                else none
              else none
            else
              some ({ a0 with bad := true })
        else
          bif y1 == (2 : Int) then
            bif !(a2 == (0 : Int)) then some ({ a0 with bad := true }) else
            bif decide (0 + a0.G.length ≤ most) then
              bif (decide ((0 : Int) ≤ a1)) && (decide (a1 < (([] ++ a0.G).length : Int))) then
                (([] ++ a0.G)[a1.toNat]?).bind fun y13 =>
                some ({ a0 with G := ([] ++ a0.G).set a1.toNat a2 })
              else none
            else none
          else
            some ({ a0 with bad := true })
    else
      bif y1 == (1 : Int) then
        bif a2 == (0 : Int) then
          bif decide (0 + a0.G.length ≤ most) then
            bif (decide ((0 : Int) ≤ a1)) && (decide (a1 < (([] ++ a0.G).length : Int))) then
              (([] ++ a0.G)[a1.toNat]?).bind fun y14 =>
              some ({ a0 with G := ([] ++ a0.G).set a1.toNat a2 })
            else none
          else none
        else
          bif y1 == (2 : Int) then
            bif !(a2 == (0 : Int)) then some ({ a0 with bad := true }) else
            bif decide (0 + a0.G.length ≤ most) then
              bif (decide ((0 : Int) ≤ a1)) && (decide (a1 < (([] ++ a0.G).length : Int))) then
                (([] ++ a0.G)[a1.toNat]?).bind fun y15 =>
                some ({ a0 with G := ([] ++ a0.G).set a1.toNat a2 })
              else none
            else none
          else
            some ({ a0 with bad := true })
      else
        bif y1 == (2 : Int) then
          bif !(a2 == (0 : Int)) then some ({ a0 with bad := true }) else
          bif decide (0 + a0.G.length ≤ most) then
            bif (decide ((0 : Int) ≤ a1)) && (decide (a1 < (([] ++ a0.G).length : Int))) then
              (([] ++ a0.G)[a1.toNat]?).bind fun y16 =>
              some ({ a0 with G := ([] ++ a0.G).set a1.toNat a2 })
            else none
          else none
        else
          some ({ a0 with bad := true })

/- hazel/hazelref08.Spot -/
def r08_Spot (N : Nat) (a0 : Int) : Option (Int) :=
  some (w64 ((32 : Int) + (w64 ((2 : Int) * a0))))

/- hazel/hazelref03.Mem -/
def r03_Mem (N : Nat) (a0 : SysD) (a1 : MemD) : Option (SysD) :=
  some ({ a0 with M := a1 })

/- hazel/hazelref08.Make -/
def r08_Make (N : Nat) (a0 : SysD) (a1 : Int) : Option (SysD × Int) :=
  bif decide (a1 < (0 : Int)) then some (a0, (1 : Int)) else
  bif decide (a1 > (7 : Int)) then some (a0, (1 : Int)) else
  (r04_Walk N a0.M).bind fun z1 =>
  bif !z1.2 then some (a0, (2 : Int)) else
  bif (z1.1.length : Int) == (0 : Int) then some (a0, (2 : Int)) else
  (idx z1.1 (0 : Int)).bind fun y2 =>
  (idx a0.M.W (0 : Int)).bind fun y3 =>
  (r02_At N y2 0).bind fun z4 =>
  (idx a0.M.W z4).bind fun y5 =>
  (r01_Next N y3 y5 0).bind fun z6 =>
  (r02_Store N a0.M 0 z6).bind fun z7 =>
  (r02_Turn N z7 y2 1).bind fun z8 =>
  (r02_At N y2 1).bind fun z9 =>
  (idx z8.W z9).bind fun y10 =>
  (r02_At N y2 1).bind fun z11 =>
  (r01_Next N y10 0 0).bind fun z12 =>
  (r02_Store N z8 z11 z12).bind fun z13 =>
  (r08_Spot N a1).bind fun z14 =>
  (r02_Store N z13 z14 (w64 ((2 : Int) * y2))).bind fun z15 =>
  (r08_Spot N a1).bind fun z16 =>
  (r02_Store N z15 (w64 (z16 + (1 : Int))) (w64 ((2 : Int) * y2))).bind fun z17 =>
  (r03_Mem N a0 z17).bind fun z18 =>
  some (z18, (0 : Int))

/- hazel/hazelref04.Fill -/
def r04_Fill_L0_st (N : Nat) (nx : (Int × Int × (List Int) × (List Int) × Bool × Bool) → Option (((List Int) × (List Int) × Bool × Bool) ⊕ (Empty))) (x : Int × Int × (List Int) × (List Int) × Bool × Bool) : Option (((List Int) × (List Int) × Bool × Bool) ⊕ (Empty)) :=
  bif decide (x.2.1 ≤ x.1) then
    bif x.2.1 == x.1 then
      (r02_Store N (⟨x.2.2.1, x.2.2.2.1, x.2.2.2.2.1⟩) (w64 ((w64 ((128 : Int) + (w64 ((4 : Int) * (w64 (x.2.1 - (1 : Int))))))) + (0 : Int))) 0).bind fun z1 =>
      nx (x.1, w64 (x.2.1 + (1 : Int)), z1.W, z1.G, z1.bad, x.2.2.2.2.2)
    else
      (r02_Store N (⟨x.2.2.1, x.2.2.2.1, x.2.2.2.2.1⟩) (w64 ((w64 ((128 : Int) + (w64 ((4 : Int) * (w64 (x.2.1 - (1 : Int))))))) + (0 : Int))) (w64 (x.2.1 + (1 : Int)))).bind fun z2 =>
      nx (x.1, w64 (x.2.1 + (1 : Int)), z2.W, z2.G, z2.bad, x.2.2.2.2.2)
  else
    some (.inl (x.2.2.1, x.2.2.2.1, x.2.2.2.2.1, x.2.2.2.2.2))
def r04_Fill_L0 (N : Nat) (x : Int × Int × (List Int) × (List Int) × Bool × Bool) : Option (((List Int) × (List Int) × Bool × Bool) ⊕ (Empty)) := natIter (r04_Fill_L0_st N) N x

def r04_Fill (N : Nat) (a0 : MemD) : Option (MemD) :=
  (r04_Fill_L0 N (w64 ((a0.G.length : Int) - (1 : Int)), (1 : Int), a0.W, a0.G, a0.bad, false)).bind fun l1 =>
  brS l1 (fun l1a =>
    (r02_Store N (⟨l1a.1, l1a.2.1, l1a.2.2.1⟩) 0 2).bind fun z2 =>
    some z2) (fun l1b =>
    none)

/- hazel/hazelref13.bit -/
def r13_bit_L0_st (N : Nat) (nx : (Int × Int × Int) → Option ((Int) ⊕ (Empty))) (x : Int × Int × Int) : Option ((Int) ⊕ (Empty)) :=
  bif decide (x.2.2 < x.1) then nx (x.1, w64 ((2 : Int) * x.2.1), w64 (x.2.2 + (1 : Int))) else
  some (.inl x.2.1)
def r13_bit_L0 (N : Nat) (x : Int × Int × Int) : Option ((Int) ⊕ (Empty)) := natIter (r13_bit_L0_st N) N x

def r13_bit (N : Nat) (a0 : Int) : Option (Int) :=
  (r13_bit_L0 N (a0, (1 : Int), (0 : Int))).bind fun l1 =>
  brS l1 (fun l1a =>
    some l1a) (fun l1b =>
    none)

/- hazel/hazelref13.Has -/
def r13_Has (N : Nat) (a0 : Int) (a1 : Int) : Option (Bool) :=
  bif decide ((Int.tmod a0 (65536 : Int)) < (0 : Int)) then
    (r13_bit N a1).bind fun z1 =>
    bif decide (z1 = (0 : Int)) then none else
    some ((Int.tmod (w64 (Int.tdiv (w64 ((Int.tmod a0 (65536 : Int)) + (65536 : Int))) z1)) (2 : Int)) == (1 : Int))
  else
    (r13_bit N a1).bind fun z2 =>
    bif decide (z2 = (0 : Int)) then none else
    some ((Int.tmod (w64 (Int.tdiv (Int.tmod a0 (65536 : Int)) z2)) (2 : Int)) == (1 : Int))

/- hazel/hazelref13.with -/
def r13_with (N : Nat) (a0 : Int) (a1 : Int) : Option (Int) :=
  (r13_Has N a0 a1).bind fun z1 =>
  bif z1 then some a0 else
  (r13_bit N a1).bind fun z2 =>
  some (w64 (a0 + z2))

/- hazel/hazelref13.Make -/
def r13_Make (N : Nat) (a0 : SysD) (a1 : Int) (a2 : Int) : Option (SysD × Int) :=
  bif decide (a1 < (0 : Int)) then some (a0, (1 : Int)) else
  bif decide (a1 > (15 : Int)) then some (a0, (1 : Int)) else
  bif decide (a2 < (0 : Int)) then some (a0, (1 : Int)) else
  bif decide (a2 > (7 : Int)) then some (a0, (1 : Int)) else
  (r02_Store N a0.M (w64 ((96 : Int) + a1)) 2).bind fun z1 =>
  (idx a0.M.W (w64 ((112 : Int) + a2))).bind fun y2 =>
  (r13_with N y2 a1).bind fun z3 =>
  (r02_Store N z1 (w64 ((112 : Int) + a2)) z3).bind fun z4 =>
  (r03_Mem N a0 z4).bind fun z5 =>
  some (z5, (0 : Int))

/- hazel/port.isPort -/
def port_isPort (N : Nat) (a0 : Int) : Option (Bool) :=
  bif decide (a0 ≥ (0 : Int)) then some (decide (a0 < (8 : Int))) else
  some false

/- hazel/core.isCore -/
def core_isCore (N : Nat) (a0 : SysD) (a1 : Int) : Option (Bool) :=
  bif decide (a1 ≥ (0 : Int)) then some (decide (a1 < (a0.C.length : Int))) else
  some false

/- hazel/core.Top -/
def core_Top (N : Nat) (a0 : SysD) (a1 : Int) : Option (FrameD × Bool) :=
  (core_isCore N a0 a1).bind fun z1 =>
  bif !z1 then some (⟨0, 0, 0, 0, 0, 0, 0, 0, 0, 0, []⟩, false) else
  (idx a0.C a1).bind fun y2 =>
  bif (y2.F.length : Int) == (0 : Int) then some (⟨0, 0, 0, 0, 0, 0, 0, 0, 0, 0, []⟩, false) else
  (idx a0.C a1).bind fun y3 =>
  (idx a0.C a1).bind fun y4 =>
  (idx y3.F (w64 ((y4.F.length : Int) - (1 : Int)))).bind fun y5 =>
  some (y5, true)

/- hazel/thr.below -/
def thr_below (N : Nat) (a0 : Int) (a1 : Int) : Option (Bool) :=
  bif decide (a0 ≥ (0 : Int)) then some (decide (a0 < a1)) else
  some false

/- hazel/core.Set -/
def core_Set (N : Nat) (a0 : SysD) (a1 : Int) (a2 : FrameD) : Option (SysD) :=
  (core_Top N a0 a1).bind fun z1 =>
  bif !z1.2 then some a0 else
  bif decide ((a0.C.length : Int) ≤ (most : Int)) then
    bif (decide ((0 : Int) ≤ a1)) && (decide (a1 < ((overlay a0.C (List.replicate a0.C.length (⟨[], 0, 0, 0, 0, 0, []⟩ : CoreD))).length : Int))) then
      ((overlay a0.C (List.replicate a0.C.length (⟨[], 0, 0, 0, 0, 0, []⟩ : CoreD)))[a1.toNat]?).bind fun y2 =>
      bif !y2.F.isEmpty && decide (y2.F.length ≤ most) then
        some ({ a0 with C := (overlay a0.C (List.replicate a0.C.length (⟨[], 0, 0, 0, 0, 0, []⟩ : CoreD))).set a1.toNat { y2 with F := y2.F.set (y2.F.length - 1) a2 } })
      else none
    else none
  else none

/- hazel/mem.Node -/
def mem_Node (N : Nat) (a0 : MemD) (a1 : Int) : Option (Int) :=
  bif decide (a1 < (128 : Int)) then some (0 : Int) else
  bif decide (a1 ≥ (a0.W.length : Int)) then some (0 : Int) else
  bif (Int.tmod (w64 (a1 - (128 : Int))) (4 : Int)) == (0 : Int) then some (0 : Int) else
  some (w64 ((w64 (Int.tdiv (w64 (a1 - (128 : Int))) (4 : Int))) + (1 : Int)))

/- hazel/mem.Store -/
def mem_Store (N : Nat) (a0 : MemD) (a1 : Int) (a2 : Int) : Option (MemD) :=
  (mem_Node N a0 a1).bind fun z1 =>
  bif decide (a1 < (0 : Int)) then some ({ a0 with bad := true }) else
  bif decide (a1 ≥ (a0.W.length : Int)) then some ({ a0 with bad := true }) else
  bif decide (z1 > (0 : Int)) then
    (idx a0.G z1).bind fun y2 =>
    bif y2 == (0 : Int) then
      bif decide ((a0.W.length : Int) ≤ (most : Int)) then
        bif (decide ((0 : Int) ≤ a1)) && (decide (a1 < ((overlay a0.W (List.replicate a0.W.length (0 : Int))).length : Int))) then
          ((overlay a0.W (List.replicate a0.W.length (0 : Int)))[a1.toNat]?).bind fun y3 =>
          some (⟨(overlay a0.W (List.replicate a0.W.length (0 : Int))).set a1.toNat a2, a0.G, true⟩)
        else none
      else none
    else
      bif decide ((a0.W.length : Int) ≤ (most : Int)) then
        bif (decide ((0 : Int) ≤ a1)) && (decide (a1 < ((overlay a0.W (List.replicate a0.W.length (0 : Int))).length : Int))) then
          ((overlay a0.W (List.replicate a0.W.length (0 : Int)))[a1.toNat]?).bind fun y4 =>
          some ({ a0 with W := (overlay a0.W (List.replicate a0.W.length (0 : Int))).set a1.toNat a2 })
        else none
      else none
  else
    bif decide ((a0.W.length : Int) ≤ (most : Int)) then
      bif (decide ((0 : Int) ≤ a1)) && (decide (a1 < ((overlay a0.W (List.replicate a0.W.length (0 : Int))).length : Int))) then
        ((overlay a0.W (List.replicate a0.W.length (0 : Int)))[a1.toNat]?).bind fun y5 =>
        some ({ a0 with W := (overlay a0.W (List.replicate a0.W.length (0 : Int))).set a1.toNat a2 })
      else none
    else none

/- hazel/mem.Cas -/
def mem_Cas (N : Nat) (a0 : MemD) (a1 : Int) (a2 : Int) (a3 : Int) : Option (MemD × Bool) :=
  bif decide (a1 ≥ (0 : Int)) then
    bif decide (a1 < (a0.W.length : Int)) then
      (idx a0.W a1).bind fun y1 =>
      bif !(y1 == a2) then
        (mem_Node N a0 a1).bind fun z2 =>
        bif decide (a1 < (0 : Int)) then some ({ a0 with bad := true }, false) else
        bif decide (a1 ≥ (a0.W.length : Int)) then some ({ a0 with bad := true }, false) else
        bif decide (z2 > (0 : Int)) then
          (idx a0.G z2).bind fun y3 =>
          bif y3 == (0 : Int) then some ({ a0 with bad := true }, false) else
          some (a0, false)
        else
          some (a0, false)
      else
        (mem_Store N a0 a1 a3).bind fun z4 =>
        some (z4, true)
    else
      (mem_Node N a0 a1).bind fun z5 =>
      bif decide (a1 < (0 : Int)) then some ({ a0 with bad := true }, false) else
      bif decide (a1 ≥ (a0.W.length : Int)) then some ({ a0 with bad := true }, false) else
      bif decide (z5 > (0 : Int)) then
        (idx a0.G z5).bind fun y6 =>
        bif y6 == (0 : Int) then some ({ a0 with bad := true }, false) else
        some (a0, false)
      else
        some (a0, false)
  else
    (mem_Node N a0 a1).bind fun z7 =>
    bif decide (a1 < (0 : Int)) then some ({ a0 with bad := true }, false) else
    bif decide (a1 ≥ (a0.W.length : Int)) then some ({ a0 with bad := true }, false) else
    bif decide (z7 > (0 : Int)) then
      (idx a0.G z7).bind fun y8 =>
      bif y8 == (0 : Int) then some ({ a0 with bad := true }, false) else
      some (a0, false)
    else
      some (a0, false)

/- hazel/mem.Load -/
def mem_Load (N : Nat) (a0 : MemD) (a1 : Int) : Option (MemD × Int) :=
  (mem_Node N a0 a1).bind fun z1 =>
  bif decide (a1 < (0 : Int)) then
    bif decide (a1 < (0 : Int)) then some ({ a0 with bad := true }, (0 : Int)) else
    bif decide (a1 ≥ (a0.W.length : Int)) then some ({ a0 with bad := true }, (0 : Int)) else
    (idx a0.W a1).bind fun y2 =>
    some ({ a0 with bad := true }, y2)
  else
    bif decide (a1 ≥ (a0.W.length : Int)) then
      bif decide (a1 < (0 : Int)) then some ({ a0 with bad := true }, (0 : Int)) else
      bif decide (a1 ≥ (a0.W.length : Int)) then some ({ a0 with bad := true }, (0 : Int)) else
      (idx a0.W a1).bind fun y3 =>
      some ({ a0 with bad := true }, y3)
    else
      bif decide (z1 > (0 : Int)) then
        (idx a0.G z1).bind fun y4 =>
        bif y4 == (0 : Int) then
          bif decide (a1 < (0 : Int)) then some ({ a0 with bad := true }, (0 : Int)) else
          bif decide (a1 ≥ (a0.W.length : Int)) then some ({ a0 with bad := true }, (0 : Int)) else
          (idx a0.W a1).bind fun y5 =>
          some ({ a0 with bad := true }, y5)
        else
          bif decide (a1 < (0 : Int)) then some (a0, (0 : Int)) else
          bif decide (a1 ≥ (a0.W.length : Int)) then some (a0, (0 : Int)) else
          (idx a0.W a1).bind fun y6 =>
          some (a0, y6)
      else
        bif decide (a1 < (0 : Int)) then some (a0, (0 : Int)) else
        bif decide (a1 ≥ (a0.W.length : Int)) then some (a0, (0 : Int)) else
        (idx a0.W a1).bind fun y7 =>
        some (a0, y7)

/- hazel/core.Back -/
def core_Back (N : Nat) (a0 : SysD) (a1 : Int) (a2 : Int) (a3 : Int) : Option (SysD) :=
  (core_Top N a0 a1).bind fun z1 =>
  bif !z1.2 then some a0 else
  bif decide ((a0.C.length : Int) ≤ (most : Int)) then
    bif (decide ((0 : Int) ≤ a1)) && (decide (a1 < ((overlay a0.C (List.replicate a0.C.length (⟨[], 0, 0, 0, 0, 0, []⟩ : CoreD))).length : Int))) then
      ((overlay a0.C (List.replicate a0.C.length (⟨[], 0, 0, 0, 0, 0, []⟩ : CoreD)))[a1.toNat]?).bind fun y2 =>
      ((overlay a0.C (List.replicate a0.C.length (⟨[], 0, 0, 0, 0, 0, []⟩ : CoreD)))[a1.toNat]?).bind fun y3 =>
      bif (decide ((0 : Int) ≤ (w64 ((y3.F.length : Int) - (1 : Int))))) && (decide ((w64 ((y3.F.length : Int) - (1 : Int))) ≤ (y2.F.length : Int))) then
        ((overlay a0.C (List.replicate a0.C.length (⟨[], 0, 0, 0, 0, 0, []⟩ : CoreD)))[a1.toNat]?).bind fun y4 =>
        (((overlay a0.C (List.replicate a0.C.length (⟨[], 0, 0, 0, 0, 0, []⟩ : CoreD))).set a1.toNat ({ y4 with F := (y2.F.take ((w64 ((y3.F.length : Int) - (1 : Int))).toNat)).drop 0 }))[a1.toNat]?).bind fun y5 =>
        ((((overlay a0.C (List.replicate a0.C.length (⟨[], 0, 0, 0, 0, 0, []⟩ : CoreD))).set a1.toNat ({ y4 with F := (y2.F.take ((w64 ((y3.F.length : Int) - (1 : Int))).toNat)).drop 0 })).set a1.toNat ({ y5 with V := a2 }))[a1.toNat]?).bind fun y6 =>
        some ({ a0 with C := (((overlay a0.C (List.replicate a0.C.length (⟨[], 0, 0, 0, 0, 0, []⟩ : CoreD))).set a1.toNat ({ y4 with F := (y2.F.take ((w64 ((y3.F.length : Int) - (1 : Int))).toNat)).drop 0 })).set a1.toNat ({ y5 with V := a2 })).set a1.toNat ({ y6 with E := a3 }) })
      else none
    else none
  else none

/- hazel/pack.Index -/
def pack_Index (N : Nat) (a0 : Int) : Option (Int) :=
  some (band .i64 (shrI .i64 a0 (1 : Int)) (1048575 : Int))

/- hazel/pack.Tag -/
def pack_Tag (N : Nat) (a0 : Int) : Option (Int) :=
  some (band .i64 (shrI .i64 a0 (21 : Int)) (1099511627775 : Int))

/- hazel/pack.Next -/
def pack_Next (N : Nat) (a0 : Int) (a1 : Int) (a2 : Int) : Option (Int) :=
  (pack_Tag N a0).bind fun z1 =>
  some (bor .i64 (bor .i64 (bor .i64 (0 : Int) (shlI .i64 (band .i64 a2 (1 : Int)) (0 : Int))) (shlI .i64 (band .i64 a1 (1048575 : Int)) (1 : Int))) (shlI .i64 (band .i64 (w64 (z1 + (1 : Int))) (1099511627775 : Int)) (21 : Int)))

/- hazel/core.Call -/
def core_Call (N : Nat) (a0 : SysD) (a1 : Int) (a2 : Int) (a3 : List Int) : Option (SysD) :=
  (core_isCore N a0 a1).bind fun z1 =>
  bif !z1 then some a0 else
  (idx a0.C a1).bind fun y2 =>
  bif decide ((y2.F.length : Int) ≥ (40 : Int)) then some a0 else
  bif decide ((a0.C.length : Int) ≤ (most : Int)) then
    bif (decide ((0 : Int) ≤ a1)) && (decide (a1 < ((overlay a0.C (List.replicate a0.C.length (⟨[], 0, 0, 0, 0, 0, []⟩ : CoreD))).length : Int))) then
      ((overlay a0.C (List.replicate a0.C.length (⟨[], 0, 0, 0, 0, 0, []⟩ : CoreD)))[a1.toNat]?).bind fun y3 =>
      bif (decide ((y3.F.length : Int) ≤ (y3.F.length : Int))) && (decide ((y3.F.length : Int) = (y3.F.length : Int))) then
        bif decide ((((y3.F.take y3.F.length).drop 0).length) + 1 ≤ most) then
          ((overlay a0.C (List.replicate a0.C.length (⟨[], 0, 0, 0, 0, 0, []⟩ : CoreD)))[a1.toNat]?).bind fun y4 =>
          some ({ a0 with C := (overlay a0.C (List.replicate a0.C.length (⟨[], 0, 0, 0, 0, 0, []⟩ : CoreD))).set a1.toNat ({ y4 with F := ((y3.F.take y3.F.length).drop 0) ++ ([(⟨a2, 0, (a3.headD (0 : Int)), (a3.tail.headD (0 : Int)), (a3.tail.tail.headD (0 : Int)), (a3.tail.tail.tail.headD (0 : Int)), (a3.tail.tail.tail.tail.headD (0 : Int)), (a3.tail.tail.tail.tail.tail.headD (0 : Int)), (a3.tail.tail.tail.tail.tail.tail.headD (0 : Int)), (a3.tail.tail.tail.tail.tail.tail.tail.headD (0 : Int)), []⟩ : FrameD)]) }) })
        else none
      else none
    else none
  else none

/- hazel/pack.Mark -/
def pack_Mark (N : Nat) (a0 : Int) : Option (Int) :=
  some (band .i64 (shrI .i64 a0 (0 : Int)) (1 : Int))

/- hazel/core.Log -/
def core_Log (N : Nat) (a0 : SysD) (a1 : Int) (a2 : Int) (a3 : Int) (a4 : Int) (a5 : Int) : Option (SysD) :=
  (core_isCore N a0 a1).bind fun z1 =>
  bif z1 then
    bif (decide ((a0.L.length : Int) ≤ (a0.L.length : Int))) && (decide ((a0.L.length : Int) = (a0.L.length : Int))) then
      bif decide ((((a0.L.take a0.L.length).drop 0).length) + 1 ≤ most) then
        some ({ a0 with L := ((a0.L.take a0.L.length).drop 0) ++ ([(⟨a1, a2, a3, a4, a5⟩ : EvD)]) })
      else none
    else none
  else
    some a0

/- hazel/haz.Place -/
def haz_Place (N : Nat) (a0 : Int) (a1 : Int) : Option (Int) :=
  some (w64 ((w64 ((8 : Int) + (w64 ((3 : Int) * a0)))) + a1))

/- hazel/mem.At -/
def mem_At (N : Nat) (a0 : Int) (a1 : Int) : Option (Int) :=
  some (w64 ((w64 ((128 : Int) + (w64 ((4 : Int) * (w64 (a0 - (1 : Int))))))) + a1))

/- hazel/list.cell -/
def list_cell (N : Nat) (a0 : Int) (a1 : Int) : Option (Int) :=
  (pack_Index N a0).bind fun z1 =>
  (mem_At N z1 a1).bind fun z2 =>
  some z2

/- hazel/alloc.then -/
def alloc_then (N : Nat) (a0 : SysD) (a1 : Int) (a2 : FrameD) (a3 : Int) (a4 : List Int) : Option (SysD) :=
  (core_Set N a0 a1 ({ a2 with pc := (w64 (a2.pc + (1 : Int))) })).bind fun z1 =>
  (core_Call N z1 a1 a3 a4).bind fun z2 =>
  some z2

/- hazel/alloc.alloc -/
def alloc_alloc (N : Nat) (a0 : SysD) (a1 : Int) (a2 : FrameD) : Option (SysD) :=
  (idx a0.C a1).bind fun y1 =>
  bif a2.pc == (0 : Int) then
    bif a2.pc == (0 : Int) then
      (alloc_then N a0 a1 a2 1 ([])).bind fun z2 =>
      some z2
    else
      bif a2.pc == (1 : Int) then
        bif y1.E == (0 : Int) then
          (core_Back N a0 a1 y1.V 0).bind fun z3 =>
          some z3
        else
          bif (y1.Ret.length : Int) == (0 : Int) then
            (core_Back N a0 a1 0 2).bind fun z4 =>
            some z4
          else
            (alloc_then N a0 a1 a2 6 ([])).bind fun z5 =>
            some z5
      else
        bif a2.pc == (3 : Int) then
          (core_Back N a0 a1 y1.V y1.E).bind fun z6 =>
          some z6
        else
          some a0
  else
    bif a2.pc == (2 : Int) then
      (alloc_then N a0 a1 a2 1 ([])).bind fun z7 =>
      some z7
    else
      bif a2.pc == (1 : Int) then
        bif y1.E == (0 : Int) then
          (core_Back N a0 a1 y1.V 0).bind fun z8 =>
          some z8
        else
          bif (y1.Ret.length : Int) == (0 : Int) then
            (core_Back N a0 a1 0 2).bind fun z9 =>
            some z9
          else
            (alloc_then N a0 a1 a2 6 ([])).bind fun z10 =>
            some z10
      else
        bif a2.pc == (3 : Int) then
          (core_Back N a0 a1 y1.V y1.E).bind fun z11 =>
          some z11
        else
          some a0

/- hazel/scan.kept -/
def scan_kept (N : Nat) (a0 : SysD) (a1 : Int) (a2 : List Int) : Option (SysD) :=
  bif decide (a0.C.length ≤ most) then
    bif (decide ((0 : Int) ≤ a1)) && (decide (a1 < (a0.C.length : Int))) then
      (a0.C[a1.toNat]?).bind fun y1 =>
      some ({ a0 with C := a0.C.set a1.toNat ({ y1 with Ret := a2 }) })
    else none
  else none

/- hazel/mem.turns -/
def mem_turns (N : Nat) (a0 : Int) (a1 : Int) : Option (Bool) :=
  bif (a0 == (0 : Int)) && ((a1 == (1 : Int)) && true) then
    bif (a0 == (0 : Int)) && ((a1 == (1 : Int)) && true) then some true else
    some false
  else
    bif (a0 == (1 : Int)) && ((a1 == (2 : Int)) && true) then
      bif (a0 == (1 : Int)) && ((a1 == (2 : Int)) && true) then some true else
      some false
    else
      bif (a0 == (1 : Int)) && ((a1 == (0 : Int)) && true) then
        bif (a0 == (1 : Int)) && ((a1 == (0 : Int)) && true) then some true else
        some false
      else
        bif (a0 == (2 : Int)) && ((a1 == (0 : Int)) && true) then some true else
        some false

/- hazel/mem.Turn -/
def mem_Turn (N : Nat) (a0 : MemD) (a1 : Int) (a2 : Int) : Option (MemD) :=
  bif decide (a1 < (1 : Int)) then some ({ a0 with bad := true }) else
  bif decide (a1 ≥ (a0.G.length : Int)) then some ({ a0 with bad := true }) else
  (idx a0.G a1).bind fun y1 =>
  (mem_turns N y1 a2).bind fun z2 =>
  bif !z2 then some ({ a0 with bad := true }) else
  bif decide (a0.G.length ≤ most) then
    bif (decide ((0 : Int) ≤ a1)) && (decide (a1 < (a0.G.length : Int))) then
      (a0.G[a1.toNat]?).bind fun y3 =>
      some ({ a0 with G := a0.G.set a1.toNat a2 })
    else none
  else none

/- hazel/scan.Limit -/
def scan_Limit (N : Nat) (a0 : Int) : Option (Int) :=
  some (w64 ((w64 ((3 : Int) * a0)) + (1 : Int)))

/- hazel/scan.retire -/
def scan_retire (N : Nat) (a0 : SysD) (a1 : Int) (a2 : FrameD) : Option (SysD) :=
  (idx a0.C a1).bind fun y1 =>
  bif a2.pc == (1 : Int) then
    (core_Back N a0 a1 a2.r0 0).bind fun z2 =>
    some z2
  else
    bif a2.pc != (0 : Int) then some a0 else
    bif decide ((y1.Ret.length : Int) ≥ (200 : Int)) then
      (core_Back N a0 a1 0 2).bind fun z3 =>
      some z3
    else
      bif (decide ((y1.Ret.length : Int) ≤ (y1.Ret.length : Int))) && (decide ((y1.Ret.length : Int) = (y1.Ret.length : Int))) then
        bif decide ((((y1.Ret.take y1.Ret.length).drop 0).length) + 1 ≤ most) then
          (scan_kept N a0 a1 (((y1.Ret.take y1.Ret.length).drop 0) ++ ([a2.r0]))).bind fun z4 =>
          (mem_Turn N z4.M a2.r0 2).bind fun z5 =>
          (scan_Limit N (z4.C.length : Int)).bind fun z6 =>
          bif decide ((w64 ((y1.Ret.length : Int) + (1 : Int))) < z6) then
            (core_Back N ({ z4 with M := z5 }) a1 a2.r0 0).bind fun z7 =>
            some z7
          else
            (core_Set N ({ z4 with M := z5 }) a1 ({ a2 with pc := 1 })).bind fun z8 =>
            (core_Call N z8 a1 6 ([])).bind fun z9 =>
            some z9
        else none
      else none

/- slices.Index[[]int,int] -/
def slices_Index_int_L0_st (N : Nat) (nx : ((List Int) × Int × Int × Int) → Option ((Int) ⊕ (Unit))) (x : (List Int) × Int × Int × Int) : Option ((Int) ⊕ (Unit)) :=
  bif decide (x.2.2.2 < x.2.2.1) then
    (idx x.1 x.2.2.2).bind fun y1 =>
    bif x.2.1 == y1 then some (.inl x.2.2.2) else
    nx (x.1, x.2.1, x.2.2.1, w64 (x.2.2.2 + (1 : Int)))
  else
    some (.inr ())
def slices_Index_int_L0 (N : Nat) (x : (List Int) × Int × Int × Int) : Option ((Int) ⊕ (Unit)) := natIter (slices_Index_int_L0_st N) N x

def slices_Index_int (N : Nat) (a0 : List Int) (a1 : Int) : Option (Int) :=
  (slices_Index_int_L0 N (a0, a1, (a0.length : Int), (0 : Int))).bind fun l1 =>
  brS l1 (fun l1a =>
    some l1a) (fun l1b =>
    some (-1 : Int))

/- slices.Contains[[]int,int] -/
def slices_Contains_int (N : Nat) (a0 : List Int) (a1 : Int) : Option (Bool) :=
  (slices_Index_int N a0 a1).bind fun z1 =>
  some (decide (z1 ≥ (0 : Int)))

/- slices.Concat[[]int,int] -/
def slices_Concat_int_L0_st (N : Nat) (nx : ((List (List Int)) × Int × (List (List Int)) × Int × Int) → Option (((List (List Int)) × Int) ⊕ (Empty))) (x : (List (List Int)) × Int × (List (List Int)) × Int × Int) : Option (((List (List Int)) × Int) ⊕ (Empty)) :=
  bif decide (x.2.2.2.2 < x.2.2.2.1) then
    (idx x.2.2.1 x.2.2.2.2).bind fun y1 =>
    bif decide ((w64 (x.2.1 + (y1.length : Int))) < (0 : Int)) then none else
    nx (x.1, w64 (x.2.1 + (y1.length : Int)), x.2.2.1, x.2.2.2.1, w64 (x.2.2.2.2 + (1 : Int)))
  else
    some (.inl (x.1, x.2.1))
def slices_Concat_int_L0 (N : Nat) (x : (List (List Int)) × Int × (List (List Int)) × Int × Int) : Option (((List (List Int)) × Int) ⊕ (Empty)) := natIter (slices_Concat_int_L0_st N) N x

def slices_Concat_int_L2_st (N : Nat) (nx : ((List (List Int)) × Int × Int × (List Int)) → Option (((List Int)) ⊕ (Empty))) (x : (List (List Int)) × Int × Int × (List Int)) : Option (((List Int)) ⊕ (Empty)) :=
  bif decide (x.2.2.1 < x.2.1) then
    (idx x.1 x.2.2.1).bind fun y1 =>
    bif decide (x.2.2.2.length + y1.length ≤ most) then
      nx (x.1, x.2.1, w64 (x.2.2.1 + (1 : Int)), x.2.2.2 ++ y1)
    else none
  else
    some (.inl x.2.2.2)
def slices_Concat_int_L2 (N : Nat) (x : (List (List Int)) × Int × Int × (List Int)) : Option (((List Int)) ⊕ (Empty)) := natIter (slices_Concat_int_L2_st N) N x

def slices_Concat_int (N : Nat) (a0 : List (List Int)) : Option ((List Int)) :=
  (slices_Concat_int_L0 N (a0, (0 : Int), a0, (a0.length : Int), (0 : Int))).bind fun l1 =>
  brS l1 (fun l1a =>
    bif (decide ((0 : Int) ≤ l1a.2)) && (decide (l1a.2 ≤ (most : Int))) then
      (slices_Concat_int_L2 N (l1a.1, (l1a.1.length : Int), (0 : Int), [])).bind fun l2 =>
      brS l2 (fun l2a =>
        some l2a) (fun l2b =>
        none)
    else none) (fun l1b =>
    none)

/- hazel/scan.look -/
def scan_look_L1_st (N : Nat) (nx : (Int × (List Int) × Int × (List Int) × (List Int) × Bool × (List CoreD) × (List EvD) × Int × Int × Int × Int × Int × Int × Int × Int × Int × Int × (List Int) × Bool) → Option (((List Int) × (List Int) × Bool × (List CoreD) × (List EvD)) ⊕ (Int × (List Int) × (List Int) × (List Int) × Bool × (List CoreD) × (List EvD) × Int × Int × Int × Int × Int × Int × Int × Int × Int × Int × (List Int) × Bool))) (x : Int × (List Int) × Int × (List Int) × (List Int) × Bool × (List CoreD) × (List EvD) × Int × Int × Int × Int × Int × Int × Int × Int × Int × Int × (List Int) × Bool) : Option (((List Int) × (List Int) × Bool × (List CoreD) × (List EvD)) ⊕ (Int × (List Int) × (List Int) × (List Int) × Bool × (List CoreD) × (List EvD) × Int × Int × Int × Int × Int × Int × Int × Int × Int × Int × (List Int) × Bool)) :=
  bif decide (x.2.2.1 < (x.2.1.length : Int)) then
    bif decide (x.2.2.2.2.2.2.2.2.2.2.2.1 ≥ (0 : Int)) then
      (idx x.2.1 x.2.2.1).bind fun y1 =>
      (slices_Contains_int N x.2.2.2.2.2.2.2.2.2.2.2.2.2.2.2.2.2.2.1 y1).bind fun z2 =>
      bif z2 then
        nx (x.1, x.2.1, w64 (x.2.2.1 + (1 : Int)), x.2.2.2.1, x.2.2.2.2.1, x.2.2.2.2.2.1, x.2.2.2.2.2.2.1, x.2.2.2.2.2.2.2.1, x.2.2.2.2.2.2.2.2.1, x.2.2.2.2.2.2.2.2.2.1, x.2.2.2.2.2.2.2.2.2.2.1, x.2.2.2.2.2.2.2.2.2.2.2.1, x.2.2.2.2.2.2.2.2.2.2.2.2.1, x.2.2.2.2.2.2.2.2.2.2.2.2.2.1, x.2.2.2.2.2.2.2.2.2.2.2.2.2.2.1, x.2.2.2.2.2.2.2.2.2.2.2.2.2.2.2.1, x.2.2.2.2.2.2.2.2.2.2.2.2.2.2.2.2.1, x.2.2.2.2.2.2.2.2.2.2.2.2.2.2.2.2.2.1, x.2.2.2.2.2.2.2.2.2.2.2.2.2.2.2.2.2.2.1, x.2.2.2.2.2.2.2.2.2.2.2.2.2.2.2.2.2.2.2)
      else
        bif ((decide ((0 : Int) ≤ x.2.2.1)) && (decide (x.2.2.1 ≤ (x.2.1.length : Int)))) && (decide (x.2.2.1 = x.2.2.1)) then
          bif ((decide ((0 : Int) ≤ (w64 (x.2.2.1 + (1 : Int))))) && (decide ((w64 (x.2.2.1 + (1 : Int))) ≤ (x.2.1.length : Int)))) && (decide ((x.2.1.length : Int) ≤ (x.2.1.length : Int))) then
            (slices_Concat_int N ([(x.2.1.take x.2.2.1.toNat).drop 0, (x.2.1.take x.2.1.length).drop ((w64 (x.2.2.1 + (1 : Int))).toNat)])).bind fun z3 =>
            (scan_kept N (⟨⟨x.2.2.2.1, x.2.2.2.2.1, x.2.2.2.2.2.1⟩, x.2.2.2.2.2.2.1, x.2.2.2.2.2.2.2.1⟩) x.1 z3).bind fun z4 =>
            (core_Set N z4 x.1 (⟨x.2.2.2.2.2.2.2.2.1, x.2.2.2.2.2.2.2.2.2.1, x.2.2.2.2.2.2.2.2.2.2.1, x.2.2.1, x.2.2.2.2.2.2.2.2.2.2.2.2.1, x.2.2.2.2.2.2.2.2.2.2.2.2.2.1, x.2.2.2.2.2.2.2.2.2.2.2.2.2.2.1, x.2.2.2.2.2.2.2.2.2.2.2.2.2.2.2.1, x.2.2.2.2.2.2.2.2.2.2.2.2.2.2.2.2.1, x.2.2.2.2.2.2.2.2.2.2.2.2.2.2.2.2.2.1, x.2.2.2.2.2.2.2.2.2.2.2.2.2.2.2.2.2.2.1⟩)).bind fun z5 =>
            (idx x.2.1 x.2.2.1).bind fun y6 =>
            (core_Call N z5 x.1 2 ([y6])).bind fun z7 =>
            some (.inl (z7.M.W, z7.M.G, z7.M.bad, z7.C, z7.L))
          else none
        else none
    else
      some (.inr (x.1, x.2.1, x.2.2.2.1, x.2.2.2.2.1, x.2.2.2.2.2.1, x.2.2.2.2.2.2.1, x.2.2.2.2.2.2.2.1, x.2.2.2.2.2.2.2.2.1, x.2.2.2.2.2.2.2.2.2.1, x.2.2.2.2.2.2.2.2.2.2.1, x.2.2.2.2.2.2.2.2.2.2.2.1, x.2.2.2.2.2.2.2.2.2.2.2.2.1, x.2.2.2.2.2.2.2.2.2.2.2.2.2.1, x.2.2.2.2.2.2.2.2.2.2.2.2.2.2.1, x.2.2.2.2.2.2.2.2.2.2.2.2.2.2.2.1, x.2.2.2.2.2.2.2.2.2.2.2.2.2.2.2.2.1, x.2.2.2.2.2.2.2.2.2.2.2.2.2.2.2.2.2.1, x.2.2.2.2.2.2.2.2.2.2.2.2.2.2.2.2.2.2.1, x.2.2.2.2.2.2.2.2.2.2.2.2.2.2.2.2.2.2.2))
  else
    some (.inr (x.1, x.2.1, x.2.2.2.1, x.2.2.2.2.1, x.2.2.2.2.2.1, x.2.2.2.2.2.2.1, x.2.2.2.2.2.2.2.1, x.2.2.2.2.2.2.2.2.1, x.2.2.2.2.2.2.2.2.2.1, x.2.2.2.2.2.2.2.2.2.2.1, x.2.2.2.2.2.2.2.2.2.2.2.1, x.2.2.2.2.2.2.2.2.2.2.2.2.1, x.2.2.2.2.2.2.2.2.2.2.2.2.2.1, x.2.2.2.2.2.2.2.2.2.2.2.2.2.2.1, x.2.2.2.2.2.2.2.2.2.2.2.2.2.2.2.1, x.2.2.2.2.2.2.2.2.2.2.2.2.2.2.2.2.1, x.2.2.2.2.2.2.2.2.2.2.2.2.2.2.2.2.2.1, x.2.2.2.2.2.2.2.2.2.2.2.2.2.2.2.2.2.2.1, x.2.2.2.2.2.2.2.2.2.2.2.2.2.2.2.2.2.2.2))
def scan_look_L1 (N : Nat) (x : Int × (List Int) × Int × (List Int) × (List Int) × Bool × (List CoreD) × (List EvD) × Int × Int × Int × Int × Int × Int × Int × Int × Int × Int × (List Int) × Bool) : Option (((List Int) × (List Int) × Bool × (List CoreD) × (List EvD)) ⊕ (Int × (List Int) × (List Int) × (List Int) × Bool × (List CoreD) × (List EvD) × Int × Int × Int × Int × Int × Int × Int × Int × Int × Int × (List Int) × Bool)) := natIter (scan_look_L1_st N) N x

def scan_look (N : Nat) (a0 : SysD) (a1 : Int) (a2 : FrameD) : Option (SysD) :=
  bif a2.pc == (0 : Int) then
    (mem_Load N a0.M (w64 ((8 : Int) + a2.r0))).bind fun z1 =>
    bif z1.2 != (0 : Int) then
      bif decide ((a2.S.length : Int) < (24 : Int)) then
        bif (decide ((a2.S.length : Int) ≤ (a2.S.length : Int))) && (decide ((a2.S.length : Int) = (a2.S.length : Int))) then
          bif decide ((((a2.S.take a2.S.length).drop 0).length) + 1 ≤ most) then
            bif decide ((w64 (a2.r0 + (1 : Int))) ≥ (w64 ((3 : Int) * (a0.C.length : Int)))) then
              (core_Set N ({ a0 with M := z1.1 }) a1 ({ a2 with pc := 1, r0 := (w64 (a2.r0 + (1 : Int))), S := ((a2.S.take a2.S.length).drop 0) ++ ([z1.2]) })).bind fun z2 =>
              some z2
            else
              (core_Set N ({ a0 with M := z1.1 }) a1 ({ a2 with r0 := (w64 (a2.r0 + (1 : Int))), S := ((a2.S.take a2.S.length).drop 0) ++ ([z1.2]) })).bind fun z3 =>
              some z3
          else none
        else none
      else
        bif decide ((w64 (a2.r0 + (1 : Int))) ≥ (w64 ((3 : Int) * (a0.C.length : Int)))) then
          (core_Set N ({ a0 with M := z1.1 }) a1 ({ a2 with pc := 1, r0 := (w64 (a2.r0 + (1 : Int))) })).bind fun z4 =>
          some z4
        else
          (core_Set N ({ a0 with M := z1.1 }) a1 ({ a2 with r0 := (w64 (a2.r0 + (1 : Int))) })).bind fun z5 =>
          some z5
    else
      bif decide ((w64 (a2.r0 + (1 : Int))) ≥ (w64 ((3 : Int) * (a0.C.length : Int)))) then
        (core_Set N ({ a0 with M := z1.1 }) a1 ({ a2 with pc := 1, r0 := (w64 (a2.r0 + (1 : Int))) })).bind fun z6 =>
        some z6
      else
        (core_Set N ({ a0 with M := z1.1 }) a1 ({ a2 with r0 := (w64 (a2.r0 + (1 : Int))) })).bind fun z7 =>
        some z7
  else
    bif a2.pc == (1 : Int) then
      (idx a0.C a1).bind fun y8 =>
      (scan_look_L1 N (a1, y8.Ret, if (0 : Int) > a2.r1 then (0 : Int) else a2.r1, a0.M.W, a0.M.G, a0.M.bad, a0.C, a0.L, a2.op, a2.pc, a2.r0, a2.r1, a2.r2, a2.r3, a2.r4, a2.r5, a2.r6, a2.r7, a2.S, false)).bind fun l9 =>
      brS l9 (fun l9a =>
        some (⟨⟨l9a.1, l9a.2.1, l9a.2.2.1⟩, l9a.2.2.2.1, l9a.2.2.2.2⟩)) (fun l9b =>
        (core_Back N (⟨⟨l9b.2.2.1, l9b.2.2.2.1, l9b.2.2.2.2.1⟩, l9b.2.2.2.2.2.1, l9b.2.2.2.2.2.2.1⟩) l9b.1 (l9b.2.1.length : Int) 0).bind fun z10 =>
        some z10)
    else
      some a0

/- hazel/stack.on -/
def stack_on (N : Nat) (a0 : SysD) (a1 : Int) (a2 : FrameD) (a3 : Int) : Option (SysD) :=
  (core_Set N a0 a1 ({ a2 with pc := a3 })).bind fun z1 =>
  some z1

/- hazel/stack.pop -/
def stack_pop (N : Nat) (a0 : SysD) (a1 : Int) (a2 : FrameD) : Option (SysD) :=
  bif a2.pc == (0 : Int) then
    (mem_Load N a0.M 0).bind fun z1 =>
    (pack_Index N z1.2).bind fun z2 =>
    bif z2 == (0 : Int) then
      (core_Log N ({ a0 with M := z1.1 }) a1 9 0 0 0).bind fun z3 =>
      (core_Back N z3 a1 0 2).bind fun z4 =>
      some z4
    else
      (stack_on N ({ a0 with M := z1.1 }) a1 ({ a2 with r0 := z1.2 }) 1).bind fun z5 =>
      some z5
  else
    bif a2.pc == (1 : Int) then
      (pack_Index N a2.r0).bind fun z6 =>
      (mem_At N z6 0).bind fun z7 =>
      (mem_Load N a0.M z7).bind fun z8 =>
      (stack_on N ({ a0 with M := z8.1 }) a1 ({ a2 with r1 := z8.2 }) 2).bind fun z9 =>
      some z9
    else
      bif a2.pc == (2 : Int) then
        (pack_Next N a2.r0 a2.r1 0).bind fun z10 =>
        (mem_Cas N a0.M 0 a2.r0 z10).bind fun z11 =>
        bif !z11.2 then
          (stack_on N ({ a0 with M := z11.1 }) a1 a2 0).bind fun z12 =>
          some z12
        else
          (pack_Index N a2.r0).bind fun z13 =>
          (mem_Turn N z11.1 z13 1).bind fun z14 =>
          (core_Back N ({ a0 with M := z14 }) a1 z13 0).bind fun z15 =>
          some z15
      else
        some a0

/- hazel/stack.push -/
def stack_push (N : Nat) (a0 : SysD) (a1 : Int) (a2 : FrameD) : Option (SysD) :=
  bif a2.pc == (0 : Int) then
    (mem_Load N a0.M 0).bind fun z1 =>
    (stack_on N ({ a0 with M := z1.1 }) a1 ({ a2 with r1 := z1.2 }) 1).bind fun z2 =>
    some z2
  else
    bif a2.pc == (1 : Int) then
      (mem_At N a2.r0 0).bind fun z3 =>
      (pack_Index N a2.r1).bind fun z4 =>
      (mem_Store N a0.M z3 z4).bind fun z5 =>
      (stack_on N ({ a0 with M := z5 }) a1 a2 2).bind fun z6 =>
      some z6
    else
      bif a2.pc == (2 : Int) then
        (pack_Next N a2.r1 a2.r0 0).bind fun z7 =>
        (mem_Cas N a0.M 0 a2.r1 z7).bind fun z8 =>
        bif !z8.2 then
          (stack_on N ({ a0 with M := z8.1 }) a1 a2 0).bind fun z9 =>
          some z9
        else
          (mem_Turn N z8.1 a2.r0 0).bind fun z10 =>
          (core_Back N ({ a0 with M := z10 }) a1 a2.r0 0).bind fun z11 =>
          some z11
      else
        some a0

/- hazel/stack.Step -/
def stack_Step (N : Nat) (a0 : SysD) (a1 : Int) : Option (SysD) :=
  (core_Top N a0 a1).bind fun z1 =>
  bif z1.2 then
    bif z1.1.op == (1 : Int) then
      (stack_pop N a0 a1 z1.1).bind fun z2 =>
      some z2
    else
      bif z1.2 then
        bif z1.1.op == (2 : Int) then
          (stack_push N a0 a1 z1.1).bind fun z3 =>
          some z3
        else
          some a0
      else
        some a0
  else
    bif z1.2 then
      bif z1.1.op == (2 : Int) then
        (stack_push N a0 a1 z1.1).bind fun z4 =>
        some z4
      else
        some a0
    else
      some a0

/- hazel/scan.steps$1 -/
def scan_steps_1 (N : Nat) (a0 : SysD) (a1 : Int) (a2 : FrameD) : Option (SysD) :=
  (stack_Step N a0 a1).bind fun z1 =>
  some z1

/- hazel/haz.on -/
def haz_on (N : Nat) (a0 : SysD) (a1 : Int) (a2 : FrameD) (a3 : Int) : Option (SysD) :=
  (core_Set N a0 a1 ({ a2 with pc := a3 })).bind fun z1 =>
  some z1

/- hazel/haz.prot -/
def haz_prot (N : Nat) (a0 : SysD) (a1 : Int) (a2 : FrameD) : Option (SysD) :=
  bif a2.pc == (0 : Int) then
    (mem_Load N a0.M a2.r0).bind fun z1 =>
    (pack_Index N z1.2).bind fun z2 =>
    bif z2 == (0 : Int) then
      (core_Back N ({ a0 with M := z1.1 }) a1 z1.2 0).bind fun z3 =>
      some z3
    else
      (haz_on N ({ a0 with M := z1.1 }) a1 ({ a2 with r2 := z1.2 }) 1).bind fun z4 =>
      some z4
  else
    bif a2.pc == (1 : Int) then
      (haz_Place N a1 a2.r1).bind fun z5 =>
      (pack_Index N a2.r2).bind fun z6 =>
      (mem_Store N a0.M z5 z6).bind fun z7 =>
      (haz_on N ({ a0 with M := z7 }) a1 a2 2).bind fun z8 =>
      some z8
    else
      bif a2.pc == (2 : Int) then
        (mem_Load N a0.M a2.r0).bind fun z9 =>
        bif z9.2 == a2.r2 then
          (core_Back N ({ a0 with M := z9.1 }) a1 z9.2 0).bind fun z10 =>
          some z10
        else
          (pack_Index N z9.2).bind fun z11 =>
          bif z11 == (0 : Int) then
            (core_Back N ({ a0 with M := z9.1 }) a1 z9.2 0).bind fun z12 =>
            some z12
          else
            (haz_on N ({ a0 with M := z9.1 }) a1 ({ a2 with r2 := z9.2, r3 := z9.2 }) 1).bind fun z13 =>
            some z13
      else
        some a0

/- hazel/haz.Step -/
def haz_Step (N : Nat) (a0 : SysD) (a1 : Int) : Option (SysD) :=
  (core_Top N a0 a1).bind fun z1 =>
  bif z1.2 then
    bif z1.1.op == (3 : Int) then
      (haz_prot N a0 a1 z1.1).bind fun z2 =>
      some z2
    else
      bif z1.2 then
        bif z1.1.op == (4 : Int) then
          bif decide (z1.1.pc ≥ (0 : Int)) then
            bif decide (z1.1.pc < (3 : Int)) then
              (haz_Place N a1 z1.1.pc).bind fun z3 =>
              (mem_Store N a0.M z3 0).bind fun z4 =>
              bif z1.1.pc == (2 : Int) then
                (core_Back N ({ a0 with M := z4 }) a1 0 0).bind fun z5 =>
                some z5
              else
                (haz_on N ({ a0 with M := z4 }) a1 z1.1 (w64 (z1.1.pc + (1 : Int)))).bind fun z6 =>
                some z6
            else
              some a0
          else
            some a0
        else
          some a0
      else
        some a0
  else
    bif z1.2 then
      bif z1.1.op == (4 : Int) then
        bif decide (z1.1.pc ≥ (0 : Int)) then
          bif decide (z1.1.pc < (3 : Int)) then
            (haz_Place N a1 z1.1.pc).bind fun z7 =>
            (mem_Store N a0.M z7 0).bind fun z8 =>
            bif z1.1.pc == (2 : Int) then
              (core_Back N ({ a0 with M := z8 }) a1 0 0).bind fun z9 =>
              some z9
            else
              (haz_on N ({ a0 with M := z8 }) a1 z1.1 (w64 (z1.1.pc + (1 : Int)))).bind fun z10 =>
              some z10
          else
            some a0
        else
          some a0
      else
        some a0
    else
      some a0

/- hazel/scan.steps$2 -/
def scan_steps_2 (N : Nat) (a0 : SysD) (a1 : Int) (a2 : FrameD) : Option (SysD) :=
  (haz_Step N a0 a1).bind fun z1 =>
  some z1

/- hazel/scan.Step -/
def scan_Step (N : Nat) (a0 : SysD) (a1 : Int) : Option (SysD) :=
  (core_Top N a0 a1).bind fun z1 =>
  bif decide (z1.1.op = (5 : Int)) then
    bif z1.2 then
      (scan_retire N a0 a1 z1.1).bind fun z2 =>
      some z2
    else
      some a0
  else
    bif decide (z1.1.op = (6 : Int)) then
      bif z1.2 then
        (scan_look N a0 a1 z1.1).bind fun z3 =>
        some z3
      else
        some a0
    else
      bif decide (z1.1.op = (1 : Int)) then
        bif z1.2 then
          (scan_steps_1 N a0 a1 z1.1).bind fun z4 =>
          some z4
        else
          some a0
      else
        bif decide (z1.1.op = (2 : Int)) then
          bif z1.2 then
            (scan_steps_1 N a0 a1 z1.1).bind fun z5 =>
            some z5
          else
            some a0
        else
          bif decide (z1.1.op = (3 : Int)) then
            bif z1.2 then
              (scan_steps_2 N a0 a1 z1.1).bind fun z6 =>
              some z6
            else
              some a0
          else
            bif decide (z1.1.op = (4 : Int)) then
              bif z1.2 then
                (scan_steps_2 N a0 a1 z1.1).bind fun z7 =>
                some z7
              else
                some a0
            else
              bif z1.2 then some a0 else
              some a0

/- hazel/alloc.Step -/
def alloc_Step (N : Nat) (a0 : SysD) (a1 : Int) : Option (SysD) :=
  (core_Top N a0 a1).bind fun z1 =>
  bif z1.2 then
    bif z1.1.op == (7 : Int) then
      (alloc_alloc N a0 a1 z1.1).bind fun z2 =>
      some z2
    else
      bif z1.2 then
        bif z1.1.op == (8 : Int) then
          bif z1.1.pc == (0 : Int) then
            (alloc_then N a0 a1 z1.1 2 ([z1.1.r0])).bind fun z3 =>
            some z3
          else
            bif z1.2 then
              bif z1.1.op == (8 : Int) then
                bif z1.1.pc == (1 : Int) then
                  (core_Back N a0 a1 z1.1.r0 0).bind fun z4 =>
                  some z4
                else
                  (scan_Step N a0 a1).bind fun z5 =>
                  some z5
              else
                (scan_Step N a0 a1).bind fun z6 =>
                some z6
            else
              (scan_Step N a0 a1).bind fun z7 =>
              some z7
        else
          bif z1.2 then
            bif z1.1.op == (8 : Int) then
              bif z1.1.pc == (1 : Int) then
                (core_Back N a0 a1 z1.1.r0 0).bind fun z8 =>
                some z8
              else
                (scan_Step N a0 a1).bind fun z9 =>
                some z9
            else
              (scan_Step N a0 a1).bind fun z10 =>
              some z10
          else
            (scan_Step N a0 a1).bind fun z11 =>
            some z11
      else
        bif z1.2 then
          bif z1.1.op == (8 : Int) then
            bif z1.1.pc == (1 : Int) then
              (core_Back N a0 a1 z1.1.r0 0).bind fun z12 =>
              some z12
            else
              (scan_Step N a0 a1).bind fun z13 =>
              some z13
          else
            (scan_Step N a0 a1).bind fun z14 =>
            some z14
        else
          (scan_Step N a0 a1).bind fun z15 =>
          some z15
  else
    bif z1.2 then
      bif z1.1.op == (8 : Int) then
        bif z1.1.pc == (0 : Int) then
          (alloc_then N a0 a1 z1.1 2 ([z1.1.r0])).bind fun z16 =>
          some z16
        else
          bif z1.2 then
            bif z1.1.op == (8 : Int) then
              bif z1.1.pc == (1 : Int) then
                (core_Back N a0 a1 z1.1.r0 0).bind fun z17 =>
                some z17
              else
                (scan_Step N a0 a1).bind fun z18 =>
                some z18
            else
              (scan_Step N a0 a1).bind fun z19 =>
              some z19
          else
            (scan_Step N a0 a1).bind fun z20 =>
            some z20
      else
        bif z1.2 then
          bif z1.1.op == (8 : Int) then
            bif z1.1.pc == (1 : Int) then
              (core_Back N a0 a1 z1.1.r0 0).bind fun z21 =>
              some z21
            else
              (scan_Step N a0 a1).bind fun z22 =>
              some z22
          else
            (scan_Step N a0 a1).bind fun z23 =>
            some z23
        else
          (scan_Step N a0 a1).bind fun z24 =>
          some z24
    else
      bif z1.2 then
        bif z1.1.op == (8 : Int) then
          bif z1.1.pc == (1 : Int) then
            (core_Back N a0 a1 z1.1.r0 0).bind fun z25 =>
            some z25
          else
            (scan_Step N a0 a1).bind fun z26 =>
            some z26
        else
          (scan_Step N a0 a1).bind fun z27 =>
          some z27
      else
        (scan_Step N a0 a1).bind fun z28 =>
        some z28

/- hazel/msq.Spot -/
def msq_Spot (N : Nat) (a0 : Int) : Option (Int) :=
  some (w64 ((32 : Int) + (w64 ((2 : Int) * a0))))

/- hazel/msq.cell -/
def msq_cell (N : Nat) (a0 : Int) (a1 : Int) : Option (Int) :=
  (pack_Index N a0).bind fun z1 =>
  (mem_At N z1 a1).bind fun z2 =>
  some z2

/- hazel/msq.isQueue -/
def msq_isQueue (N : Nat) (a0 : Int) : Option (Bool) :=
  bif decide (a0 ≥ (0 : Int)) then some (decide (a0 < (8 : Int))) else
  some false

/- hazel/msq.Step -/
def msq_Step (N : Nat) (a0 : SysD) (a1 : Int) : Option (SysD) :=
  (core_Top N a0 a1).bind fun z1 =>
  bif !z1.2 then
    (alloc_Step N a0 a1).bind fun z2 =>
    some z2
  else
    bif z1.1.op != (9 : Int) then
      bif z1.1.op != (10 : Int) then
        (alloc_Step N a0 a1).bind fun z3 =>
        some z3
      else
        bif z1.1.op == (10 : Int) then
          (msq_isQueue N z1.1.r0).bind fun z4 =>
          bif !z4 then some a0 else
          bif decide (z1.1.pc < (0 : Int)) then some a0 else
          bif decide (z1.1.pc ≥ (11 : Int)) then some a0 else
          bif decide (z1.1.pc = (10 : Int)) then
            (haz_Place N a1 1).bind fun z5 =>
            (mem_Store N a0.M z5 0).bind fun z6 =>
            (core_Back N ({ a0 with M := z6 }) a1 z1.1.r5 z1.1.r6).bind fun z7 =>
            some z7
          else
            bif decide (z1.1.pc = (9 : Int)) then
              (haz_Place N a1 0).bind fun z8 =>
              (mem_Store N a0.M z8 0).bind fun z9 =>
              (core_Set N ({ a0 with M := z9 }) a1 ({ z1.1 with pc := 10 })).bind fun z10 =>
              some z10
            else
              bif decide (z1.1.pc = (8 : Int)) then
                (msq_Spot N z1.1.r0).bind fun z11 =>
                (pack_Index N z1.1.r4).bind fun z12 =>
                (pack_Next N z1.1.r2 z12 0).bind fun z13 =>
                (mem_Cas N a0.M z11 z1.1.r2 z13).bind fun z14 =>
                bif !z14.2 then
                  (core_Set N ({ a0 with M := z14.1 }) a1 ({ z1.1 with pc := 0 })).bind fun z15 =>
                  some z15
                else
                  (core_Log N ({ a0 with M := z14.1 }) a1 2 z1.1.r0 0 z1.1.r5).bind fun z16 =>
                  (pack_Index N z1.1.r2).bind fun z17 =>
                  (core_Set N z16 a1 ({ z1.1 with pc := 9, r6 := 0 })).bind fun z18 =>
                  (core_Call N z18 a1 5 ([z17])).bind fun z19 =>
                  some z19
              else
                bif decide (z1.1.pc = (7 : Int)) then
                  (msq_cell N z1.1.r4 3).bind fun z20 =>
                  (mem_Load N a0.M z20).bind fun z21 =>
                  (core_Set N ({ a0 with M := z21.1 }) a1 ({ z1.1 with pc := 8, r5 := z21.2 })).bind fun z22 =>
                  some z22
                else
                  bif decide (z1.1.pc = (6 : Int)) then
                    (msq_Spot N z1.1.r0).bind fun z23 =>
                    (mem_Load N a0.M z23).bind fun z24 =>
                    bif z24.2 == z1.1.r2 then
                      (core_Set N ({ a0 with M := z24.1 }) a1 ({ z1.1 with pc := 7 })).bind fun z25 =>
                      some z25
                    else
                      (core_Set N ({ a0 with M := z24.1 }) a1 ({ z1.1 with pc := 0 })).bind fun z26 =>
                      some z26
                  else
                    bif decide (z1.1.pc = (5 : Int)) then
                      (haz_Place N a1 1).bind fun z27 =>
                      (pack_Index N z1.1.r4).bind fun z28 =>
                      (mem_Store N a0.M z27 z28).bind fun z29 =>
                      (core_Set N ({ a0 with M := z29 }) a1 ({ z1.1 with pc := 6 })).bind fun z30 =>
                      some z30
                    else
                      bif decide (z1.1.pc = (4 : Int)) then
                        (msq_Spot N z1.1.r0).bind fun z31 =>
                        (pack_Index N z1.1.r4).bind fun z32 =>
                        (pack_Next N z1.1.r3 z32 0).bind fun z33 =>
                        (mem_Cas N a0.M (w64 (z31 + (1 : Int))) z1.1.r3 z33).bind fun z34 =>
                        (core_Set N ({ a0 with M := z34.1 }) a1 ({ z1.1 with pc := 0 })).bind fun z35 =>
                        some z35
                      else
                        bif decide (z1.1.pc = (3 : Int)) then
                          (msq_cell N z1.1.r2 1).bind fun z36 =>
                          (mem_Load N a0.M z36).bind fun z37 =>
                          (pack_Index N z37.2).bind fun z38 =>
                          bif decide (z38 > (0 : Int)) then
                            (pack_Index N z1.1.r2).bind fun z39 =>
                            (pack_Index N z1.1.r3).bind fun z40 =>
                            bif z39 == z40 then
                              (core_Set N ({ a0 with M := z37.1 }) a1 ({ z1.1 with pc := 4, r4 := z37.2 })).bind fun z41 =>
                              some z41
                            else
                              (core_Set N ({ a0 with M := z37.1 }) a1 ({ z1.1 with pc := 5, r4 := z37.2 })).bind fun z42 =>
                              some z42
                          else
                            (core_Log N ({ a0 with M := z37.1 }) a1 3 z1.1.r0 0 0).bind fun z43 =>
                            (core_Set N z43 a1 ({ z1.1 with pc := 9, r4 := z37.2, r5 := 0, r6 := 3 })).bind fun z44 =>
                            some z44
                        else
                          bif decide (z1.1.pc = (2 : Int)) then
                            (msq_Spot N z1.1.r0).bind fun z45 =>
                            (mem_Load N a0.M (w64 (z45 + (1 : Int)))).bind fun z46 =>
                            (core_Set N ({ a0 with M := z46.1 }) a1 ({ z1.1 with pc := 3, r3 := z46.2 })).bind fun z47 =>
                            some z47
                          else
                            bif decide (z1.1.pc = (1 : Int)) then
                              (idx a0.C a1).bind fun y48 =>
                              (core_Set N a0 a1 ({ z1.1 with pc := 2, r2 := y48.V })).bind fun z49 =>
                              some z49
                            else
                              bif decide (z1.1.pc = (0 : Int)) then
                                (msq_Spot N z1.1.r0).bind fun z50 =>
                                (core_Set N a0 a1 ({ z1.1 with pc := 1 })).bind fun z51 =>
                                (core_Call N z51 a1 3 ([z50, 0])).bind fun z52 =>
                                some z52
                              else none
        else
          (msq_isQueue N z1.1.r0).bind fun z53 =>
          bif !z53 then some a0 else
          bif decide (z1.1.pc < (0 : Int)) then some a0 else
          bif decide (z1.1.pc ≥ (12 : Int)) then some a0 else
          bif decide (z1.1.pc = (11 : Int)) then
            (haz_Place N a1 0).bind fun z54 =>
            (mem_Store N a0.M z54 0).bind fun z55 =>
            (core_Back N ({ a0 with M := z55 }) a1 0 0).bind fun z56 =>
            some z56
          else
            bif decide (z1.1.pc = (10 : Int)) then
              (msq_Spot N z1.1.r0).bind fun z57 =>
              (pack_Next N z1.1.r3 z1.1.r2 0).bind fun z58 =>
              (mem_Cas N a0.M (w64 (z57 + (1 : Int))) z1.1.r3 z58).bind fun z59 =>
              (core_Set N ({ a0 with M := z59.1 }) a1 ({ z1.1 with pc := 11 })).bind fun z60 =>
              some z60
            else
              bif decide (z1.1.pc = (9 : Int)) then
                (msq_cell N z1.1.r3 1).bind fun z61 =>
                (pack_Next N z1.1.r4 z1.1.r2 0).bind fun z62 =>
                (mem_Cas N a0.M z61 z1.1.r4 z62).bind fun z63 =>
                bif !z63.2 then
                  (core_Set N ({ a0 with M := z63.1 }) a1 ({ z1.1 with pc := 5 })).bind fun z64 =>
                  some z64
                else
                  (core_Log N ({ a0 with M := z63.1 }) a1 1 z1.1.r0 0 z1.1.r1).bind fun z65 =>
                  (core_Set N z65 a1 ({ z1.1 with pc := 10 })).bind fun z66 =>
                  some z66
              else
                bif decide (z1.1.pc = (8 : Int)) then
                  (msq_Spot N z1.1.r0).bind fun z67 =>
                  (pack_Index N z1.1.r4).bind fun z68 =>
                  (pack_Next N z1.1.r3 z68 0).bind fun z69 =>
                  (mem_Cas N a0.M (w64 (z67 + (1 : Int))) z1.1.r3 z69).bind fun z70 =>
                  (core_Set N ({ a0 with M := z70.1 }) a1 ({ z1.1 with pc := 5 })).bind fun z71 =>
                  some z71
                else
                  bif decide (z1.1.pc = (7 : Int)) then
                    (msq_cell N z1.1.r3 1).bind fun z72 =>
                    (mem_Load N a0.M z72).bind fun z73 =>
                    (pack_Index N z73.2).bind fun z74 =>
                    bif z74 == (0 : Int) then
                      (core_Set N ({ a0 with M := z73.1 }) a1 ({ z1.1 with pc := 9, r4 := z73.2 })).bind fun z75 =>
                      some z75
                    else
                      (core_Set N ({ a0 with M := z73.1 }) a1 ({ z1.1 with pc := 8, r4 := z73.2 })).bind fun z76 =>
                      some z76
                  else
                    bif decide (z1.1.pc = (6 : Int)) then
                      (idx a0.C a1).bind fun y77 =>
                      (core_Set N a0 a1 ({ z1.1 with pc := 7, r3 := y77.V })).bind fun z78 =>
                      some z78
                    else
                      bif decide (z1.1.pc = (5 : Int)) then
                        (msq_Spot N z1.1.r0).bind fun z79 =>
                        (core_Set N a0 a1 ({ z1.1 with pc := 6 })).bind fun z80 =>
                        (core_Call N z80 a1 3 ([(w64 (z79 + (1 : Int))), 0])).bind fun z81 =>
                        some z81
                      else
                        bif decide (z1.1.pc = (4 : Int)) then
                          (mem_At N z1.1.r2 1).bind fun z82 =>
                          (pack_Next N z1.1.r4 0 0).bind fun z83 =>
                          (mem_Store N a0.M z82 z83).bind fun z84 =>
                          (core_Set N ({ a0 with M := z84 }) a1 ({ z1.1 with pc := 5 })).bind fun z85 =>
                          some z85
                        else
                          bif decide (z1.1.pc = (3 : Int)) then
                            (mem_At N z1.1.r2 1).bind fun z86 =>
                            (mem_Load N a0.M z86).bind fun z87 =>
                            (core_Set N ({ a0 with M := z87.1 }) a1 ({ z1.1 with pc := 4, r4 := z87.2 })).bind fun z88 =>
                            some z88
                          else
                            bif decide (z1.1.pc = (2 : Int)) then
                              (mem_At N z1.1.r2 3).bind fun z89 =>
                              (mem_Store N a0.M z89 z1.1.r1).bind fun z90 =>
                              (core_Set N ({ a0 with M := z90 }) a1 ({ z1.1 with pc := 3 })).bind fun z91 =>
                              some z91
                            else
                              bif decide (z1.1.pc = (1 : Int)) then
                                (idx a0.C a1).bind fun y92 =>
                                bif y92.E != (0 : Int) then
                                  (core_Back N a0 a1 0 y92.E).bind fun z93 =>
                                  some z93
                                else
                                  (core_Set N a0 a1 ({ z1.1 with pc := 2, r2 := y92.V })).bind fun z94 =>
                                  some z94
                              else
                                bif decide (z1.1.pc = (0 : Int)) then
                                  (core_Set N a0 a1 ({ z1.1 with pc := 1 })).bind fun z95 =>
                                  (core_Call N z95 a1 7 ([])).bind fun z96 =>
                                  some z96
                                else none
    else
      bif z1.1.op == (10 : Int) then
        (msq_isQueue N z1.1.r0).bind fun z97 =>
        bif !z97 then some a0 else
        bif decide (z1.1.pc < (0 : Int)) then some a0 else
        bif decide (z1.1.pc ≥ (11 : Int)) then some a0 else
        bif decide (z1.1.pc = (10 : Int)) then
          (haz_Place N a1 1).bind fun z98 =>
          (mem_Store N a0.M z98 0).bind fun z99 =>
          (core_Back N ({ a0 with M := z99 }) a1 z1.1.r5 z1.1.r6).bind fun z100 =>
          some z100
        else
          bif decide (z1.1.pc = (9 : Int)) then
            (haz_Place N a1 0).bind fun z101 =>
            (mem_Store N a0.M z101 0).bind fun z102 =>
            (core_Set N ({ a0 with M := z102 }) a1 ({ z1.1 with pc := 10 })).bind fun z103 =>
            some z103
          else
            bif decide (z1.1.pc = (8 : Int)) then
              (msq_Spot N z1.1.r0).bind fun z104 =>
              (pack_Index N z1.1.r4).bind fun z105 =>
              (pack_Next N z1.1.r2 z105 0).bind fun z106 =>
              (mem_Cas N a0.M z104 z1.1.r2 z106).bind fun z107 =>
              bif !z107.2 then
                (core_Set N ({ a0 with M := z107.1 }) a1 ({ z1.1 with pc := 0 })).bind fun z108 =>
                some z108
              else
                (core_Log N ({ a0 with M := z107.1 }) a1 2 z1.1.r0 0 z1.1.r5).bind fun z109 =>
                (pack_Index N z1.1.r2).bind fun z110 =>
                (core_Set N z109 a1 ({ z1.1 with pc := 9, r6 := 0 })).bind fun z111 =>
                (core_Call N z111 a1 5 ([z110])).bind fun z112 =>
                some z112
            else
              bif decide (z1.1.pc = (7 : Int)) then
                (msq_cell N z1.1.r4 3).bind fun z113 =>
                (mem_Load N a0.M z113).bind fun z114 =>
                (core_Set N ({ a0 with M := z114.1 }) a1 ({ z1.1 with pc := 8, r5 := z114.2 })).bind fun z115 =>
                some z115
              else
                bif decide (z1.1.pc = (6 : Int)) then
                  (msq_Spot N z1.1.r0).bind fun z116 =>
                  (mem_Load N a0.M z116).bind fun z117 =>
                  bif z117.2 == z1.1.r2 then
                    (core_Set N ({ a0 with M := z117.1 }) a1 ({ z1.1 with pc := 7 })).bind fun z118 =>
                    some z118
                  else
                    (core_Set N ({ a0 with M := z117.1 }) a1 ({ z1.1 with pc := 0 })).bind fun z119 =>
                    some z119
                else
                  bif decide (z1.1.pc = (5 : Int)) then
                    (haz_Place N a1 1).bind fun z120 =>
                    (pack_Index N z1.1.r4).bind fun z121 =>
                    (mem_Store N a0.M z120 z121).bind fun z122 =>
                    (core_Set N ({ a0 with M := z122 }) a1 ({ z1.1 with pc := 6 })).bind fun z123 =>
                    some z123
                  else
                    bif decide (z1.1.pc = (4 : Int)) then
                      (msq_Spot N z1.1.r0).bind fun z124 =>
                      (pack_Index N z1.1.r4).bind fun z125 =>
                      (pack_Next N z1.1.r3 z125 0).bind fun z126 =>
                      (mem_Cas N a0.M (w64 (z124 + (1 : Int))) z1.1.r3 z126).bind fun z127 =>
                      (core_Set N ({ a0 with M := z127.1 }) a1 ({ z1.1 with pc := 0 })).bind fun z128 =>
                      some z128
                    else
                      bif decide (z1.1.pc = (3 : Int)) then
                        (msq_cell N z1.1.r2 1).bind fun z129 =>
                        (mem_Load N a0.M z129).bind fun z130 =>
                        (pack_Index N z130.2).bind fun z131 =>
                        bif decide (z131 > (0 : Int)) then
                          (pack_Index N z1.1.r2).bind fun z132 =>
                          (pack_Index N z1.1.r3).bind fun z133 =>
                          bif z132 == z133 then
                            (core_Set N ({ a0 with M := z130.1 }) a1 ({ z1.1 with pc := 4, r4 := z130.2 })).bind fun z134 =>
                            some z134
                          else
                            (core_Set N ({ a0 with M := z130.1 }) a1 ({ z1.1 with pc := 5, r4 := z130.2 })).bind fun z135 =>
                            some z135
                        else
                          (core_Log N ({ a0 with M := z130.1 }) a1 3 z1.1.r0 0 0).bind fun z136 =>
                          (core_Set N z136 a1 ({ z1.1 with pc := 9, r4 := z130.2, r5 := 0, r6 := 3 })).bind fun z137 =>
                          some z137
                      else
                        bif decide (z1.1.pc = (2 : Int)) then
                          (msq_Spot N z1.1.r0).bind fun z138 =>
                          (mem_Load N a0.M (w64 (z138 + (1 : Int)))).bind fun z139 =>
                          (core_Set N ({ a0 with M := z139.1 }) a1 ({ z1.1 with pc := 3, r3 := z139.2 })).bind fun z140 =>
                          some z140
                        else
                          bif decide (z1.1.pc = (1 : Int)) then
                            (idx a0.C a1).bind fun y141 =>
                            (core_Set N a0 a1 ({ z1.1 with pc := 2, r2 := y141.V })).bind fun z142 =>
                            some z142
                          else
                            bif decide (z1.1.pc = (0 : Int)) then
                              (msq_Spot N z1.1.r0).bind fun z143 =>
                              (core_Set N a0 a1 ({ z1.1 with pc := 1 })).bind fun z144 =>
                              (core_Call N z144 a1 3 ([z143, 0])).bind fun z145 =>
                              some z145
                            else none
      else
        (msq_isQueue N z1.1.r0).bind fun z146 =>
        bif !z146 then some a0 else
        bif decide (z1.1.pc < (0 : Int)) then some a0 else
        bif decide (z1.1.pc ≥ (12 : Int)) then some a0 else
        bif decide (z1.1.pc = (11 : Int)) then
          (haz_Place N a1 0).bind fun z147 =>
          (mem_Store N a0.M z147 0).bind fun z148 =>
          (core_Back N ({ a0 with M := z148 }) a1 0 0).bind fun z149 =>
          some z149
        else
          bif decide (z1.1.pc = (10 : Int)) then
            (msq_Spot N z1.1.r0).bind fun z150 =>
            (pack_Next N z1.1.r3 z1.1.r2 0).bind fun z151 =>
            (mem_Cas N a0.M (w64 (z150 + (1 : Int))) z1.1.r3 z151).bind fun z152 =>
            (core_Set N ({ a0 with M := z152.1 }) a1 ({ z1.1 with pc := 11 })).bind fun z153 =>
            some z153
          else
            bif decide (z1.1.pc = (9 : Int)) then
              (msq_cell N z1.1.r3 1).bind fun z154 =>
              (pack_Next N z1.1.r4 z1.1.r2 0).bind fun z155 =>
              (mem_Cas N a0.M z154 z1.1.r4 z155).bind fun z156 =>
              bif !z156.2 then
                (core_Set N ({ a0 with M := z156.1 }) a1 ({ z1.1 with pc := 5 })).bind fun z157 =>
                some z157
              else
                (core_Log N ({ a0 with M := z156.1 }) a1 1 z1.1.r0 0 z1.1.r1).bind fun z158 =>
                (core_Set N z158 a1 ({ z1.1 with pc := 10 })).bind fun z159 =>
                some z159
            else
              bif decide (z1.1.pc = (8 : Int)) then
                (msq_Spot N z1.1.r0).bind fun z160 =>
                (pack_Index N z1.1.r4).bind fun z161 =>
                (pack_Next N z1.1.r3 z161 0).bind fun z162 =>
                (mem_Cas N a0.M (w64 (z160 + (1 : Int))) z1.1.r3 z162).bind fun z163 =>
                (core_Set N ({ a0 with M := z163.1 }) a1 ({ z1.1 with pc := 5 })).bind fun z164 =>
                some z164
              else
                bif decide (z1.1.pc = (7 : Int)) then
                  (msq_cell N z1.1.r3 1).bind fun z165 =>
                  (mem_Load N a0.M z165).bind fun z166 =>
                  (pack_Index N z166.2).bind fun z167 =>
                  bif z167 == (0 : Int) then
                    (core_Set N ({ a0 with M := z166.1 }) a1 ({ z1.1 with pc := 9, r4 := z166.2 })).bind fun z168 =>
                    some z168
                  else
                    (core_Set N ({ a0 with M := z166.1 }) a1 ({ z1.1 with pc := 8, r4 := z166.2 })).bind fun z169 =>
                    some z169
                else
                  bif decide (z1.1.pc = (6 : Int)) then
                    (idx a0.C a1).bind fun y170 =>
                    (core_Set N a0 a1 ({ z1.1 with pc := 7, r3 := y170.V })).bind fun z171 =>
                    some z171
                  else
                    bif decide (z1.1.pc = (5 : Int)) then
                      (msq_Spot N z1.1.r0).bind fun z172 =>
                      (core_Set N a0 a1 ({ z1.1 with pc := 6 })).bind fun z173 =>
                      (core_Call N z173 a1 3 ([(w64 (z172 + (1 : Int))), 0])).bind fun z174 =>
                      some z174
                    else
                      bif decide (z1.1.pc = (4 : Int)) then
                        (mem_At N z1.1.r2 1).bind fun z175 =>
                        (pack_Next N z1.1.r4 0 0).bind fun z176 =>
                        (mem_Store N a0.M z175 z176).bind fun z177 =>
                        (core_Set N ({ a0 with M := z177 }) a1 ({ z1.1 with pc := 5 })).bind fun z178 =>
                        some z178
                      else
                        bif decide (z1.1.pc = (3 : Int)) then
                          (mem_At N z1.1.r2 1).bind fun z179 =>
                          (mem_Load N a0.M z179).bind fun z180 =>
                          (core_Set N ({ a0 with M := z180.1 }) a1 ({ z1.1 with pc := 4, r4 := z180.2 })).bind fun z181 =>
                          some z181
                        else
                          bif decide (z1.1.pc = (2 : Int)) then
                            (mem_At N z1.1.r2 3).bind fun z182 =>
                            (mem_Store N a0.M z182 z1.1.r1).bind fun z183 =>
                            (core_Set N ({ a0 with M := z183 }) a1 ({ z1.1 with pc := 3 })).bind fun z184 =>
                            some z184
                          else
                            bif decide (z1.1.pc = (1 : Int)) then
                              (idx a0.C a1).bind fun y185 =>
                              bif y185.E != (0 : Int) then
                                (core_Back N a0 a1 0 y185.E).bind fun z186 =>
                                some z186
                              else
                                (core_Set N a0 a1 ({ z1.1 with pc := 2, r2 := y185.V })).bind fun z187 =>
                                some z187
                            else
                              bif decide (z1.1.pc = (0 : Int)) then
                                (core_Set N a0 a1 ({ z1.1 with pc := 1 })).bind fun z188 =>
                                (core_Call N z188 a1 7 ([])).bind fun z189 =>
                                some z189
                              else none

/- hazel/list.Step -/
def list_Step (N : Nat) (a0 : SysD) (a1 : Int) : Option (SysD) :=
  (core_Top N a0 a1).bind fun z1 =>
  bif z1.2 then
    bif z1.1.op == (11 : Int) then
      bif z1.1.pc == (0 : Int) then
        (mem_Load N a0.M z1.1.r0).bind fun z2 =>
        (pack_Mark N z2.2).bind fun z3 =>
        bif z3 == (1 : Int) then
          (core_Set N ({ a0 with M := z2.1 }) a1 ({ z1.1 with pc := 0, r3 := z1.1.r0, r4 := z2.2 })).bind fun z4 =>
          some z4
        else
          (pack_Index N z2.2).bind fun z5 =>
          bif z5 == (0 : Int) then
            bif z1.1.r2 == (0 : Int) then
              bif (band .i64 z1.1.r1 (1 : Int)) == (1 : Int) then
                (core_Log N ({ a0 with M := z2.1 }) a1 7 z1.1.r1 0 0).bind fun z6 =>
                bif decide (z6.C.length ≤ most) then
                  bif (decide ((0 : Int) ≤ a1)) && (decide (a1 < (z6.C.length : Int))) then
                    (z6.C[a1.toNat]?).bind fun y7 =>
                    (core_Back N ({ z6 with C := z6.C.set a1.toNat ({ y7 with x0 := z1.1.r0, x1 := z2.2, x2 := z1.1.r5 }) }) a1 0 0).bind fun z8 =>
                    some z8
                  else none
                else none
              else
                bif decide (a0.C.length ≤ most) then
                  bif (decide ((0 : Int) ≤ a1)) && (decide (a1 < (a0.C.length : Int))) then
                    (a0.C[a1.toNat]?).bind fun y9 =>
                    (core_Back N (⟨z2.1, a0.C.set a1.toNat ({ y9 with x0 := z1.1.r0, x1 := z2.2, x2 := z1.1.r5 }), a0.L⟩) a1 0 0).bind fun z10 =>
                    some z10
                  else none
                else none
            else
              bif z1.1.r2 == (2 : Int) then
                bif (band .i64 z1.1.r1 (1 : Int)) == (1 : Int) then
                  (core_Log N ({ a0 with M := z2.1 }) a1 7 z1.1.r1 0 0).bind fun z11 =>
                  bif decide (z11.C.length ≤ most) then
                    bif (decide ((0 : Int) ≤ a1)) && (decide (a1 < (z11.C.length : Int))) then
                      (z11.C[a1.toNat]?).bind fun y12 =>
                      (core_Back N ({ z11 with C := z11.C.set a1.toNat ({ y12 with x0 := z1.1.r0, x1 := z2.2, x2 := z1.1.r5 }) }) a1 0 0).bind fun z13 =>
                      some z13
                    else none
                  else none
                else
                  bif decide (a0.C.length ≤ most) then
                    bif (decide ((0 : Int) ≤ a1)) && (decide (a1 < (a0.C.length : Int))) then
                      (a0.C[a1.toNat]?).bind fun y14 =>
                      (core_Back N (⟨z2.1, a0.C.set a1.toNat ({ y14 with x0 := z1.1.r0, x1 := z2.2, x2 := z1.1.r5 }), a0.L⟩) a1 0 0).bind fun z15 =>
                      some z15
                    else none
                  else none
              else
                bif decide (a0.C.length ≤ most) then
                  bif (decide ((0 : Int) ≤ a1)) && (decide (a1 < (a0.C.length : Int))) then
                    (a0.C[a1.toNat]?).bind fun y16 =>
                    (core_Back N (⟨z2.1, a0.C.set a1.toNat ({ y16 with x0 := z1.1.r0, x1 := z2.2, x2 := z1.1.r5 }), a0.L⟩) a1 0 0).bind fun z17 =>
                    some z17
                  else none
                else none
          else
            (core_Set N ({ a0 with M := z2.1 }) a1 ({ z1.1 with pc := 1, r3 := z1.1.r0, r4 := z2.2 })).bind fun z18 =>
            some z18
      else
        bif z1.1.pc == (1 : Int) then
          (pack_Index N z1.1.r4).bind fun z19 =>
          (haz_Place N a1 1).bind fun z20 =>
          (mem_Store N a0.M z20 z19).bind fun z21 =>
          (core_Set N ({ a0 with M := z21 }) a1 ({ z1.1 with pc := 2 })).bind fun z22 =>
          some z22
        else
          bif z1.1.pc == (2 : Int) then
            (mem_Load N a0.M z1.1.r3).bind fun z23 =>
            bif z23.2 == z1.1.r4 then
              (core_Set N ({ a0 with M := z23.1 }) a1 ({ z1.1 with pc := 3 })).bind fun z24 =>
              some z24
            else
              (core_Set N ({ a0 with M := z23.1 }) a1 ({ z1.1 with pc := 0 })).bind fun z25 =>
              some z25
          else
            bif z1.1.pc == (3 : Int) then
              (list_cell N z1.1.r4 1).bind fun z26 =>
              (mem_Load N a0.M z26).bind fun z27 =>
              (pack_Mark N z27.2).bind fun z28 =>
              bif z28 == (1 : Int) then
                (core_Set N ({ a0 with M := z27.1 }) a1 ({ z1.1 with pc := 4, r5 := z27.2 })).bind fun z29 =>
                some z29
              else
                (core_Set N ({ a0 with M := z27.1 }) a1 ({ z1.1 with pc := 6, r5 := z27.2 })).bind fun z30 =>
                some z30
            else
              bif z1.1.pc == (4 : Int) then
                (pack_Index N z1.1.r5).bind fun z31 =>
                (pack_Next N z1.1.r4 z31 0).bind fun z32 =>
                (mem_Cas N a0.M z1.1.r3 z1.1.r4 z32).bind fun z33 =>
                bif !z33.2 then
                  (core_Set N ({ a0 with M := z33.1 }) a1 ({ z1.1 with pc := 0 })).bind fun z34 =>
                  some z34
                else
                  (pack_Index N z1.1.r4).bind fun z35 =>
                  (core_Set N ({ a0 with M := z33.1 }) a1 ({ z1.1 with pc := 5 })).bind fun z36 =>
                  (core_Call N z36 a1 5 ([z35])).bind fun z37 =>
                  some z37
              else
                bif z1.1.pc == (5 : Int) then
                  (mem_Load N a0.M z1.1.r3).bind fun z38 =>
                  (pack_Mark N z38.2).bind fun z39 =>
                  bif z39 == (1 : Int) then
                    (core_Set N ({ a0 with M := z38.1 }) a1 ({ z1.1 with pc := 0, r4 := z38.2 })).bind fun z40 =>
                    some z40
                  else
                    (pack_Index N z38.2).bind fun z41 =>
                    bif z41 == (0 : Int) then
                      bif z1.1.r2 == (0 : Int) then
                        bif (band .i64 z1.1.r1 (1 : Int)) == (1 : Int) then
                          (core_Log N ({ a0 with M := z38.1 }) a1 7 z1.1.r1 0 0).bind fun z42 =>
                          bif decide (z42.C.length ≤ most) then
                            bif (decide ((0 : Int) ≤ a1)) && (decide (a1 < (z42.C.length : Int))) then
                              (z42.C[a1.toNat]?).bind fun y43 =>
                              (core_Back N ({ z42 with C := z42.C.set a1.toNat ({ y43 with x0 := z1.1.r3, x1 := z38.2, x2 := z1.1.r5 }) }) a1 0 0).bind fun z44 =>
                              some z44
                            else none
                          else none
                        else
                          bif decide (a0.C.length ≤ most) then
                            bif (decide ((0 : Int) ≤ a1)) && (decide (a1 < (a0.C.length : Int))) then
                              (a0.C[a1.toNat]?).bind fun y45 =>
                              (core_Back N (⟨z38.1, a0.C.set a1.toNat ({ y45 with x0 := z1.1.r3, x1 := z38.2, x2 := z1.1.r5 }), a0.L⟩) a1 0 0).bind fun z46 =>
                              some z46
                            else none
                          else none
                      else
                        bif z1.1.r2 == (2 : Int) then
                          bif (band .i64 z1.1.r1 (1 : Int)) == (1 : Int) then
                            (core_Log N ({ a0 with M := z38.1 }) a1 7 z1.1.r1 0 0).bind fun z47 =>
                            bif decide (z47.C.length ≤ most) then
                              bif (decide ((0 : Int) ≤ a1)) && (decide (a1 < (z47.C.length : Int))) then
                                (z47.C[a1.toNat]?).bind fun y48 =>
                                (core_Back N ({ z47 with C := z47.C.set a1.toNat ({ y48 with x0 := z1.1.r3, x1 := z38.2, x2 := z1.1.r5 }) }) a1 0 0).bind fun z49 =>
                                some z49
                              else none
                            else none
                          else
                            bif decide (a0.C.length ≤ most) then
                              bif (decide ((0 : Int) ≤ a1)) && (decide (a1 < (a0.C.length : Int))) then
                                (a0.C[a1.toNat]?).bind fun y50 =>
                                (core_Back N (⟨z38.1, a0.C.set a1.toNat ({ y50 with x0 := z1.1.r3, x1 := z38.2, x2 := z1.1.r5 }), a0.L⟩) a1 0 0).bind fun z51 =>
                                some z51
                              else none
                            else none
                        else
                          bif decide (a0.C.length ≤ most) then
                            bif (decide ((0 : Int) ≤ a1)) && (decide (a1 < (a0.C.length : Int))) then
                              (a0.C[a1.toNat]?).bind fun y52 =>
                              (core_Back N (⟨z38.1, a0.C.set a1.toNat ({ y52 with x0 := z1.1.r3, x1 := z38.2, x2 := z1.1.r5 }), a0.L⟩) a1 0 0).bind fun z53 =>
                              some z53
                            else none
                          else none
                    else
                      (core_Set N ({ a0 with M := z38.1 }) a1 ({ z1.1 with pc := 1, r4 := z38.2 })).bind fun z54 =>
                      some z54
                else
                  bif z1.1.pc == (6 : Int) then
                    (list_cell N z1.1.r4 2).bind fun z55 =>
                    (mem_Load N a0.M z55).bind fun z56 =>
                    bif decide (z56.2 < z1.1.r1) then
                      (core_Set N ({ a0 with M := z56.1 }) a1 ({ z1.1 with pc := 7, r6 := z56.2 })).bind fun z57 =>
                      some z57
                    else
                      (core_Set N ({ a0 with M := z56.1 }) a1 ({ z1.1 with pc := 9, r6 := z56.2 })).bind fun z58 =>
                      some z58
                  else
                    bif z1.1.pc == (7 : Int) then
                      (pack_Index N z1.1.r4).bind fun z59 =>
                      (haz_Place N a1 2).bind fun z60 =>
                      (mem_Store N a0.M z60 z59).bind fun z61 =>
                      (core_Set N ({ a0 with M := z61 }) a1 ({ z1.1 with pc := 8 })).bind fun z62 =>
                      some z62
                    else
                      bif z1.1.pc == (8 : Int) then
                        (list_cell N z1.1.r4 1).bind fun z63 =>
                        (mem_Load N a0.M z63).bind fun z64 =>
                        (pack_Mark N z64.2).bind fun z65 =>
                        bif z65 == (1 : Int) then
                          (core_Set N ({ a0 with M := z64.1 }) a1 ({ z1.1 with pc := 0, r3 := z63, r4 := z64.2 })).bind fun z66 =>
                          some z66
                        else
                          (pack_Index N z64.2).bind fun z67 =>
                          bif z67 == (0 : Int) then
                            bif z1.1.r2 == (0 : Int) then
                              bif (band .i64 z1.1.r1 (1 : Int)) == (1 : Int) then
                                (core_Log N ({ a0 with M := z64.1 }) a1 7 z1.1.r1 0 0).bind fun z68 =>
                                bif decide (z68.C.length ≤ most) then
                                  bif (decide ((0 : Int) ≤ a1)) && (decide (a1 < (z68.C.length : Int))) then
                                    (z68.C[a1.toNat]?).bind fun y69 =>
                                    (core_Back N ({ z68 with C := z68.C.set a1.toNat ({ y69 with x0 := z63, x1 := z64.2, x2 := z1.1.r5 }) }) a1 0 0).bind fun z70 =>
                                    some z70
                                  else none
                                else none
                              else
                                bif decide (a0.C.length ≤ most) then
                                  bif (decide ((0 : Int) ≤ a1)) && (decide (a1 < (a0.C.length : Int))) then
                                    (a0.C[a1.toNat]?).bind fun y71 =>
                                    (core_Back N (⟨z64.1, a0.C.set a1.toNat ({ y71 with x0 := z63, x1 := z64.2, x2 := z1.1.r5 }), a0.L⟩) a1 0 0).bind fun z72 =>
                                    some z72
                                  else none
                                else none
                            else
                              bif z1.1.r2 == (2 : Int) then
                                bif (band .i64 z1.1.r1 (1 : Int)) == (1 : Int) then
                                  (core_Log N ({ a0 with M := z64.1 }) a1 7 z1.1.r1 0 0).bind fun z73 =>
                                  bif decide (z73.C.length ≤ most) then
                                    bif (decide ((0 : Int) ≤ a1)) && (decide (a1 < (z73.C.length : Int))) then
                                      (z73.C[a1.toNat]?).bind fun y74 =>
                                      (core_Back N ({ z73 with C := z73.C.set a1.toNat ({ y74 with x0 := z63, x1 := z64.2, x2 := z1.1.r5 }) }) a1 0 0).bind fun z75 =>
                                      some z75
                                    else none
                                  else none
                                else
                                  bif decide (a0.C.length ≤ most) then
                                    bif (decide ((0 : Int) ≤ a1)) && (decide (a1 < (a0.C.length : Int))) then
                                      (a0.C[a1.toNat]?).bind fun y76 =>
                                      (core_Back N (⟨z64.1, a0.C.set a1.toNat ({ y76 with x0 := z63, x1 := z64.2, x2 := z1.1.r5 }), a0.L⟩) a1 0 0).bind fun z77 =>
                                      some z77
                                    else none
                                  else none
                              else
                                bif decide (a0.C.length ≤ most) then
                                  bif (decide ((0 : Int) ≤ a1)) && (decide (a1 < (a0.C.length : Int))) then
                                    (a0.C[a1.toNat]?).bind fun y78 =>
                                    (core_Back N (⟨z64.1, a0.C.set a1.toNat ({ y78 with x0 := z63, x1 := z64.2, x2 := z1.1.r5 }), a0.L⟩) a1 0 0).bind fun z79 =>
                                    some z79
                                  else none
                                else none
                          else
                            (core_Set N ({ a0 with M := z64.1 }) a1 ({ z1.1 with pc := 1, r3 := z63, r4 := z64.2 })).bind fun z80 =>
                            some z80
                      else
                        bif z1.1.pc == (9 : Int) then
                          (mem_Load N a0.M z1.1.r3).bind fun z81 =>
                          bif !(z81.2 == z1.1.r4) then
                            (core_Set N ({ a0 with M := z81.1 }) a1 ({ z1.1 with pc := 0 })).bind fun z82 =>
                            some z82
                          else
                            bif decide (z1.1.r6 > z1.1.r1) then
                              bif z1.1.r2 == (0 : Int) then
                                bif (band .i64 z1.1.r1 (1 : Int)) == (1 : Int) then
                                  (core_Log N ({ a0 with M := z81.1 }) a1 7 z1.1.r1 0 0).bind fun z83 =>
                                  bif decide (z83.C.length ≤ most) then
                                    bif (decide ((0 : Int) ≤ a1)) && (decide (a1 < (z83.C.length : Int))) then
                                      (z83.C[a1.toNat]?).bind fun y84 =>
                                      (core_Back N ({ z83 with C := z83.C.set a1.toNat ({ y84 with x0 := z1.1.r3, x1 := z1.1.r4, x2 := z1.1.r5 }) }) a1 0 0).bind fun z85 =>
                                      some z85
                                    else none
                                  else none
                                else
                                  bif decide (a0.C.length ≤ most) then
                                    bif (decide ((0 : Int) ≤ a1)) && (decide (a1 < (a0.C.length : Int))) then
                                      (a0.C[a1.toNat]?).bind fun y86 =>
                                      (core_Back N (⟨z81.1, a0.C.set a1.toNat ({ y86 with x0 := z1.1.r3, x1 := z1.1.r4, x2 := z1.1.r5 }), a0.L⟩) a1 0 0).bind fun z87 =>
                                      some z87
                                    else none
                                  else none
                              else
                                bif z1.1.r2 == (2 : Int) then
                                  bif (band .i64 z1.1.r1 (1 : Int)) == (1 : Int) then
                                    (core_Log N ({ a0 with M := z81.1 }) a1 7 z1.1.r1 0 0).bind fun z88 =>
                                    bif decide (z88.C.length ≤ most) then
                                      bif (decide ((0 : Int) ≤ a1)) && (decide (a1 < (z88.C.length : Int))) then
                                        (z88.C[a1.toNat]?).bind fun y89 =>
                                        (core_Back N ({ z88 with C := z88.C.set a1.toNat ({ y89 with x0 := z1.1.r3, x1 := z1.1.r4, x2 := z1.1.r5 }) }) a1 0 0).bind fun z90 =>
                                        some z90
                                      else none
                                    else none
                                  else
                                    bif decide (a0.C.length ≤ most) then
                                      bif (decide ((0 : Int) ≤ a1)) && (decide (a1 < (a0.C.length : Int))) then
                                        (a0.C[a1.toNat]?).bind fun y91 =>
                                        (core_Back N (⟨z81.1, a0.C.set a1.toNat ({ y91 with x0 := z1.1.r3, x1 := z1.1.r4, x2 := z1.1.r5 }), a0.L⟩) a1 0 0).bind fun z92 =>
                                        some z92
                                      else none
                                    else none
                                else
                                  bif decide (a0.C.length ≤ most) then
                                    bif (decide ((0 : Int) ≤ a1)) && (decide (a1 < (a0.C.length : Int))) then
                                      (a0.C[a1.toNat]?).bind fun y93 =>
                                      (core_Back N (⟨z81.1, a0.C.set a1.toNat ({ y93 with x0 := z1.1.r3, x1 := z1.1.r4, x2 := z1.1.r5 }), a0.L⟩) a1 0 0).bind fun z94 =>
                                      some z94
                                    else none
                                  else none
                            else
                              (core_Set N ({ a0 with M := z81.1 }) a1 ({ z1.1 with pc := 10 })).bind fun z95 =>
                              some z95
                        else
                          bif z1.1.pc == (10 : Int) then
                            (list_cell N z1.1.r4 1).bind fun z96 =>
                            (mem_Load N a0.M z96).bind fun z97 =>
                            (pack_Mark N z97.2).bind fun z98 =>
                            bif z98 == (1 : Int) then
                              (core_Set N ({ a0 with M := z97.1 }) a1 ({ z1.1 with pc := 0, r5 := z97.2 })).bind fun z99 =>
                              some z99
                            else
                              bif z1.1.r2 == (0 : Int) then
                                bif (band .i64 z1.1.r1 (1 : Int)) == (1 : Int) then
                                  (core_Log N ({ a0 with M := z97.1 }) a1 8 z1.1.r1 0 0).bind fun z100 =>
                                  bif decide (z100.C.length ≤ most) then
                                    bif (decide ((0 : Int) ≤ a1)) && (decide (a1 < (z100.C.length : Int))) then
                                      (z100.C[a1.toNat]?).bind fun y101 =>
                                      (core_Back N ({ z100 with C := z100.C.set a1.toNat ({ y101 with x0 := z1.1.r3, x1 := z1.1.r4, x2 := z97.2 }) }) a1 1 0).bind fun z102 =>
                                      some z102
                                    else none
                                  else none
                                else
                                  bif decide (a0.C.length ≤ most) then
                                    bif (decide ((0 : Int) ≤ a1)) && (decide (a1 < (a0.C.length : Int))) then
                                      (a0.C[a1.toNat]?).bind fun y103 =>
                                      (core_Back N (⟨z97.1, a0.C.set a1.toNat ({ y103 with x0 := z1.1.r3, x1 := z1.1.r4, x2 := z97.2 }), a0.L⟩) a1 1 0).bind fun z104 =>
                                      some z104
                                    else none
                                  else none
                              else
                                bif z1.1.r2 == (1 : Int) then
                                  bif (band .i64 z1.1.r1 (1 : Int)) == (1 : Int) then
                                    (core_Log N ({ a0 with M := z97.1 }) a1 5 z1.1.r1 0 0).bind fun z105 =>
                                    bif decide (z105.C.length ≤ most) then
                                      bif (decide ((0 : Int) ≤ a1)) && (decide (a1 < (z105.C.length : Int))) then
                                        (z105.C[a1.toNat]?).bind fun y106 =>
                                        (core_Back N ({ z105 with C := z105.C.set a1.toNat ({ y106 with x0 := z1.1.r3, x1 := z1.1.r4, x2 := z97.2 }) }) a1 1 0).bind fun z107 =>
                                        some z107
                                      else none
                                    else none
                                  else
                                    bif decide (a0.C.length ≤ most) then
                                      bif (decide ((0 : Int) ≤ a1)) && (decide (a1 < (a0.C.length : Int))) then
                                        (a0.C[a1.toNat]?).bind fun y108 =>
                                        (core_Back N (⟨z97.1, a0.C.set a1.toNat ({ y108 with x0 := z1.1.r3, x1 := z1.1.r4, x2 := z97.2 }), a0.L⟩) a1 1 0).bind fun z109 =>
                                        some z109
                                      else none
                                    else none
                                else
                                  bif decide (a0.C.length ≤ most) then
                                    bif (decide ((0 : Int) ≤ a1)) && (decide (a1 < (a0.C.length : Int))) then
                                      (a0.C[a1.toNat]?).bind fun y110 =>
                                      (core_Back N (⟨z97.1, a0.C.set a1.toNat ({ y110 with x0 := z1.1.r3, x1 := z1.1.r4, x2 := z97.2 }), a0.L⟩) a1 1 0).bind fun z111 =>
                                      some z111
                                    else none
                                  else none
                          else
                            some a0
    else
      bif z1.2 then
        bif z1.1.op == (12 : Int) then
          (idx a0.C a1).bind fun y112 =>
          bif z1.1.pc == (0 : Int) then
            (core_Set N a0 a1 ({ z1.1 with pc := 1 })).bind fun z113 =>
            (core_Call N z113 a1 11 ([z1.1.r0, z1.1.r1, 0])).bind fun z114 =>
            some z114
          else
            bif z1.1.pc == (1 : Int) then
              bif y112.V == (0 : Int) then
                (core_Set N a0 a1 ({ z1.1 with pc := 3, r6 := 3, r7 := 0 })).bind fun z115 =>
                some z115
              else
                (core_Set N a0 a1 ({ z1.1 with pc := 2, r4 := y112.x1 })).bind fun z116 =>
                some z116
            else
              bif z1.1.pc == (2 : Int) then
                (list_cell N z1.1.r4 3).bind fun z117 =>
                (mem_Load N a0.M z117).bind fun z118 =>
                (core_Set N ({ a0 with M := z118.1 }) a1 ({ z1.1 with pc := 3, r6 := 0, r7 := z118.2 })).bind fun z119 =>
                some z119
              else
                bif z1.1.pc == (3 : Int) then
                  bif z1.1.pc == (3 : Int) then
                    (haz_Place N a1 (w64 ((w64 (z1.1.pc - (3 : Int))) + (1 : Int)))).bind fun z120 =>
                    (mem_Store N a0.M z120 0).bind fun z121 =>
                    bif z1.1.pc == (3 : Int) then
                      (core_Set N ({ a0 with M := z121 }) a1 ({ z1.1 with pc := 4 })).bind fun z122 =>
                      some z122
                    else
                      (core_Back N ({ a0 with M := z121 }) a1 z1.1.r7 z1.1.r6).bind fun z123 =>
                      some z123
                  else
                    some a0
                else
                  bif z1.1.pc == (4 : Int) then
                    (haz_Place N a1 (w64 ((w64 (z1.1.pc - (3 : Int))) + (1 : Int)))).bind fun z124 =>
                    (mem_Store N a0.M z124 0).bind fun z125 =>
                    bif z1.1.pc == (3 : Int) then
                      (core_Set N ({ a0 with M := z125 }) a1 ({ z1.1 with pc := 4 })).bind fun z126 =>
                      some z126
                    else
                      (core_Back N ({ a0 with M := z125 }) a1 z1.1.r7 z1.1.r6).bind fun z127 =>
                      some z127
                  else
                    some a0
        else
          bif z1.2 then
            bif z1.1.op == (13 : Int) then
              (idx a0.C a1).bind fun y128 =>
              bif z1.1.pc == (0 : Int) then
                (core_Set N a0 a1 ({ z1.1 with pc := 1 })).bind fun z129 =>
                (core_Call N z129 a1 7 ([])).bind fun z130 =>
                some z130
              else
                bif z1.1.pc == (1 : Int) then
                  bif y128.E != (0 : Int) then
                    (core_Back N a0 a1 0 y128.E).bind fun z131 =>
                    some z131
                  else
                    (core_Set N a0 a1 ({ z1.1 with pc := (w64 (z1.1.pc + (1 : Int))), r3 := y128.V })).bind fun z132 =>
                    some z132
                else
                  bif z1.1.pc == (2 : Int) then
                    (mem_At N z1.1.r3 2).bind fun z133 =>
                    (mem_Store N a0.M z133 z1.1.r1).bind fun z134 =>
                    (core_Set N ({ a0 with M := z134 }) a1 ({ z1.1 with pc := (w64 (z1.1.pc + (1 : Int))) })).bind fun z135 =>
                    some z135
                  else
                    bif z1.1.pc == (3 : Int) then
                      (mem_At N z1.1.r3 3).bind fun z136 =>
                      (mem_Store N a0.M z136 z1.1.r2).bind fun z137 =>
                      (core_Set N ({ a0 with M := z137 }) a1 ({ z1.1 with pc := (w64 (z1.1.pc + (1 : Int))) })).bind fun z138 =>
                      some z138
                    else
                      bif z1.1.pc == (4 : Int) then
                        (core_Set N a0 a1 ({ z1.1 with pc := 5 })).bind fun z139 =>
                        (core_Call N z139 a1 11 ([z1.1.r0, z1.1.r1, 1])).bind fun z140 =>
                        some z140
                      else
                        bif z1.1.pc == (5 : Int) then
                          bif y128.V != (0 : Int) then
                            (core_Set N a0 a1 ({ z1.1 with pc := 11 })).bind fun z141 =>
                            (core_Call N z141 a1 8 ([z1.1.r3])).bind fun z142 =>
                            some z142
                          else
                            (core_Set N a0 a1 ({ z1.1 with pc := (w64 (z1.1.pc + (1 : Int))), r4 := y128.x0, r5 := y128.x1 })).bind fun z143 =>
                            some z143
                        else
                          bif z1.1.pc == (6 : Int) then
                            (mem_At N z1.1.r3 1).bind fun z144 =>
                            (mem_Load N a0.M z144).bind fun z145 =>
                            (core_Set N ({ a0 with M := z145.1 }) a1 ({ z1.1 with pc := (w64 (z1.1.pc + (1 : Int))), r6 := z145.2 })).bind fun z146 =>
                            some z146
                          else
                            bif z1.1.pc == (7 : Int) then
                              (mem_At N z1.1.r3 1).bind fun z147 =>
                              (pack_Index N z1.1.r5).bind fun z148 =>
                              (pack_Next N z1.1.r6 z148 0).bind fun z149 =>
                              (mem_Store N a0.M z147 z149).bind fun z150 =>
                              (core_Set N ({ a0 with M := z150 }) a1 ({ z1.1 with pc := (w64 (z1.1.pc + (1 : Int))) })).bind fun z151 =>
                              some z151
                            else
                              bif z1.1.pc == (8 : Int) then
                                (pack_Next N z1.1.r5 z1.1.r3 0).bind fun z152 =>
                                (mem_Cas N a0.M z1.1.r4 z1.1.r5 z152).bind fun z153 =>
                                bif !z153.2 then
                                  (core_Set N ({ a0 with M := z153.1 }) a1 ({ z1.1 with pc := 4 })).bind fun z154 =>
                                  some z154
                                else
                                  bif (band .i64 z1.1.r1 (1 : Int)) == (1 : Int) then
                                    (core_Log N ({ a0 with M := z153.1 }) a1 4 z1.1.r1 0 z1.1.r2).bind fun z155 =>
                                    (core_Set N z155 a1 ({ z1.1 with pc := (w64 (z1.1.pc + (1 : Int))) })).bind fun z156 =>
                                    some z156
                                  else
                                    (core_Set N ({ a0 with M := z153.1 }) a1 ({ z1.1 with pc := (w64 (z1.1.pc + (1 : Int))) })).bind fun z157 =>
                                    some z157
                              else
                                bif z1.1.pc == (9 : Int) then
                                  bif z1.1.pc == (9 : Int) then
                                    (haz_Place N a1 (w64 ((w64 (z1.1.pc - (9 : Int))) + (1 : Int)))).bind fun z158 =>
                                    (mem_Store N a0.M z158 0).bind fun z159 =>
                                    bif z1.1.pc == (9 : Int) then
                                      (core_Set N ({ a0 with M := z159 }) a1 ({ z1.1 with pc := 10 })).bind fun z160 =>
                                      some z160
                                    else
                                      (core_Back N ({ a0 with M := z159 }) a1 z1.1.r3 0).bind fun z161 =>
                                      some z161
                                  else
                                    bif z1.1.pc == (11 : Int) then
                                      (pack_Index N y128.x1).bind fun z162 =>
                                      (core_Set N a0 a1 ({ z1.1 with pc := (w64 (z1.1.pc + (1 : Int))), r7 := z162 })).bind fun z163 =>
                                      some z163
                                    else
                                      bif z1.1.pc == (12 : Int) then
                                        bif z1.1.pc == (12 : Int) then
                                          (haz_Place N a1 (w64 ((w64 (z1.1.pc - (12 : Int))) + (1 : Int)))).bind fun z164 =>
                                          (mem_Store N a0.M z164 0).bind fun z165 =>
                                          bif z1.1.pc == (12 : Int) then
                                            (core_Set N ({ a0 with M := z165 }) a1 ({ z1.1 with pc := 13 })).bind fun z166 =>
                                            some z166
                                          else
                                            (core_Back N ({ a0 with M := z165 }) a1 z1.1.r7 4).bind fun z167 =>
                                            some z167
                                        else
                                          some a0
                                      else
                                        bif z1.1.pc == (13 : Int) then
                                          (haz_Place N a1 (w64 ((w64 (z1.1.pc - (12 : Int))) + (1 : Int)))).bind fun z168 =>
                                          (mem_Store N a0.M z168 0).bind fun z169 =>
                                          bif z1.1.pc == (12 : Int) then
                                            (core_Set N ({ a0 with M := z169 }) a1 ({ z1.1 with pc := 13 })).bind fun z170 =>
                                            some z170
                                          else
                                            (core_Back N ({ a0 with M := z169 }) a1 z1.1.r7 4).bind fun z171 =>
                                            some z171
                                        else
                                          some a0
                                else
                                  bif z1.1.pc == (10 : Int) then
                                    (haz_Place N a1 (w64 ((w64 (z1.1.pc - (9 : Int))) + (1 : Int)))).bind fun z172 =>
                                    (mem_Store N a0.M z172 0).bind fun z173 =>
                                    bif z1.1.pc == (9 : Int) then
                                      (core_Set N ({ a0 with M := z173 }) a1 ({ z1.1 with pc := 10 })).bind fun z174 =>
                                      some z174
                                    else
                                      (core_Back N ({ a0 with M := z173 }) a1 z1.1.r3 0).bind fun z175 =>
                                      some z175
                                  else
                                    bif z1.1.pc == (11 : Int) then
                                      (pack_Index N y128.x1).bind fun z176 =>
                                      (core_Set N a0 a1 ({ z1.1 with pc := (w64 (z1.1.pc + (1 : Int))), r7 := z176 })).bind fun z177 =>
                                      some z177
                                    else
                                      bif z1.1.pc == (12 : Int) then
                                        bif z1.1.pc == (12 : Int) then
                                          (haz_Place N a1 (w64 ((w64 (z1.1.pc - (12 : Int))) + (1 : Int)))).bind fun z178 =>
                                          (mem_Store N a0.M z178 0).bind fun z179 =>
                                          bif z1.1.pc == (12 : Int) then
                                            (core_Set N ({ a0 with M := z179 }) a1 ({ z1.1 with pc := 13 })).bind fun z180 =>
                                            some z180
                                          else
                                            (core_Back N ({ a0 with M := z179 }) a1 z1.1.r7 4).bind fun z181 =>
                                            some z181
                                        else
                                          some a0
                                      else
                                        bif z1.1.pc == (13 : Int) then
                                          (haz_Place N a1 (w64 ((w64 (z1.1.pc - (12 : Int))) + (1 : Int)))).bind fun z182 =>
                                          (mem_Store N a0.M z182 0).bind fun z183 =>
                                          bif z1.1.pc == (12 : Int) then
                                            (core_Set N ({ a0 with M := z183 }) a1 ({ z1.1 with pc := 13 })).bind fun z184 =>
                                            some z184
                                          else
                                            (core_Back N ({ a0 with M := z183 }) a1 z1.1.r7 4).bind fun z185 =>
                                            some z185
                                        else
                                          some a0
            else
              bif z1.2 then
                bif z1.1.op == (14 : Int) then
                  (idx a0.C a1).bind fun y186 =>
                  bif z1.1.pc == (0 : Int) then
                    (core_Set N a0 a1 ({ z1.1 with pc := 1 })).bind fun z187 =>
                    (core_Call N z187 a1 11 ([z1.1.r0, z1.1.r1, 2])).bind fun z188 =>
                    some z188
                  else
                    bif z1.1.pc == (1 : Int) then
                      bif y186.V == (0 : Int) then
                        (core_Set N a0 a1 ({ z1.1 with pc := 6, r6 := 3, r7 := 0 })).bind fun z189 =>
                        some z189
                      else
                        (core_Set N a0 a1 ({ z1.1 with pc := 2, r3 := y186.x0, r4 := y186.x1, r5 := y186.x2 })).bind fun z190 =>
                        some z190
                    else
                      bif z1.1.pc == (2 : Int) then
                        (list_cell N z1.1.r4 1).bind fun z191 =>
                        (pack_Index N z1.1.r5).bind fun z192 =>
                        (pack_Next N z1.1.r5 z192 1).bind fun z193 =>
                        (mem_Cas N a0.M z191 z1.1.r5 z193).bind fun z194 =>
                        bif !z194.2 then
                          (core_Set N ({ a0 with M := z194.1 }) a1 ({ z1.1 with pc := 0 })).bind fun z195 =>
                          some z195
                        else
                          bif (band .i64 z1.1.r1 (1 : Int)) == (1 : Int) then
                            (core_Log N ({ a0 with M := z194.1 }) a1 6 z1.1.r1 0 0).bind fun z196 =>
                            (core_Set N z196 a1 ({ z1.1 with pc := 3 })).bind fun z197 =>
                            some z197
                          else
                            (core_Set N ({ a0 with M := z194.1 }) a1 ({ z1.1 with pc := 3 })).bind fun z198 =>
                            some z198
                      else
                        bif z1.1.pc == (3 : Int) then
                          (list_cell N z1.1.r4 3).bind fun z199 =>
                          (mem_Load N a0.M z199).bind fun z200 =>
                          (core_Set N ({ a0 with M := z200.1 }) a1 ({ z1.1 with pc := 4, r6 := 0, r7 := z200.2 })).bind fun z201 =>
                          some z201
                        else
                          bif z1.1.pc == (4 : Int) then
                            (pack_Index N z1.1.r5).bind fun z202 =>
                            (pack_Next N z1.1.r4 z202 0).bind fun z203 =>
                            (mem_Cas N a0.M z1.1.r3 z1.1.r4 z203).bind fun z204 =>
                            bif !z204.2 then
                              (core_Set N ({ a0 with M := z204.1 }) a1 ({ z1.1 with pc := 5 })).bind fun z205 =>
                              some z205
                            else
                              (pack_Index N z1.1.r4).bind fun z206 =>
                              (core_Set N ({ a0 with M := z204.1 }) a1 ({ z1.1 with pc := 6 })).bind fun z207 =>
                              (core_Call N z207 a1 5 ([z206])).bind fun z208 =>
                              some z208
                          else
                            bif z1.1.pc == (5 : Int) then
                              (core_Set N a0 a1 ({ z1.1 with pc := 6 })).bind fun z209 =>
                              (core_Call N z209 a1 11 ([z1.1.r0, z1.1.r1, 3])).bind fun z210 =>
                              some z210
                            else
                              bif z1.1.pc == (6 : Int) then
                                bif z1.1.pc == (6 : Int) then
                                  (haz_Place N a1 (w64 ((w64 (z1.1.pc - (6 : Int))) + (1 : Int)))).bind fun z211 =>
                                  (mem_Store N a0.M z211 0).bind fun z212 =>
                                  bif z1.1.pc == (6 : Int) then
                                    (core_Set N ({ a0 with M := z212 }) a1 ({ z1.1 with pc := 7 })).bind fun z213 =>
                                    some z213
                                  else
                                    (core_Back N ({ a0 with M := z212 }) a1 z1.1.r7 z1.1.r6).bind fun z214 =>
                                    some z214
                                else
                                  some a0
                              else
                                bif z1.1.pc == (7 : Int) then
                                  (haz_Place N a1 (w64 ((w64 (z1.1.pc - (6 : Int))) + (1 : Int)))).bind fun z215 =>
                                  (mem_Store N a0.M z215 0).bind fun z216 =>
                                  bif z1.1.pc == (6 : Int) then
                                    (core_Set N ({ a0 with M := z216 }) a1 ({ z1.1 with pc := 7 })).bind fun z217 =>
                                    some z217
                                  else
                                    (core_Back N ({ a0 with M := z216 }) a1 z1.1.r7 z1.1.r6).bind fun z218 =>
                                    some z218
                                else
                                  some a0
                else
                  (msq_Step N a0 a1).bind fun z219 =>
                  some z219
              else
                (msq_Step N a0 a1).bind fun z220 =>
                some z220
          else
            bif z1.2 then
              bif z1.1.op == (14 : Int) then
                (idx a0.C a1).bind fun y221 =>
                bif z1.1.pc == (0 : Int) then
                  (core_Set N a0 a1 ({ z1.1 with pc := 1 })).bind fun z222 =>
                  (core_Call N z222 a1 11 ([z1.1.r0, z1.1.r1, 2])).bind fun z223 =>
                  some z223
                else
                  bif z1.1.pc == (1 : Int) then
                    bif y221.V == (0 : Int) then
                      (core_Set N a0 a1 ({ z1.1 with pc := 6, r6 := 3, r7 := 0 })).bind fun z224 =>
                      some z224
                    else
                      (core_Set N a0 a1 ({ z1.1 with pc := 2, r3 := y221.x0, r4 := y221.x1, r5 := y221.x2 })).bind fun z225 =>
                      some z225
                  else
                    bif z1.1.pc == (2 : Int) then
                      (list_cell N z1.1.r4 1).bind fun z226 =>
                      (pack_Index N z1.1.r5).bind fun z227 =>
                      (pack_Next N z1.1.r5 z227 1).bind fun z228 =>
                      (mem_Cas N a0.M z226 z1.1.r5 z228).bind fun z229 =>
                      bif !z229.2 then
                        (core_Set N ({ a0 with M := z229.1 }) a1 ({ z1.1 with pc := 0 })).bind fun z230 =>
                        some z230
                      else
                        bif (band .i64 z1.1.r1 (1 : Int)) == (1 : Int) then
                          (core_Log N ({ a0 with M := z229.1 }) a1 6 z1.1.r1 0 0).bind fun z231 =>
                          (core_Set N z231 a1 ({ z1.1 with pc := 3 })).bind fun z232 =>
                          some z232
                        else
                          (core_Set N ({ a0 with M := z229.1 }) a1 ({ z1.1 with pc := 3 })).bind fun z233 =>
                          some z233
                    else
                      bif z1.1.pc == (3 : Int) then
                        (list_cell N z1.1.r4 3).bind fun z234 =>
                        (mem_Load N a0.M z234).bind fun z235 =>
                        (core_Set N ({ a0 with M := z235.1 }) a1 ({ z1.1 with pc := 4, r6 := 0, r7 := z235.2 })).bind fun z236 =>
                        some z236
                      else
                        bif z1.1.pc == (4 : Int) then
                          (pack_Index N z1.1.r5).bind fun z237 =>
                          (pack_Next N z1.1.r4 z237 0).bind fun z238 =>
                          (mem_Cas N a0.M z1.1.r3 z1.1.r4 z238).bind fun z239 =>
                          bif !z239.2 then
                            (core_Set N ({ a0 with M := z239.1 }) a1 ({ z1.1 with pc := 5 })).bind fun z240 =>
                            some z240
                          else
                            (pack_Index N z1.1.r4).bind fun z241 =>
                            (core_Set N ({ a0 with M := z239.1 }) a1 ({ z1.1 with pc := 6 })).bind fun z242 =>
                            (core_Call N z242 a1 5 ([z241])).bind fun z243 =>
                            some z243
                        else
                          bif z1.1.pc == (5 : Int) then
                            (core_Set N a0 a1 ({ z1.1 with pc := 6 })).bind fun z244 =>
                            (core_Call N z244 a1 11 ([z1.1.r0, z1.1.r1, 3])).bind fun z245 =>
                            some z245
                          else
                            bif z1.1.pc == (6 : Int) then
                              bif z1.1.pc == (6 : Int) then
                                (haz_Place N a1 (w64 ((w64 (z1.1.pc - (6 : Int))) + (1 : Int)))).bind fun z246 =>
                                (mem_Store N a0.M z246 0).bind fun z247 =>
                                bif z1.1.pc == (6 : Int) then
                                  (core_Set N ({ a0 with M := z247 }) a1 ({ z1.1 with pc := 7 })).bind fun z248 =>
                                  some z248
                                else
                                  (core_Back N ({ a0 with M := z247 }) a1 z1.1.r7 z1.1.r6).bind fun z249 =>
                                  some z249
                              else
                                some a0
                            else
                              bif z1.1.pc == (7 : Int) then
                                (haz_Place N a1 (w64 ((w64 (z1.1.pc - (6 : Int))) + (1 : Int)))).bind fun z250 =>
                                (mem_Store N a0.M z250 0).bind fun z251 =>
                                bif z1.1.pc == (6 : Int) then
                                  (core_Set N ({ a0 with M := z251 }) a1 ({ z1.1 with pc := 7 })).bind fun z252 =>
                                  some z252
                                else
                                  (core_Back N ({ a0 with M := z251 }) a1 z1.1.r7 z1.1.r6).bind fun z253 =>
                                  some z253
                              else
                                some a0
              else
                (msq_Step N a0 a1).bind fun z254 =>
                some z254
            else
              (msq_Step N a0 a1).bind fun z255 =>
              some z255
      else
        bif z1.2 then
          bif z1.1.op == (13 : Int) then
            (idx a0.C a1).bind fun y256 =>
            bif z1.1.pc == (0 : Int) then
              (core_Set N a0 a1 ({ z1.1 with pc := 1 })).bind fun z257 =>
              (core_Call N z257 a1 7 ([])).bind fun z258 =>
              some z258
            else
              bif z1.1.pc == (1 : Int) then
                bif y256.E != (0 : Int) then
                  (core_Back N a0 a1 0 y256.E).bind fun z259 =>
                  some z259
                else
                  (core_Set N a0 a1 ({ z1.1 with pc := (w64 (z1.1.pc + (1 : Int))), r3 := y256.V })).bind fun z260 =>
                  some z260
              else
                bif z1.1.pc == (2 : Int) then
                  (mem_At N z1.1.r3 2).bind fun z261 =>
                  (mem_Store N a0.M z261 z1.1.r1).bind fun z262 =>
                  (core_Set N ({ a0 with M := z262 }) a1 ({ z1.1 with pc := (w64 (z1.1.pc + (1 : Int))) })).bind fun z263 =>
                  some z263
                else
                  bif z1.1.pc == (3 : Int) then
                    (mem_At N z1.1.r3 3).bind fun z264 =>
                    (mem_Store N a0.M z264 z1.1.r2).bind fun z265 =>
                    (core_Set N ({ a0 with M := z265 }) a1 ({ z1.1 with pc := (w64 (z1.1.pc + (1 : Int))) })).bind fun z266 =>
                    some z266
                  else
                    bif z1.1.pc == (4 : Int) then
                      (core_Set N a0 a1 ({ z1.1 with pc := 5 })).bind fun z267 =>
                      (core_Call N z267 a1 11 ([z1.1.r0, z1.1.r1, 1])).bind fun z268 =>
                      some z268
                    else
                      bif z1.1.pc == (5 : Int) then
                        bif y256.V != (0 : Int) then
                          (core_Set N a0 a1 ({ z1.1 with pc := 11 })).bind fun z269 =>
                          (core_Call N z269 a1 8 ([z1.1.r3])).bind fun z270 =>
                          some z270
                        else
                          (core_Set N a0 a1 ({ z1.1 with pc := (w64 (z1.1.pc + (1 : Int))), r4 := y256.x0, r5 := y256.x1 })).bind fun z271 =>
                          some z271
                      else
                        bif z1.1.pc == (6 : Int) then
                          (mem_At N z1.1.r3 1).bind fun z272 =>
                          (mem_Load N a0.M z272).bind fun z273 =>
                          (core_Set N ({ a0 with M := z273.1 }) a1 ({ z1.1 with pc := (w64 (z1.1.pc + (1 : Int))), r6 := z273.2 })).bind fun z274 =>
                          some z274
                        else
                          bif z1.1.pc == (7 : Int) then
                            (mem_At N z1.1.r3 1).bind fun z275 =>
                            (pack_Index N z1.1.r5).bind fun z276 =>
                            (pack_Next N z1.1.r6 z276 0).bind fun z277 =>
                            (mem_Store N a0.M z275 z277).bind fun z278 =>
                            (core_Set N ({ a0 with M := z278 }) a1 ({ z1.1 with pc := (w64 (z1.1.pc + (1 : Int))) })).bind fun z279 =>
                            some z279
                          else
                            bif z1.1.pc == (8 : Int) then
                              (pack_Next N z1.1.r5 z1.1.r3 0).bind fun z280 =>
                              (mem_Cas N a0.M z1.1.r4 z1.1.r5 z280).bind fun z281 =>
                              bif !z281.2 then
                                (core_Set N ({ a0 with M := z281.1 }) a1 ({ z1.1 with pc := 4 })).bind fun z282 =>
                                some z282
                              else
                                bif (band .i64 z1.1.r1 (1 : Int)) == (1 : Int) then
                                  (core_Log N ({ a0 with M := z281.1 }) a1 4 z1.1.r1 0 z1.1.r2).bind fun z283 =>
                                  (core_Set N z283 a1 ({ z1.1 with pc := (w64 (z1.1.pc + (1 : Int))) })).bind fun z284 =>
                                  some z284
                                else
                                  (core_Set N ({ a0 with M := z281.1 }) a1 ({ z1.1 with pc := (w64 (z1.1.pc + (1 : Int))) })).bind fun z285 =>
                                  some z285
                            else
                              bif z1.1.pc == (9 : Int) then
                                bif z1.1.pc == (9 : Int) then
                                  (haz_Place N a1 (w64 ((w64 (z1.1.pc - (9 : Int))) + (1 : Int)))).bind fun z286 =>
                                  (mem_Store N a0.M z286 0).bind fun z287 =>
                                  bif z1.1.pc == (9 : Int) then
                                    (core_Set N ({ a0 with M := z287 }) a1 ({ z1.1 with pc := 10 })).bind fun z288 =>
                                    some z288
                                  else
                                    (core_Back N ({ a0 with M := z287 }) a1 z1.1.r3 0).bind fun z289 =>
                                    some z289
                                else
                                  bif z1.1.pc == (11 : Int) then
                                    (pack_Index N y256.x1).bind fun z290 =>
                                    (core_Set N a0 a1 ({ z1.1 with pc := (w64 (z1.1.pc + (1 : Int))), r7 := z290 })).bind fun z291 =>
                                    some z291
                                  else
                                    bif z1.1.pc == (12 : Int) then
                                      bif z1.1.pc == (12 : Int) then
                                        (haz_Place N a1 (w64 ((w64 (z1.1.pc - (12 : Int))) + (1 : Int)))).bind fun z292 =>
                                        (mem_Store N a0.M z292 0).bind fun z293 =>
                                        bif z1.1.pc == (12 : Int) then
                                          (core_Set N ({ a0 with M := z293 }) a1 ({ z1.1 with pc := 13 })).bind fun z294 =>
                                          some z294
                                        else
                                          (core_Back N ({ a0 with M := z293 }) a1 z1.1.r7 4).bind fun z295 =>
                                          some z295
                                      else
                                        some a0
                                    else
                                      bif z1.1.pc == (13 : Int) then
                                        (haz_Place N a1 (w64 ((w64 (z1.1.pc - (12 : Int))) + (1 : Int)))).bind fun z296 =>
                                        (mem_Store N a0.M z296 0).bind fun z297 =>
                                        bif z1.1.pc == (12 : Int) then
                                          (core_Set N ({ a0 with M := z297 }) a1 ({ z1.1 with pc := 13 })).bind fun z298 =>
                                          some z298
                                        else
                                          (core_Back N ({ a0 with M := z297 }) a1 z1.1.r7 4).bind fun z299 =>
                                          some z299
                                      else
                                        some a0
                              else
                                bif z1.1.pc == (10 : Int) then
                                  (haz_Place N a1 (w64 ((w64 (z1.1.pc - (9 : Int))) + (1 : Int)))).bind fun z300 =>
                                  (mem_Store N a0.M z300 0).bind fun z301 =>
                                  bif z1.1.pc == (9 : Int) then
                                    (core_Set N ({ a0 with M := z301 }) a1 ({ z1.1 with pc := 10 })).bind fun z302 =>
                                    some z302
                                  else
                                    (core_Back N ({ a0 with M := z301 }) a1 z1.1.r3 0).bind fun z303 =>
                                    some z303
                                else
                                  bif z1.1.pc == (11 : Int) then
                                    (pack_Index N y256.x1).bind fun z304 =>
                                    (core_Set N a0 a1 ({ z1.1 with pc := (w64 (z1.1.pc + (1 : Int))), r7 := z304 })).bind fun z305 =>
                                    some z305
                                  else
                                    bif z1.1.pc == (12 : Int) then
                                      bif z1.1.pc == (12 : Int) then
                                        (haz_Place N a1 (w64 ((w64 (z1.1.pc - (12 : Int))) + (1 : Int)))).bind fun z306 =>
                                        (mem_Store N a0.M z306 0).bind fun z307 =>
                                        bif z1.1.pc == (12 : Int) then
                                          (core_Set N ({ a0 with M := z307 }) a1 ({ z1.1 with pc := 13 })).bind fun z308 =>
                                          some z308
                                        else
                                          (core_Back N ({ a0 with M := z307 }) a1 z1.1.r7 4).bind fun z309 =>
                                          some z309
                                      else
                                        some a0
                                    else
                                      bif z1.1.pc == (13 : Int) then
                                        (haz_Place N a1 (w64 ((w64 (z1.1.pc - (12 : Int))) + (1 : Int)))).bind fun z310 =>
                                        (mem_Store N a0.M z310 0).bind fun z311 =>
                                        bif z1.1.pc == (12 : Int) then
                                          (core_Set N ({ a0 with M := z311 }) a1 ({ z1.1 with pc := 13 })).bind fun z312 =>
                                          some z312
                                        else
                                          (core_Back N ({ a0 with M := z311 }) a1 z1.1.r7 4).bind fun z313 =>
                                          some z313
                                      else
                                        some a0
          else
            bif z1.2 then
              bif z1.1.op == (14 : Int) then
                (idx a0.C a1).bind fun y314 =>
                bif z1.1.pc == (0 : Int) then
                  (core_Set N a0 a1 ({ z1.1 with pc := 1 })).bind fun z315 =>
                  (core_Call N z315 a1 11 ([z1.1.r0, z1.1.r1, 2])).bind fun z316 =>
                  some z316
                else
                  bif z1.1.pc == (1 : Int) then
                    bif y314.V == (0 : Int) then
                      (core_Set N a0 a1 ({ z1.1 with pc := 6, r6 := 3, r7 := 0 })).bind fun z317 =>
                      some z317
                    else
                      (core_Set N a0 a1 ({ z1.1 with pc := 2, r3 := y314.x0, r4 := y314.x1, r5 := y314.x2 })).bind fun z318 =>
                      some z318
                  else
                    bif z1.1.pc == (2 : Int) then
                      (list_cell N z1.1.r4 1).bind fun z319 =>
                      (pack_Index N z1.1.r5).bind fun z320 =>
                      (pack_Next N z1.1.r5 z320 1).bind fun z321 =>
                      (mem_Cas N a0.M z319 z1.1.r5 z321).bind fun z322 =>
                      bif !z322.2 then
                        (core_Set N ({ a0 with M := z322.1 }) a1 ({ z1.1 with pc := 0 })).bind fun z323 =>
                        some z323
                      else
                        bif (band .i64 z1.1.r1 (1 : Int)) == (1 : Int) then
                          (core_Log N ({ a0 with M := z322.1 }) a1 6 z1.1.r1 0 0).bind fun z324 =>
                          (core_Set N z324 a1 ({ z1.1 with pc := 3 })).bind fun z325 =>
                          some z325
                        else
                          (core_Set N ({ a0 with M := z322.1 }) a1 ({ z1.1 with pc := 3 })).bind fun z326 =>
                          some z326
                    else
                      bif z1.1.pc == (3 : Int) then
                        (list_cell N z1.1.r4 3).bind fun z327 =>
                        (mem_Load N a0.M z327).bind fun z328 =>
                        (core_Set N ({ a0 with M := z328.1 }) a1 ({ z1.1 with pc := 4, r6 := 0, r7 := z328.2 })).bind fun z329 =>
                        some z329
                      else
                        bif z1.1.pc == (4 : Int) then
                          (pack_Index N z1.1.r5).bind fun z330 =>
                          (pack_Next N z1.1.r4 z330 0).bind fun z331 =>
                          (mem_Cas N a0.M z1.1.r3 z1.1.r4 z331).bind fun z332 =>
                          bif !z332.2 then
                            (core_Set N ({ a0 with M := z332.1 }) a1 ({ z1.1 with pc := 5 })).bind fun z333 =>
                            some z333
                          else
                            (pack_Index N z1.1.r4).bind fun z334 =>
                            (core_Set N ({ a0 with M := z332.1 }) a1 ({ z1.1 with pc := 6 })).bind fun z335 =>
                            (core_Call N z335 a1 5 ([z334])).bind fun z336 =>
                            some z336
                        else
                          bif z1.1.pc == (5 : Int) then
                            (core_Set N a0 a1 ({ z1.1 with pc := 6 })).bind fun z337 =>
                            (core_Call N z337 a1 11 ([z1.1.r0, z1.1.r1, 3])).bind fun z338 =>
                            some z338
                          else
                            bif z1.1.pc == (6 : Int) then
                              bif z1.1.pc == (6 : Int) then
                                (haz_Place N a1 (w64 ((w64 (z1.1.pc - (6 : Int))) + (1 : Int)))).bind fun z339 =>
                                (mem_Store N a0.M z339 0).bind fun z340 =>
                                bif z1.1.pc == (6 : Int) then
                                  (core_Set N ({ a0 with M := z340 }) a1 ({ z1.1 with pc := 7 })).bind fun z341 =>
                                  some z341
                                else
                                  (core_Back N ({ a0 with M := z340 }) a1 z1.1.r7 z1.1.r6).bind fun z342 =>
                                  some z342
                              else
                                some a0
                            else
                              bif z1.1.pc == (7 : Int) then
                                (haz_Place N a1 (w64 ((w64 (z1.1.pc - (6 : Int))) + (1 : Int)))).bind fun z343 =>
                                (mem_Store N a0.M z343 0).bind fun z344 =>
                                bif z1.1.pc == (6 : Int) then
                                  (core_Set N ({ a0 with M := z344 }) a1 ({ z1.1 with pc := 7 })).bind fun z345 =>
                                  some z345
                                else
                                  (core_Back N ({ a0 with M := z344 }) a1 z1.1.r7 z1.1.r6).bind fun z346 =>
                                  some z346
                              else
                                some a0
              else
                (msq_Step N a0 a1).bind fun z347 =>
                some z347
            else
              (msq_Step N a0 a1).bind fun z348 =>
              some z348
        else
          bif z1.2 then
            bif z1.1.op == (14 : Int) then
              (idx a0.C a1).bind fun y349 =>
              bif z1.1.pc == (0 : Int) then
                (core_Set N a0 a1 ({ z1.1 with pc := 1 })).bind fun z350 =>
                (core_Call N z350 a1 11 ([z1.1.r0, z1.1.r1, 2])).bind fun z351 =>
                some z351
              else
                bif z1.1.pc == (1 : Int) then
                  bif y349.V == (0 : Int) then
                    (core_Set N a0 a1 ({ z1.1 with pc := 6, r6 := 3, r7 := 0 })).bind fun z352 =>
                    some z352
                  else
                    (core_Set N a0 a1 ({ z1.1 with pc := 2, r3 := y349.x0, r4 := y349.x1, r5 := y349.x2 })).bind fun z353 =>
                    some z353
                else
                  bif z1.1.pc == (2 : Int) then
                    (list_cell N z1.1.r4 1).bind fun z354 =>
                    (pack_Index N z1.1.r5).bind fun z355 =>
                    (pack_Next N z1.1.r5 z355 1).bind fun z356 =>
                    (mem_Cas N a0.M z354 z1.1.r5 z356).bind fun z357 =>
                    bif !z357.2 then
                      (core_Set N ({ a0 with M := z357.1 }) a1 ({ z1.1 with pc := 0 })).bind fun z358 =>
                      some z358
                    else
                      bif (band .i64 z1.1.r1 (1 : Int)) == (1 : Int) then
                        (core_Log N ({ a0 with M := z357.1 }) a1 6 z1.1.r1 0 0).bind fun z359 =>
                        (core_Set N z359 a1 ({ z1.1 with pc := 3 })).bind fun z360 =>
                        some z360
                      else
                        (core_Set N ({ a0 with M := z357.1 }) a1 ({ z1.1 with pc := 3 })).bind fun z361 =>
                        some z361
                  else
                    bif z1.1.pc == (3 : Int) then
                      (list_cell N z1.1.r4 3).bind fun z362 =>
                      (mem_Load N a0.M z362).bind fun z363 =>
                      (core_Set N ({ a0 with M := z363.1 }) a1 ({ z1.1 with pc := 4, r6 := 0, r7 := z363.2 })).bind fun z364 =>
                      some z364
                    else
                      bif z1.1.pc == (4 : Int) then
                        (pack_Index N z1.1.r5).bind fun z365 =>
                        (pack_Next N z1.1.r4 z365 0).bind fun z366 =>
                        (mem_Cas N a0.M z1.1.r3 z1.1.r4 z366).bind fun z367 =>
                        bif !z367.2 then
                          (core_Set N ({ a0 with M := z367.1 }) a1 ({ z1.1 with pc := 5 })).bind fun z368 =>
                          some z368
                        else
                          (pack_Index N z1.1.r4).bind fun z369 =>
                          (core_Set N ({ a0 with M := z367.1 }) a1 ({ z1.1 with pc := 6 })).bind fun z370 =>
                          (core_Call N z370 a1 5 ([z369])).bind fun z371 =>
                          some z371
                      else
                        bif z1.1.pc == (5 : Int) then
                          (core_Set N a0 a1 ({ z1.1 with pc := 6 })).bind fun z372 =>
                          (core_Call N z372 a1 11 ([z1.1.r0, z1.1.r1, 3])).bind fun z373 =>
                          some z373
                        else
                          bif z1.1.pc == (6 : Int) then
                            bif z1.1.pc == (6 : Int) then
                              (haz_Place N a1 (w64 ((w64 (z1.1.pc - (6 : Int))) + (1 : Int)))).bind fun z374 =>
                              (mem_Store N a0.M z374 0).bind fun z375 =>
                              bif z1.1.pc == (6 : Int) then
                                (core_Set N ({ a0 with M := z375 }) a1 ({ z1.1 with pc := 7 })).bind fun z376 =>
                                some z376
                              else
                                (core_Back N ({ a0 with M := z375 }) a1 z1.1.r7 z1.1.r6).bind fun z377 =>
                                some z377
                            else
                              some a0
                          else
                            bif z1.1.pc == (7 : Int) then
                              (haz_Place N a1 (w64 ((w64 (z1.1.pc - (6 : Int))) + (1 : Int)))).bind fun z378 =>
                              (mem_Store N a0.M z378 0).bind fun z379 =>
                              bif z1.1.pc == (6 : Int) then
                                (core_Set N ({ a0 with M := z379 }) a1 ({ z1.1 with pc := 7 })).bind fun z380 =>
                                some z380
                              else
                                (core_Back N ({ a0 with M := z379 }) a1 z1.1.r7 z1.1.r6).bind fun z381 =>
                                some z381
                            else
                              some a0
            else
              (msq_Step N a0 a1).bind fun z382 =>
              some z382
          else
            (msq_Step N a0 a1).bind fun z383 =>
            some z383
  else
    bif z1.2 then
      bif z1.1.op == (12 : Int) then
        (idx a0.C a1).bind fun y384 =>
        bif z1.1.pc == (0 : Int) then
          (core_Set N a0 a1 ({ z1.1 with pc := 1 })).bind fun z385 =>
          (core_Call N z385 a1 11 ([z1.1.r0, z1.1.r1, 0])).bind fun z386 =>
          some z386
        else
          bif z1.1.pc == (1 : Int) then
            bif y384.V == (0 : Int) then
              (core_Set N a0 a1 ({ z1.1 with pc := 3, r6 := 3, r7 := 0 })).bind fun z387 =>
              some z387
            else
              (core_Set N a0 a1 ({ z1.1 with pc := 2, r4 := y384.x1 })).bind fun z388 =>
              some z388
          else
            bif z1.1.pc == (2 : Int) then
              (list_cell N z1.1.r4 3).bind fun z389 =>
              (mem_Load N a0.M z389).bind fun z390 =>
              (core_Set N ({ a0 with M := z390.1 }) a1 ({ z1.1 with pc := 3, r6 := 0, r7 := z390.2 })).bind fun z391 =>
              some z391
            else
              bif z1.1.pc == (3 : Int) then
                bif z1.1.pc == (3 : Int) then
                  (haz_Place N a1 (w64 ((w64 (z1.1.pc - (3 : Int))) + (1 : Int)))).bind fun z392 =>
                  (mem_Store N a0.M z392 0).bind fun z393 =>
                  bif z1.1.pc == (3 : Int) then
                    (core_Set N ({ a0 with M := z393 }) a1 ({ z1.1 with pc := 4 })).bind fun z394 =>
                    some z394
                  else
                    (core_Back N ({ a0 with M := z393 }) a1 z1.1.r7 z1.1.r6).bind fun z395 =>
                    some z395
                else
                  some a0
              else
                bif z1.1.pc == (4 : Int) then
                  (haz_Place N a1 (w64 ((w64 (z1.1.pc - (3 : Int))) + (1 : Int)))).bind fun z396 =>
                  (mem_Store N a0.M z396 0).bind fun z397 =>
                  bif z1.1.pc == (3 : Int) then
                    (core_Set N ({ a0 with M := z397 }) a1 ({ z1.1 with pc := 4 })).bind fun z398 =>
                    some z398
                  else
                    (core_Back N ({ a0 with M := z397 }) a1 z1.1.r7 z1.1.r6).bind fun z399 =>
                    some z399
                else
                  some a0
      else
        bif z1.2 then
          bif z1.1.op == (13 : Int) then
            (idx a0.C a1).bind fun y400 =>
            bif z1.1.pc == (0 : Int) then
              (core_Set N a0 a1 ({ z1.1 with pc := 1 })).bind fun z401 =>
              (core_Call N z401 a1 7 ([])).bind fun z402 =>
              some z402
            else
              bif z1.1.pc == (1 : Int) then
                bif y400.E != (0 : Int) then
                  (core_Back N a0 a1 0 y400.E).bind fun z403 =>
                  some z403
                else
                  (core_Set N a0 a1 ({ z1.1 with pc := (w64 (z1.1.pc + (1 : Int))), r3 := y400.V })).bind fun z404 =>
                  some z404
              else
                bif z1.1.pc == (2 : Int) then
                  (mem_At N z1.1.r3 2).bind fun z405 =>
                  (mem_Store N a0.M z405 z1.1.r1).bind fun z406 =>
                  (core_Set N ({ a0 with M := z406 }) a1 ({ z1.1 with pc := (w64 (z1.1.pc + (1 : Int))) })).bind fun z407 =>
                  some z407
                else
                  bif z1.1.pc == (3 : Int) then
                    (mem_At N z1.1.r3 3).bind fun z408 =>
                    (mem_Store N a0.M z408 z1.1.r2).bind fun z409 =>
                    (core_Set N ({ a0 with M := z409 }) a1 ({ z1.1 with pc := (w64 (z1.1.pc + (1 : Int))) })).bind fun z410 =>
                    some z410
                  else
                    bif z1.1.pc == (4 : Int) then
                      (core_Set N a0 a1 ({ z1.1 with pc := 5 })).bind fun z411 =>
                      (core_Call N z411 a1 11 ([z1.1.r0, z1.1.r1, 1])).bind fun z412 =>
                      some z412
                    else
                      bif z1.1.pc == (5 : Int) then
                        bif y400.V != (0 : Int) then
                          (core_Set N a0 a1 ({ z1.1 with pc := 11 })).bind fun z413 =>
                          (core_Call N z413 a1 8 ([z1.1.r3])).bind fun z414 =>
                          some z414
                        else
                          (core_Set N a0 a1 ({ z1.1 with pc := (w64 (z1.1.pc + (1 : Int))), r4 := y400.x0, r5 := y400.x1 })).bind fun z415 =>
                          some z415
                      else
                        bif z1.1.pc == (6 : Int) then
                          (mem_At N z1.1.r3 1).bind fun z416 =>
                          (mem_Load N a0.M z416).bind fun z417 =>
                          (core_Set N ({ a0 with M := z417.1 }) a1 ({ z1.1 with pc := (w64 (z1.1.pc + (1 : Int))), r6 := z417.2 })).bind fun z418 =>
                          some z418
                        else
                          bif z1.1.pc == (7 : Int) then
                            (mem_At N z1.1.r3 1).bind fun z419 =>
                            (pack_Index N z1.1.r5).bind fun z420 =>
                            (pack_Next N z1.1.r6 z420 0).bind fun z421 =>
                            (mem_Store N a0.M z419 z421).bind fun z422 =>
                            (core_Set N ({ a0 with M := z422 }) a1 ({ z1.1 with pc := (w64 (z1.1.pc + (1 : Int))) })).bind fun z423 =>
                            some z423
                          else
                            bif z1.1.pc == (8 : Int) then
                              (pack_Next N z1.1.r5 z1.1.r3 0).bind fun z424 =>
                              (mem_Cas N a0.M z1.1.r4 z1.1.r5 z424).bind fun z425 =>
                              bif !z425.2 then
                                (core_Set N ({ a0 with M := z425.1 }) a1 ({ z1.1 with pc := 4 })).bind fun z426 =>
                                some z426
                              else
                                bif (band .i64 z1.1.r1 (1 : Int)) == (1 : Int) then
                                  (core_Log N ({ a0 with M := z425.1 }) a1 4 z1.1.r1 0 z1.1.r2).bind fun z427 =>
                                  (core_Set N z427 a1 ({ z1.1 with pc := (w64 (z1.1.pc + (1 : Int))) })).bind fun z428 =>
                                  some z428
                                else
                                  (core_Set N ({ a0 with M := z425.1 }) a1 ({ z1.1 with pc := (w64 (z1.1.pc + (1 : Int))) })).bind fun z429 =>
                                  some z429
                            else
                              bif z1.1.pc == (9 : Int) then
                                bif z1.1.pc == (9 : Int) then
                                  (haz_Place N a1 (w64 ((w64 (z1.1.pc - (9 : Int))) + (1 : Int)))).bind fun z430 =>
                                  (mem_Store N a0.M z430 0).bind fun z431 =>
                                  bif z1.1.pc == (9 : Int) then
                                    (core_Set N ({ a0 with M := z431 }) a1 ({ z1.1 with pc := 10 })).bind fun z432 =>
                                    some z432
                                  else
                                    (core_Back N ({ a0 with M := z431 }) a1 z1.1.r3 0).bind fun z433 =>
                                    some z433
                                else
                                  bif z1.1.pc == (11 : Int) then
                                    (pack_Index N y400.x1).bind fun z434 =>
                                    (core_Set N a0 a1 ({ z1.1 with pc := (w64 (z1.1.pc + (1 : Int))), r7 := z434 })).bind fun z435 =>
                                    some z435
                                  else
                                    bif z1.1.pc == (12 : Int) then
                                      bif z1.1.pc == (12 : Int) then
                                        (haz_Place N a1 (w64 ((w64 (z1.1.pc - (12 : Int))) + (1 : Int)))).bind fun z436 =>
                                        (mem_Store N a0.M z436 0).bind fun z437 =>
                                        bif z1.1.pc == (12 : Int) then
                                          (core_Set N ({ a0 with M := z437 }) a1 ({ z1.1 with pc := 13 })).bind fun z438 =>
                                          some z438
                                        else
                                          (core_Back N ({ a0 with M := z437 }) a1 z1.1.r7 4).bind fun z439 =>
                                          some z439
                                      else
                                        some a0
                                    else
                                      bif z1.1.pc == (13 : Int) then
                                        (haz_Place N a1 (w64 ((w64 (z1.1.pc - (12 : Int))) + (1 : Int)))).bind fun z440 =>
                                        (mem_Store N a0.M z440 0).bind fun z441 =>
                                        bif z1.1.pc == (12 : Int) then
                                          (core_Set N ({ a0 with M := z441 }) a1 ({ z1.1 with pc := 13 })).bind fun z442 =>
                                          some z442
                                        else
                                          (core_Back N ({ a0 with M := z441 }) a1 z1.1.r7 4).bind fun z443 =>
                                          some z443
                                      else
                                        some a0
                              else
                                bif z1.1.pc == (10 : Int) then
                                  (haz_Place N a1 (w64 ((w64 (z1.1.pc - (9 : Int))) + (1 : Int)))).bind fun z444 =>
                                  (mem_Store N a0.M z444 0).bind fun z445 =>
                                  bif z1.1.pc == (9 : Int) then
                                    (core_Set N ({ a0 with M := z445 }) a1 ({ z1.1 with pc := 10 })).bind fun z446 =>
                                    some z446
                                  else
                                    (core_Back N ({ a0 with M := z445 }) a1 z1.1.r3 0).bind fun z447 =>
                                    some z447
                                else
                                  bif z1.1.pc == (11 : Int) then
                                    (pack_Index N y400.x1).bind fun z448 =>
                                    (core_Set N a0 a1 ({ z1.1 with pc := (w64 (z1.1.pc + (1 : Int))), r7 := z448 })).bind fun z449 =>
                                    some z449
                                  else
                                    bif z1.1.pc == (12 : Int) then
                                      bif z1.1.pc == (12 : Int) then
                                        (haz_Place N a1 (w64 ((w64 (z1.1.pc - (12 : Int))) + (1 : Int)))).bind fun z450 =>
                                        (mem_Store N a0.M z450 0).bind fun z451 =>
                                        bif z1.1.pc == (12 : Int) then
                                          (core_Set N ({ a0 with M := z451 }) a1 ({ z1.1 with pc := 13 })).bind fun z452 =>
                                          some z452
                                        else
                                          (core_Back N ({ a0 with M := z451 }) a1 z1.1.r7 4).bind fun z453 =>
                                          some z453
                                      else
                                        some a0
                                    else
                                      bif z1.1.pc == (13 : Int) then
                                        (haz_Place N a1 (w64 ((w64 (z1.1.pc - (12 : Int))) + (1 : Int)))).bind fun z454 =>
                                        (mem_Store N a0.M z454 0).bind fun z455 =>
                                        bif z1.1.pc == (12 : Int) then
                                          (core_Set N ({ a0 with M := z455 }) a1 ({ z1.1 with pc := 13 })).bind fun z456 =>
                                          some z456
                                        else
                                          (core_Back N ({ a0 with M := z455 }) a1 z1.1.r7 4).bind fun z457 =>
                                          some z457
                                      else
                                        some a0
          else
            bif z1.2 then
              bif z1.1.op == (14 : Int) then
                (idx a0.C a1).bind fun y458 =>
                bif z1.1.pc == (0 : Int) then
                  (core_Set N a0 a1 ({ z1.1 with pc := 1 })).bind fun z459 =>
                  (core_Call N z459 a1 11 ([z1.1.r0, z1.1.r1, 2])).bind fun z460 =>
                  some z460
                else
                  bif z1.1.pc == (1 : Int) then
                    bif y458.V == (0 : Int) then
                      (core_Set N a0 a1 ({ z1.1 with pc := 6, r6 := 3, r7 := 0 })).bind fun z461 =>
                      some z461
                    else
                      (core_Set N a0 a1 ({ z1.1 with pc := 2, r3 := y458.x0, r4 := y458.x1, r5 := y458.x2 })).bind fun z462 =>
                      some z462
                  else
                    bif z1.1.pc == (2 : Int) then
                      (list_cell N z1.1.r4 1).bind fun z463 =>
                      (pack_Index N z1.1.r5).bind fun z464 =>
                      (pack_Next N z1.1.r5 z464 1).bind fun z465 =>
                      (mem_Cas N a0.M z463 z1.1.r5 z465).bind fun z466 =>
                      bif !z466.2 then
                        (core_Set N ({ a0 with M := z466.1 }) a1 ({ z1.1 with pc := 0 })).bind fun z467 =>
                        some z467
                      else
                        bif (band .i64 z1.1.r1 (1 : Int)) == (1 : Int) then
                          (core_Log N ({ a0 with M := z466.1 }) a1 6 z1.1.r1 0 0).bind fun z468 =>
                          (core_Set N z468 a1 ({ z1.1 with pc := 3 })).bind fun z469 =>
                          some z469
                        else
                          (core_Set N ({ a0 with M := z466.1 }) a1 ({ z1.1 with pc := 3 })).bind fun z470 =>
                          some z470
                    else
                      bif z1.1.pc == (3 : Int) then
                        (list_cell N z1.1.r4 3).bind fun z471 =>
                        (mem_Load N a0.M z471).bind fun z472 =>
                        (core_Set N ({ a0 with M := z472.1 }) a1 ({ z1.1 with pc := 4, r6 := 0, r7 := z472.2 })).bind fun z473 =>
                        some z473
                      else
                        bif z1.1.pc == (4 : Int) then
                          (pack_Index N z1.1.r5).bind fun z474 =>
                          (pack_Next N z1.1.r4 z474 0).bind fun z475 =>
                          (mem_Cas N a0.M z1.1.r3 z1.1.r4 z475).bind fun z476 =>
                          bif !z476.2 then
                            (core_Set N ({ a0 with M := z476.1 }) a1 ({ z1.1 with pc := 5 })).bind fun z477 =>
                            some z477
                          else
                            (pack_Index N z1.1.r4).bind fun z478 =>
                            (core_Set N ({ a0 with M := z476.1 }) a1 ({ z1.1 with pc := 6 })).bind fun z479 =>
                            (core_Call N z479 a1 5 ([z478])).bind fun z480 =>
                            some z480
                        else
                          bif z1.1.pc == (5 : Int) then
                            (core_Set N a0 a1 ({ z1.1 with pc := 6 })).bind fun z481 =>
                            (core_Call N z481 a1 11 ([z1.1.r0, z1.1.r1, 3])).bind fun z482 =>
                            some z482
                          else
                            bif z1.1.pc == (6 : Int) then
                              bif z1.1.pc == (6 : Int) then
                                (haz_Place N a1 (w64 ((w64 (z1.1.pc - (6 : Int))) + (1 : Int)))).bind fun z483 =>
                                (mem_Store N a0.M z483 0).bind fun z484 =>
                                bif z1.1.pc == (6 : Int) then
                                  (core_Set N ({ a0 with M := z484 }) a1 ({ z1.1 with pc := 7 })).bind fun z485 =>
                                  some z485
                                else
                                  (core_Back N ({ a0 with M := z484 }) a1 z1.1.r7 z1.1.r6).bind fun z486 =>
                                  some z486
                              else
                                some a0
                            else
                              bif z1.1.pc == (7 : Int) then
                                (haz_Place N a1 (w64 ((w64 (z1.1.pc - (6 : Int))) + (1 : Int)))).bind fun z487 =>
                                (mem_Store N a0.M z487 0).bind fun z488 =>
                                bif z1.1.pc == (6 : Int) then
                                  (core_Set N ({ a0 with M := z488 }) a1 ({ z1.1 with pc := 7 })).bind fun z489 =>
                                  some z489
                                else
                                  (core_Back N ({ a0 with M := z488 }) a1 z1.1.r7 z1.1.r6).bind fun z490 =>
                                  some z490
                              else
                                some a0
              else
                (msq_Step N a0 a1).bind fun z491 =>
                some z491
            else
              (msq_Step N a0 a1).bind fun z492 =>
              some z492
        else
          bif z1.2 then
            bif z1.1.op == (14 : Int) then
              (idx a0.C a1).bind fun y493 =>
              bif z1.1.pc == (0 : Int) then
                (core_Set N a0 a1 ({ z1.1 with pc := 1 })).bind fun z494 =>
                (core_Call N z494 a1 11 ([z1.1.r0, z1.1.r1, 2])).bind fun z495 =>
                some z495
              else
                bif z1.1.pc == (1 : Int) then
                  bif y493.V == (0 : Int) then
                    (core_Set N a0 a1 ({ z1.1 with pc := 6, r6 := 3, r7 := 0 })).bind fun z496 =>
                    some z496
                  else
                    (core_Set N a0 a1 ({ z1.1 with pc := 2, r3 := y493.x0, r4 := y493.x1, r5 := y493.x2 })).bind fun z497 =>
                    some z497
                else
                  bif z1.1.pc == (2 : Int) then
                    (list_cell N z1.1.r4 1).bind fun z498 =>
                    (pack_Index N z1.1.r5).bind fun z499 =>
                    (pack_Next N z1.1.r5 z499 1).bind fun z500 =>
                    (mem_Cas N a0.M z498 z1.1.r5 z500).bind fun z501 =>
                    bif !z501.2 then
                      (core_Set N ({ a0 with M := z501.1 }) a1 ({ z1.1 with pc := 0 })).bind fun z502 =>
                      some z502
                    else
                      bif (band .i64 z1.1.r1 (1 : Int)) == (1 : Int) then
                        (core_Log N ({ a0 with M := z501.1 }) a1 6 z1.1.r1 0 0).bind fun z503 =>
                        (core_Set N z503 a1 ({ z1.1 with pc := 3 })).bind fun z504 =>
                        some z504
                      else
                        (core_Set N ({ a0 with M := z501.1 }) a1 ({ z1.1 with pc := 3 })).bind fun z505 =>
                        some z505
                  else
                    bif z1.1.pc == (3 : Int) then
                      (list_cell N z1.1.r4 3).bind fun z506 =>
                      (mem_Load N a0.M z506).bind fun z507 =>
                      (core_Set N ({ a0 with M := z507.1 }) a1 ({ z1.1 with pc := 4, r6 := 0, r7 := z507.2 })).bind fun z508 =>
                      some z508
                    else
                      bif z1.1.pc == (4 : Int) then
                        (pack_Index N z1.1.r5).bind fun z509 =>
                        (pack_Next N z1.1.r4 z509 0).bind fun z510 =>
                        (mem_Cas N a0.M z1.1.r3 z1.1.r4 z510).bind fun z511 =>
                        bif !z511.2 then
                          (core_Set N ({ a0 with M := z511.1 }) a1 ({ z1.1 with pc := 5 })).bind fun z512 =>
                          some z512
                        else
                          (pack_Index N z1.1.r4).bind fun z513 =>
                          (core_Set N ({ a0 with M := z511.1 }) a1 ({ z1.1 with pc := 6 })).bind fun z514 =>
                          (core_Call N z514 a1 5 ([z513])).bind fun z515 =>
                          some z515
                      else
                        bif z1.1.pc == (5 : Int) then
                          (core_Set N a0 a1 ({ z1.1 with pc := 6 })).bind fun z516 =>
                          (core_Call N z516 a1 11 ([z1.1.r0, z1.1.r1, 3])).bind fun z517 =>
                          some z517
                        else
                          bif z1.1.pc == (6 : Int) then
                            bif z1.1.pc == (6 : Int) then
                              (haz_Place N a1 (w64 ((w64 (z1.1.pc - (6 : Int))) + (1 : Int)))).bind fun z518 =>
                              (mem_Store N a0.M z518 0).bind fun z519 =>
                              bif z1.1.pc == (6 : Int) then
                                (core_Set N ({ a0 with M := z519 }) a1 ({ z1.1 with pc := 7 })).bind fun z520 =>
                                some z520
                              else
                                (core_Back N ({ a0 with M := z519 }) a1 z1.1.r7 z1.1.r6).bind fun z521 =>
                                some z521
                            else
                              some a0
                          else
                            bif z1.1.pc == (7 : Int) then
                              (haz_Place N a1 (w64 ((w64 (z1.1.pc - (6 : Int))) + (1 : Int)))).bind fun z522 =>
                              (mem_Store N a0.M z522 0).bind fun z523 =>
                              bif z1.1.pc == (6 : Int) then
                                (core_Set N ({ a0 with M := z523 }) a1 ({ z1.1 with pc := 7 })).bind fun z524 =>
                                some z524
                              else
                                (core_Back N ({ a0 with M := z523 }) a1 z1.1.r7 z1.1.r6).bind fun z525 =>
                                some z525
                            else
                              some a0
            else
              (msq_Step N a0 a1).bind fun z526 =>
              some z526
          else
            (msq_Step N a0 a1).bind fun z527 =>
            some z527
    else
      bif z1.2 then
        bif z1.1.op == (13 : Int) then
          (idx a0.C a1).bind fun y528 =>
          bif z1.1.pc == (0 : Int) then
            (core_Set N a0 a1 ({ z1.1 with pc := 1 })).bind fun z529 =>
            (core_Call N z529 a1 7 ([])).bind fun z530 =>
            some z530
          else
            bif z1.1.pc == (1 : Int) then
              bif y528.E != (0 : Int) then
                (core_Back N a0 a1 0 y528.E).bind fun z531 =>
                some z531
              else
                (core_Set N a0 a1 ({ z1.1 with pc := (w64 (z1.1.pc + (1 : Int))), r3 := y528.V })).bind fun z532 =>
                some z532
            else
              bif z1.1.pc == (2 : Int) then
                (mem_At N z1.1.r3 2).bind fun z533 =>
                (mem_Store N a0.M z533 z1.1.r1).bind fun z534 =>
                (core_Set N ({ a0 with M := z534 }) a1 ({ z1.1 with pc := (w64 (z1.1.pc + (1 : Int))) })).bind fun z535 =>
                some z535
              else
                bif z1.1.pc == (3 : Int) then
                  (mem_At N z1.1.r3 3).bind fun z536 =>
                  (mem_Store N a0.M z536 z1.1.r2).bind fun z537 =>
                  (core_Set N ({ a0 with M := z537 }) a1 ({ z1.1 with pc := (w64 (z1.1.pc + (1 : Int))) })).bind fun z538 =>
                  some z538
                else
                  bif z1.1.pc == (4 : Int) then
                    (core_Set N a0 a1 ({ z1.1 with pc := 5 })).bind fun z539 =>
                    (core_Call N z539 a1 11 ([z1.1.r0, z1.1.r1, 1])).bind fun z540 =>
                    some z540
                  else
                    bif z1.1.pc == (5 : Int) then
                      bif y528.V != (0 : Int) then
                        (core_Set N a0 a1 ({ z1.1 with pc := 11 })).bind fun z541 =>
                        (core_Call N z541 a1 8 ([z1.1.r3])).bind fun z542 =>
                        some z542
                      else
                        (core_Set N a0 a1 ({ z1.1 with pc := (w64 (z1.1.pc + (1 : Int))), r4 := y528.x0, r5 := y528.x1 })).bind fun z543 =>
                        some z543
                    else
                      bif z1.1.pc == (6 : Int) then
                        (mem_At N z1.1.r3 1).bind fun z544 =>
                        (mem_Load N a0.M z544).bind fun z545 =>
                        (core_Set N ({ a0 with M := z545.1 }) a1 ({ z1.1 with pc := (w64 (z1.1.pc + (1 : Int))), r6 := z545.2 })).bind fun z546 =>
                        some z546
                      else
                        bif z1.1.pc == (7 : Int) then
                          (mem_At N z1.1.r3 1).bind fun z547 =>
                          (pack_Index N z1.1.r5).bind fun z548 =>
                          (pack_Next N z1.1.r6 z548 0).bind fun z549 =>
                          (mem_Store N a0.M z547 z549).bind fun z550 =>
                          (core_Set N ({ a0 with M := z550 }) a1 ({ z1.1 with pc := (w64 (z1.1.pc + (1 : Int))) })).bind fun z551 =>
                          some z551
                        else
                          bif z1.1.pc == (8 : Int) then
                            (pack_Next N z1.1.r5 z1.1.r3 0).bind fun z552 =>
                            (mem_Cas N a0.M z1.1.r4 z1.1.r5 z552).bind fun z553 =>
                            bif !z553.2 then
                              (core_Set N ({ a0 with M := z553.1 }) a1 ({ z1.1 with pc := 4 })).bind fun z554 =>
                              some z554
                            else
                              bif (band .i64 z1.1.r1 (1 : Int)) == (1 : Int) then
                                (core_Log N ({ a0 with M := z553.1 }) a1 4 z1.1.r1 0 z1.1.r2).bind fun z555 =>
                                (core_Set N z555 a1 ({ z1.1 with pc := (w64 (z1.1.pc + (1 : Int))) })).bind fun z556 =>
                                some z556
                              else
                                (core_Set N ({ a0 with M := z553.1 }) a1 ({ z1.1 with pc := (w64 (z1.1.pc + (1 : Int))) })).bind fun z557 =>
                                some z557
                          else
                            bif z1.1.pc == (9 : Int) then
                              bif z1.1.pc == (9 : Int) then
                                (haz_Place N a1 (w64 ((w64 (z1.1.pc - (9 : Int))) + (1 : Int)))).bind fun z558 =>
                                (mem_Store N a0.M z558 0).bind fun z559 =>
                                bif z1.1.pc == (9 : Int) then
                                  (core_Set N ({ a0 with M := z559 }) a1 ({ z1.1 with pc := 10 })).bind fun z560 =>
                                  some z560
                                else
                                  (core_Back N ({ a0 with M := z559 }) a1 z1.1.r3 0).bind fun z561 =>
                                  some z561
                              else
                                bif z1.1.pc == (11 : Int) then
                                  (pack_Index N y528.x1).bind fun z562 =>
                                  (core_Set N a0 a1 ({ z1.1 with pc := (w64 (z1.1.pc + (1 : Int))), r7 := z562 })).bind fun z563 =>
                                  some z563
                                else
                                  bif z1.1.pc == (12 : Int) then
                                    bif z1.1.pc == (12 : Int) then
                                      (haz_Place N a1 (w64 ((w64 (z1.1.pc - (12 : Int))) + (1 : Int)))).bind fun z564 =>
                                      (mem_Store N a0.M z564 0).bind fun z565 =>
                                      bif z1.1.pc == (12 : Int) then
                                        (core_Set N ({ a0 with M := z565 }) a1 ({ z1.1 with pc := 13 })).bind fun z566 =>
                                        some z566
                                      else
                                        (core_Back N ({ a0 with M := z565 }) a1 z1.1.r7 4).bind fun z567 =>
                                        some z567
                                    else
                                      some a0
                                  else
                                    bif z1.1.pc == (13 : Int) then
                                      (haz_Place N a1 (w64 ((w64 (z1.1.pc - (12 : Int))) + (1 : Int)))).bind fun z568 =>
                                      (mem_Store N a0.M z568 0).bind fun z569 =>
                                      bif z1.1.pc == (12 : Int) then
                                        (core_Set N ({ a0 with M := z569 }) a1 ({ z1.1 with pc := 13 })).bind fun z570 =>
                                        some z570
                                      else
                                        (core_Back N ({ a0 with M := z569 }) a1 z1.1.r7 4).bind fun z571 =>
                                        some z571
                                    else
                                      some a0
                            else
                              bif z1.1.pc == (10 : Int) then
                                (haz_Place N a1 (w64 ((w64 (z1.1.pc - (9 : Int))) + (1 : Int)))).bind fun z572 =>
                                (mem_Store N a0.M z572 0).bind fun z573 =>
                                bif z1.1.pc == (9 : Int) then
                                  (core_Set N ({ a0 with M := z573 }) a1 ({ z1.1 with pc := 10 })).bind fun z574 =>
                                  some z574
                                else
                                  (core_Back N ({ a0 with M := z573 }) a1 z1.1.r3 0).bind fun z575 =>
                                  some z575
                              else
                                bif z1.1.pc == (11 : Int) then
                                  (pack_Index N y528.x1).bind fun z576 =>
                                  (core_Set N a0 a1 ({ z1.1 with pc := (w64 (z1.1.pc + (1 : Int))), r7 := z576 })).bind fun z577 =>
                                  some z577
                                else
                                  bif z1.1.pc == (12 : Int) then
                                    bif z1.1.pc == (12 : Int) then
                                      (haz_Place N a1 (w64 ((w64 (z1.1.pc - (12 : Int))) + (1 : Int)))).bind fun z578 =>
                                      (mem_Store N a0.M z578 0).bind fun z579 =>
                                      bif z1.1.pc == (12 : Int) then
                                        (core_Set N ({ a0 with M := z579 }) a1 ({ z1.1 with pc := 13 })).bind fun z580 =>
                                        some z580
                                      else
                                        (core_Back N ({ a0 with M := z579 }) a1 z1.1.r7 4).bind fun z581 =>
                                        some z581
                                    else
                                      some a0
                                  else
                                    bif z1.1.pc == (13 : Int) then
                                      (haz_Place N a1 (w64 ((w64 (z1.1.pc - (12 : Int))) + (1 : Int)))).bind fun z582 =>
                                      (mem_Store N a0.M z582 0).bind fun z583 =>
                                      bif z1.1.pc == (12 : Int) then
                                        (core_Set N ({ a0 with M := z583 }) a1 ({ z1.1 with pc := 13 })).bind fun z584 =>
                                        some z584
                                      else
                                        (core_Back N ({ a0 with M := z583 }) a1 z1.1.r7 4).bind fun z585 =>
                                        some z585
                                    else
                                      some a0
        else
          bif z1.2 then
            bif z1.1.op == (14 : Int) then
              (idx a0.C a1).bind fun y586 =>
              bif z1.1.pc == (0 : Int) then
                (core_Set N a0 a1 ({ z1.1 with pc := 1 })).bind fun z587 =>
                (core_Call N z587 a1 11 ([z1.1.r0, z1.1.r1, 2])).bind fun z588 =>
                some z588
              else
                bif z1.1.pc == (1 : Int) then
                  bif y586.V == (0 : Int) then
                    (core_Set N a0 a1 ({ z1.1 with pc := 6, r6 := 3, r7 := 0 })).bind fun z589 =>
                    some z589
                  else
                    (core_Set N a0 a1 ({ z1.1 with pc := 2, r3 := y586.x0, r4 := y586.x1, r5 := y586.x2 })).bind fun z590 =>
                    some z590
                else
                  bif z1.1.pc == (2 : Int) then
                    (list_cell N z1.1.r4 1).bind fun z591 =>
                    (pack_Index N z1.1.r5).bind fun z592 =>
                    (pack_Next N z1.1.r5 z592 1).bind fun z593 =>
                    (mem_Cas N a0.M z591 z1.1.r5 z593).bind fun z594 =>
                    bif !z594.2 then
                      (core_Set N ({ a0 with M := z594.1 }) a1 ({ z1.1 with pc := 0 })).bind fun z595 =>
                      some z595
                    else
                      bif (band .i64 z1.1.r1 (1 : Int)) == (1 : Int) then
                        (core_Log N ({ a0 with M := z594.1 }) a1 6 z1.1.r1 0 0).bind fun z596 =>
                        (core_Set N z596 a1 ({ z1.1 with pc := 3 })).bind fun z597 =>
                        some z597
                      else
                        (core_Set N ({ a0 with M := z594.1 }) a1 ({ z1.1 with pc := 3 })).bind fun z598 =>
                        some z598
                  else
                    bif z1.1.pc == (3 : Int) then
                      (list_cell N z1.1.r4 3).bind fun z599 =>
                      (mem_Load N a0.M z599).bind fun z600 =>
                      (core_Set N ({ a0 with M := z600.1 }) a1 ({ z1.1 with pc := 4, r6 := 0, r7 := z600.2 })).bind fun z601 =>
                      some z601
                    else
                      bif z1.1.pc == (4 : Int) then
                        (pack_Index N z1.1.r5).bind fun z602 =>
                        (pack_Next N z1.1.r4 z602 0).bind fun z603 =>
                        (mem_Cas N a0.M z1.1.r3 z1.1.r4 z603).bind fun z604 =>
                        bif !z604.2 then
                          (core_Set N ({ a0 with M := z604.1 }) a1 ({ z1.1 with pc := 5 })).bind fun z605 =>
                          some z605
                        else
                          (pack_Index N z1.1.r4).bind fun z606 =>
                          (core_Set N ({ a0 with M := z604.1 }) a1 ({ z1.1 with pc := 6 })).bind fun z607 =>
                          (core_Call N z607 a1 5 ([z606])).bind fun z608 =>
                          some z608
                      else
                        bif z1.1.pc == (5 : Int) then
                          (core_Set N a0 a1 ({ z1.1 with pc := 6 })).bind fun z609 =>
                          (core_Call N z609 a1 11 ([z1.1.r0, z1.1.r1, 3])).bind fun z610 =>
                          some z610
                        else
                          bif z1.1.pc == (6 : Int) then
                            bif z1.1.pc == (6 : Int) then
                              (haz_Place N a1 (w64 ((w64 (z1.1.pc - (6 : Int))) + (1 : Int)))).bind fun z611 =>
                              (mem_Store N a0.M z611 0).bind fun z612 =>
                              bif z1.1.pc == (6 : Int) then
                                (core_Set N ({ a0 with M := z612 }) a1 ({ z1.1 with pc := 7 })).bind fun z613 =>
                                some z613
                              else
                                (core_Back N ({ a0 with M := z612 }) a1 z1.1.r7 z1.1.r6).bind fun z614 =>
                                some z614
                            else
                              some a0
                          else
                            bif z1.1.pc == (7 : Int) then
                              (haz_Place N a1 (w64 ((w64 (z1.1.pc - (6 : Int))) + (1 : Int)))).bind fun z615 =>
                              (mem_Store N a0.M z615 0).bind fun z616 =>
                              bif z1.1.pc == (6 : Int) then
                                (core_Set N ({ a0 with M := z616 }) a1 ({ z1.1 with pc := 7 })).bind fun z617 =>
                                some z617
                              else
                                (core_Back N ({ a0 with M := z616 }) a1 z1.1.r7 z1.1.r6).bind fun z618 =>
                                some z618
                            else
                              some a0
            else
              (msq_Step N a0 a1).bind fun z619 =>
              some z619
          else
            (msq_Step N a0 a1).bind fun z620 =>
            some z620
      else
        bif z1.2 then
          bif z1.1.op == (14 : Int) then
            (idx a0.C a1).bind fun y621 =>
            bif z1.1.pc == (0 : Int) then
              (core_Set N a0 a1 ({ z1.1 with pc := 1 })).bind fun z622 =>
              (core_Call N z622 a1 11 ([z1.1.r0, z1.1.r1, 2])).bind fun z623 =>
              some z623
            else
              bif z1.1.pc == (1 : Int) then
                bif y621.V == (0 : Int) then
                  (core_Set N a0 a1 ({ z1.1 with pc := 6, r6 := 3, r7 := 0 })).bind fun z624 =>
                  some z624
                else
                  (core_Set N a0 a1 ({ z1.1 with pc := 2, r3 := y621.x0, r4 := y621.x1, r5 := y621.x2 })).bind fun z625 =>
                  some z625
              else
                bif z1.1.pc == (2 : Int) then
                  (list_cell N z1.1.r4 1).bind fun z626 =>
                  (pack_Index N z1.1.r5).bind fun z627 =>
                  (pack_Next N z1.1.r5 z627 1).bind fun z628 =>
                  (mem_Cas N a0.M z626 z1.1.r5 z628).bind fun z629 =>
                  bif !z629.2 then
                    (core_Set N ({ a0 with M := z629.1 }) a1 ({ z1.1 with pc := 0 })).bind fun z630 =>
                    some z630
                  else
                    bif (band .i64 z1.1.r1 (1 : Int)) == (1 : Int) then
                      (core_Log N ({ a0 with M := z629.1 }) a1 6 z1.1.r1 0 0).bind fun z631 =>
                      (core_Set N z631 a1 ({ z1.1 with pc := 3 })).bind fun z632 =>
                      some z632
                    else
                      (core_Set N ({ a0 with M := z629.1 }) a1 ({ z1.1 with pc := 3 })).bind fun z633 =>
                      some z633
                else
                  bif z1.1.pc == (3 : Int) then
                    (list_cell N z1.1.r4 3).bind fun z634 =>
                    (mem_Load N a0.M z634).bind fun z635 =>
                    (core_Set N ({ a0 with M := z635.1 }) a1 ({ z1.1 with pc := 4, r6 := 0, r7 := z635.2 })).bind fun z636 =>
                    some z636
                  else
                    bif z1.1.pc == (4 : Int) then
                      (pack_Index N z1.1.r5).bind fun z637 =>
                      (pack_Next N z1.1.r4 z637 0).bind fun z638 =>
                      (mem_Cas N a0.M z1.1.r3 z1.1.r4 z638).bind fun z639 =>
                      bif !z639.2 then
                        (core_Set N ({ a0 with M := z639.1 }) a1 ({ z1.1 with pc := 5 })).bind fun z640 =>
                        some z640
                      else
                        (pack_Index N z1.1.r4).bind fun z641 =>
                        (core_Set N ({ a0 with M := z639.1 }) a1 ({ z1.1 with pc := 6 })).bind fun z642 =>
                        (core_Call N z642 a1 5 ([z641])).bind fun z643 =>
                        some z643
                    else
                      bif z1.1.pc == (5 : Int) then
                        (core_Set N a0 a1 ({ z1.1 with pc := 6 })).bind fun z644 =>
                        (core_Call N z644 a1 11 ([z1.1.r0, z1.1.r1, 3])).bind fun z645 =>
                        some z645
                      else
                        bif z1.1.pc == (6 : Int) then
                          bif z1.1.pc == (6 : Int) then
                            (haz_Place N a1 (w64 ((w64 (z1.1.pc - (6 : Int))) + (1 : Int)))).bind fun z646 =>
                            (mem_Store N a0.M z646 0).bind fun z647 =>
                            bif z1.1.pc == (6 : Int) then
                              (core_Set N ({ a0 with M := z647 }) a1 ({ z1.1 with pc := 7 })).bind fun z648 =>
                              some z648
                            else
                              (core_Back N ({ a0 with M := z647 }) a1 z1.1.r7 z1.1.r6).bind fun z649 =>
                              some z649
                          else
                            some a0
                        else
                          bif z1.1.pc == (7 : Int) then
                            (haz_Place N a1 (w64 ((w64 (z1.1.pc - (6 : Int))) + (1 : Int)))).bind fun z650 =>
                            (mem_Store N a0.M z650 0).bind fun z651 =>
                            bif z1.1.pc == (6 : Int) then
                              (core_Set N ({ a0 with M := z651 }) a1 ({ z1.1 with pc := 7 })).bind fun z652 =>
                              some z652
                            else
                              (core_Back N ({ a0 with M := z651 }) a1 z1.1.r7 z1.1.r6).bind fun z653 =>
                              some z653
                          else
                            some a0
          else
            (msq_Step N a0 a1).bind fun z654 =>
            some z654
        else
          (msq_Step N a0 a1).bind fun z655 =>
          some z655

/- hazel/table.Spot -/
def table_Spot (N : Nat) (a0 : Int) : Option (Int) :=
  some (w64 ((50 : Int) + a0))

/- math/bits.Len16 -/
def math_bits_Len16 (N : Nat) (a0 : Int) : Option (Int) :=
  bif decide (a0 ≥ (256 : Int)) then
    (idx ([0, 1, 2, 2, 3, 3, 3, 3, 4, 4, 4, 4, 4, 4, 4, 4, 5, 5, 5, 5, 5, 5, 5, 5, 5, 5, 5, 5, 5, 5, 5, 5, 6, 6, 6, 6, 6, 6, 6, 6, 6, 6, 6, 6, 6, 6, 6, 6, 6, 6, 6, 6, 6, 6, 6, 6, 6, 6, 6, 6, 6, 6, 6, 6, 7, 7, 7, 7, 7, 7, 7, 7, 7, 7, 7, 7, 7, 7, 7, 7, 7, 7, 7, 7, 7, 7, 7, 7, 7, 7, 7, 7, 7, 7, 7, 7, 7, 7, 7, 7, 7, 7, 7, 7, 7, 7, 7, 7, 7, 7, 7, 7, 7, 7, 7, 7, 7, 7, 7, 7, 7, 7, 7, 7, 7, 7, 7, 7, 8, 8, 8, 8, 8, 8, 8, 8, 8, 8, 8, 8, 8, 8, 8, 8, 8, 8, 8, 8, 8, 8, 8, 8, 8, 8, 8, 8, 8, 8, 8, 8, 8, 8, 8, 8, 8, 8, 8, 8, 8, 8, 8, 8, 8, 8, 8, 8, 8, 8, 8, 8, 8, 8, 8, 8, 8, 8, 8, 8, 8, 8, 8, 8, 8, 8, 8, 8, 8, 8, 8, 8, 8, 8, 8, 8, 8, 8, 8, 8, 8, 8, 8, 8, 8, 8, 8, 8, 8, 8, 8, 8, 8, 8, 8, 8, 8, 8, 8, 8, 8, 8, 8, 8, 8, 8, 8, 8, 8, 8, 8, 8, 8, 8, 8, 8, 8, 8, 8, 8, 8, 8, 8, 8, 8, 8, 8, 8] : List UInt8) (IntKind.wrap .u8 (shrI .u16 a0 (8 : Int)))).bind fun c1 =>
    some (w64 ((8 : Int) + (w64 ((c1.toNat : Int)))))
  else
    (idx ([0, 1, 2, 2, 3, 3, 3, 3, 4, 4, 4, 4, 4, 4, 4, 4, 5, 5, 5, 5, 5, 5, 5, 5, 5, 5, 5, 5, 5, 5, 5, 5, 6, 6, 6, 6, 6, 6, 6, 6, 6, 6, 6, 6, 6, 6, 6, 6, 6, 6, 6, 6, 6, 6, 6, 6, 6, 6, 6, 6, 6, 6, 6, 6, 7, 7, 7, 7, 7, 7, 7, 7, 7, 7, 7, 7, 7, 7, 7, 7, 7, 7, 7, 7, 7, 7, 7, 7, 7, 7, 7, 7, 7, 7, 7, 7, 7, 7, 7, 7, 7, 7, 7, 7, 7, 7, 7, 7, 7, 7, 7, 7, 7, 7, 7, 7, 7, 7, 7, 7, 7, 7, 7, 7, 7, 7, 7, 7, 8, 8, 8, 8, 8, 8, 8, 8, 8, 8, 8, 8, 8, 8, 8, 8, 8, 8, 8, 8, 8, 8, 8, 8, 8, 8, 8, 8, 8, 8, 8, 8, 8, 8, 8, 8, 8, 8, 8, 8, 8, 8, 8, 8, 8, 8, 8, 8, 8, 8, 8, 8, 8, 8, 8, 8, 8, 8, 8, 8, 8, 8, 8, 8, 8, 8, 8, 8, 8, 8, 8, 8, 8, 8, 8, 8, 8, 8, 8, 8, 8, 8, 8, 8, 8, 8, 8, 8, 8, 8, 8, 8, 8, 8, 8, 8, 8, 8, 8, 8, 8, 8, 8, 8, 8, 8, 8, 8, 8, 8, 8, 8, 8, 8, 8, 8, 8, 8, 8, 8, 8, 8, 8, 8, 8, 8, 8, 8] : List UInt8) (IntKind.wrap .u8 (a0))).bind fun c2 =>
    some (w64 ((0 : Int) + (w64 ((c2.toNat : Int)))))

/- hazel/rev.Parent -/
def rev_Parent (N : Nat) (a0 : Int) : Option (Int) :=
  bif (IntKind.wrap .u16 (a0)) == (0 : Int) then some (0 : Int) else
  (math_bits_Len16 N (IntKind.wrap .u16 (a0))).bind fun z1 =>
  bif decide ((0 : Int) ≤ (w64 (z1 - (1 : Int)))) then
    some (w64 (bandn .u16 (IntKind.wrap .u16 (a0)) (shlI .u16 (1 : Int) (w64 (z1 - (1 : Int))))))
  else none

/- hazel/table.begins -/
def table_begins (N : Nat) (a0 : Int) : Option (Int) :=
  (mem_At N a0 1).bind fun z1 =>
  some z1

/- hazel/rev.Rev -/
def rev_Rev (N : Nat) (a0 : Int) : Option (Int) :=
  some (bor .i64 (bor .i64 (bor .i64 (bor .i64 (bor .i64 (bor .i64 (bor .i64 (bor .i64 (bor .i64 (bor .i64 (bor .i64 (bor .i64 (bor .i64 (bor .i64 (bor .i64 (bor .i64 (0 : Int) (shlI .i64 (band .i64 (shrI .i64 a0 (0 : Int)) (1 : Int)) (15 : Int))) (shlI .i64 (band .i64 (shrI .i64 a0 (1 : Int)) (1 : Int)) (14 : Int))) (shlI .i64 (band .i64 (shrI .i64 a0 (2 : Int)) (1 : Int)) (13 : Int))) (shlI .i64 (band .i64 (shrI .i64 a0 (3 : Int)) (1 : Int)) (12 : Int))) (shlI .i64 (band .i64 (shrI .i64 a0 (4 : Int)) (1 : Int)) (11 : Int))) (shlI .i64 (band .i64 (shrI .i64 a0 (5 : Int)) (1 : Int)) (10 : Int))) (shlI .i64 (band .i64 (shrI .i64 a0 (6 : Int)) (1 : Int)) (9 : Int))) (shlI .i64 (band .i64 (shrI .i64 a0 (7 : Int)) (1 : Int)) (8 : Int))) (shlI .i64 (band .i64 (shrI .i64 a0 (8 : Int)) (1 : Int)) (7 : Int))) (shlI .i64 (band .i64 (shrI .i64 a0 (9 : Int)) (1 : Int)) (6 : Int))) (shlI .i64 (band .i64 (shrI .i64 a0 (10 : Int)) (1 : Int)) (5 : Int))) (shlI .i64 (band .i64 (shrI .i64 a0 (11 : Int)) (1 : Int)) (4 : Int))) (shlI .i64 (band .i64 (shrI .i64 a0 (12 : Int)) (1 : Int)) (3 : Int))) (shlI .i64 (band .i64 (shrI .i64 a0 (13 : Int)) (1 : Int)) (2 : Int))) (shlI .i64 (band .i64 (shrI .i64 a0 (14 : Int)) (1 : Int)) (1 : Int))) (shlI .i64 (band .i64 (shrI .i64 a0 (15 : Int)) (1 : Int)) (0 : Int)))

/- hazel/rev.Sent -/
def rev_Sent (N : Nat) (a0 : Int) : Option (Int) :=
  (rev_Rev N a0).bind fun z1 =>
  some (shlI .i64 z1 (1 : Int))

/- hazel/rev.Bucket -/
def rev_Bucket (N : Nat) (a0 : Int) (a1 : Int) : Option (Int) :=
  bif decide (a1 < (1 : Int)) then some (0 : Int) else
  bif decide (a1 > (16 : Int)) then some (0 : Int) else
  bif decide (a1 = (0 : Int)) then none else
  some (Int.tmod (band .i64 a0 (65535 : Int)) a1)

/- hazel/rev.Ord -/
def rev_Ord (N : Nat) (a0 : Int) : Option (Int) :=
  (rev_Rev N a0).bind fun z1 =>
  some (bor .i64 (shlI .i64 z1 (1 : Int)) (1 : Int))


end Go.Hz
