/- The evaluator comes to the plain functions. Printed by g2.py. -/
import Derived.Test.YthdmhibmokhpgaaGreatP14Defs
set_option linter.unusedSimpArgs false
set_option maxRecDepth 100000
set_option linter.unusedVariables false
namespace Go.Hz
open Go Go.AE Go.Proofs

theorem e_msq_Step (N : Nat) (a0 : SysD) (a1 : Int) : evFn (c_msq_Step N) 300 149 [(eSysD a0), (.i .i64 a1)] dSysD = msq_Step N a0 a1 := by kernel_rfl
theorem e_r02_Turn (N : Nat) (a0 : MemD) (a1 : Int) (a2 : Int) : evFn (c_r02_Turn N) 300 30 [(eMemD a0), (.i .i64 a1), (.i .i64 a2)] dMemD = r02_Turn N a0 a1 a2 := by kernel_rfl
theorem e_alloc_Step (N : Nat) (a0 : SysD) (a1 : Int) : evFn (c_alloc_Step N) 300 187 [(eSysD a0), (.i .i64 a1)] dSysD = alloc_Step N a0 a1 := by kernel_rfl
theorem le_scan_look_L1 (N : Nat) : LoopEq (c_scan_look_L1 N) 136 0 300 Tryz.f136 1 [1, 3, 5, 6, 9, 10] 21 scan_look_L1_tp scan_look_L1_op scan_look_L1_k (A := (List Int) × (List Int) × Bool × (List CoreD) × (List EvD)) (B := Int × (List Int) × (List Int) × (List Int) × Bool × (List CoreD) × (List EvD) × Int × Int × Int × Int × Int × Int × Int × Int × Int × Int × (List Int) × Bool) (.ret) (sideD scan_look_L1A_tp scan_look_L1A_op scan_look_L1A_k [6] [16, 17, 18, 19, 20]) ((.exit 1)) (sideD scan_look_L1B_tp scan_look_L1B_op scan_look_L1B_k [1, 3, 6, 9] [0, 1, 2, 3, 4, 5, 6, 7, 8, 9, 10, 11, 12, 13, 14, 15, 16, 17, 18, 19, 20]) (scan_look_L1_st N) := fun nx x => by kernel_rfl
theorem e_scan_look (N : Nat) (a0 : SysD) (a1 : Int) (a2 : FrameD) : evFn (c_scan_look N) 300 136 [(eSysD a0), (.i .i64 a1), (eFrameD a2)] dSysD = scan_look N a0 a1 a2 := by kernel_rfl
theorem e_law14_shown (N : Nat) : evFn (c_law14_shown N) 300 6 [] dB = law14_shown N  := by kernel_rfl
theorem e_mem_Store (N : Nat) (a0 : MemD) (a1 : Int) (a2 : Int) : evFn (c_mem_Store N) 300 82 [(eMemD a0), (.i .i64 a1), (.i .i64 a2)] dMemD = mem_Store N a0 a1 a2 := by kernel_rfl
theorem e_haz_Step (N : Nat) (a0 : SysD) (a1 : Int) : evFn (c_haz_Step N) 300 142 [(eSysD a0), (.i .i64 a1)] dSysD = haz_Step N a0 a1 := by kernel_rfl
theorem e_core_Call (N : Nat) (a0 : SysD) (a1 : Int) (a2 : Int) (a3 : List Int) : evFn (c_core_Call N) 300 52 [(eSysD a0), (.i .i64 a1), (.i .i64 a2), (.sl .int a3 false)] dSysD = core_Call N a0 a1 a2 a3 := by kernel_rfl
theorem e_rev_Rev (N : Nat) (a0 : Int) : evFn (c_rev_Rev N) 300 192 [(.i .i64 a0)] (dI .i64) = rev_Rev N a0 := by kernel_rfl
theorem le_r03_core_L0 (N : Nat) : LoopEq (c_r03_core_L0 N) 66 0 300 Tryz.f66 0 [1, 3] 7 r03_core_L0_tp r03_core_L0_op r03_core_L0_k (A := Bool) (B := (List FrameD) × Int × Int × Int × Int × Int × (List Int)) (.ret) (sideD r03_core_L0A_tp r03_core_L0A_op r03_core_L0A_k [2] []) ((.exit 0)) (sideD r03_core_L0B_tp r03_core_L0B_op r03_core_L0B_k [] [0, 1, 2, 3, 4, 5, 6]) (r03_core_L0_st N) := fun nx x => by kernel_rfl
theorem e_stack_pop (N : Nat) (a0 : SysD) (a1 : Int) (a2 : FrameD) : evFn (c_stack_pop N) 300 170 [(eSysD a0), (.i .i64 a1), (eFrameD a2)] dSysD = stack_pop N a0 a1 a2 := by kernel_rfl
theorem e_port_look (N : Nat) (a0 : SysD) (a1 : Int) (a2 : FrameD) : evFn (c_port_look N) 300 50 [(eSysD a0), (.i .i64 a1), (eFrameD a2)] dSysD = port_look N a0 a1 a2 := by kernel_rfl
theorem e_r08_Make (N : Nat) (a0 : SysD) (a1 : Int) : evFn (c_r08_Make N) 300 12 [(eSysD a0), (.i .i64 a1)] (fin2 dSysD (dI .i64)) = r08_Make N a0 a1 := by kernel_rfl
theorem e_stack_push (N : Nat) (a0 : SysD) (a1 : Int) (a2 : FrameD) : evFn (c_stack_push N) 300 171 [(eSysD a0), (.i .i64 a1), (eFrameD a2)] dSysD = stack_push N a0 a1 a2 := by kernel_rfl
theorem le_r04_Walk_L0 (N : Nat) : LoopEq (c_r04_Walk_L0 N) 26 0 300 Tryz.f26 0 [1, 4, 7] 7 r04_Walk_L0_tp r04_Walk_L0_op r04_Walk_L0_k (A := Bool) (B := (List Int) × (List Int) × Bool × (List Int) × (List Int) × Bool × (List Int)) (.ret) (sideD r04_Walk_L0A_tp r04_Walk_L0A_op r04_Walk_L0A_k [2, 3] []) ((.exit 0)) (sideD r04_Walk_L0B_tp r04_Walk_L0B_op r04_Walk_L0B_k [4] [0, 1, 2, 3, 4, 5, 6]) (r04_Walk_L0_st N) := fun nx x => by kernel_rfl
theorem le_law14_PortCounts_L2 (N : Nat) : LoopEq (c_law14_PortCounts_L2 N) 5 0 300 Tryz.f5 2 [1, 3, 4, 5, 6] 5 law14_PortCounts_L2_tp law14_PortCounts_L2_op law14_PortCounts_L2_k (A := Bool × Int × Int × (List Int) × (List Int) × Bool × (List CoreD) × (List EvD)) (B := Empty) ((.exit 2)) (sideD law14_PortCounts_L2A_tp law14_PortCounts_L2A_op law14_PortCounts_L2A_k [1, 3, 4, 5] [0, 1, 2, 3, 4]) (.goto 999999) (sideN) (law14_PortCounts_L2_st N) := fun nx x => by kernel_rfl
theorem le_r03_Small_L0 (N : Nat) : LoopEq (c_r03_Small_L0 N) 42 0 300 Tryz.f42 0 [2, 6] 5 r03_Small_L0_tp r03_Small_L0_op r03_Small_L0_k (A := Bool) (B := (List Int) × (List Int) × Bool × (List CoreD) × (List EvD)) (.ret) (sideD r03_Small_L0A_tp r03_Small_L0A_op r03_Small_L0A_k [4] []) ((.exit 0)) (sideD r03_Small_L0B_tp r03_Small_L0B_op r03_Small_L0B_k [] [0, 1, 2, 3, 4]) (r03_Small_L0_st N) := fun nx x => by kernel_rfl
theorem e_mem_turns (N : Nat) (a0 : Int) (a1 : Int) : evFn (c_mem_turns N) 300 196 [(.i .i64 a0), (.i .i64 a1)] dB = mem_turns N a0 a1 := by kernel_rfl
theorem le_r02_Node_L0 (N : Nat) : LoopEq (c_r02_Node_L0 N) 91 0 300 Tryz.f91 0 [1, 2, 5] 3 r02_Node_L0_tp r02_Node_L0_op r02_Node_L0_k (A := Int) (B := (List Int) × (List Int) × Bool) (.ret) (sideD r02_Node_L0A_tp r02_Node_L0A_op r02_Node_L0A_k [4] []) ((.exit 0)) (sideD r02_Node_L0B_tp r02_Node_L0B_op r02_Node_L0B_k [] [0, 1, 2]) (r02_Node_L0_st N) := fun nx x => by kernel_rfl
theorem e_r13_Make (N : Nat) (a0 : SysD) (a1 : Int) (a2 : Int) : evFn (c_r13_Make N) 300 14 [(eSysD a0), (.i .i64 a1), (.i .i64 a2)] (fin2 dSysD (dI .i64)) = r13_Make N a0 a1 a2 := by kernel_rfl
theorem e_stack_Step (N : Nat) (a0 : SysD) (a1 : Int) : evFn (c_stack_Step N) 300 139 [(eSysD a0), (.i .i64 a1)] dSysD = stack_Step N a0 a1 := by kernel_rfl
theorem e_r03_Call (N : Nat) (a0 : SysD) (a1 : Int) (a2 : Int) (a3 : Int) (a4 : Int) (a5 : Int) : evFn (c_r03_Call N) 300 36 [(eSysD a0), (.i .i64 a1), (.i .i64 a2), (.i .i64 a3), (.i .i64 a4), (.i .i64 a5)] dSysD = r03_Call N a0 a1 a2 a3 a4 a5 := by kernel_rfl
theorem e_r13_Has (N : Nat) (a0 : Int) (a1 : Int) : evFn (c_r13_Has N) 300 39 [(.i .i64 a0), (.i .i64 a1)] dB = r13_Has N a0 a1 := by kernel_rfl
theorem le_r03_Right_L2 (N : Nat) : LoopEq (c_r03_Right_L2 N) 43 0 300 Tryz.f43 2 [1, 4, 6] 5 r03_Right_L2_tp r03_Right_L2_op r03_Right_L2_k (A := Bool) (B := Int × (List Int) × (List Int) × Bool × (List CoreD) × (List EvD)) (.ret) (sideD r03_Right_L2A_tp r03_Right_L2A_op r03_Right_L2A_k [2] []) ((.exit 2)) (sideD r03_Right_L2B_tp r03_Right_L2B_op r03_Right_L2B_k [1, 4] [0, 1, 2, 3, 4]) (r03_Right_L2_st N) := fun nx x => by kernel_rfl
theorem e_r03_core (N : Nat) (a0 : CoreD) : evFn (c_r03_core N) 300 66 [(eCoreD a0)] dB = r03_core N a0 := by kernel_rfl
theorem e_slices_Concat_int (N : Nat) (a0 : List (List Int)) : evFn (c_slices_Concat_int N) 300 169 [(.sl .ints a0 false)] (asSl .int) = slices_Concat_int N a0 := by kernel_rfl
theorem e_core_Top (N : Nat) (a0 : SysD) (a1 : Int) : evFn (c_core_Top N) 300 46 [(eSysD a0), (.i .i64 a1)] (fin2 dFrameD dB) = core_Top N a0 a1 := by kernel_rfl
theorem e_r03_Right (N : Nat) (a0 : SysD) : evFn (c_r03_Right N) 300 43 [(eSysD a0)] dB = r03_Right N a0 := by kernel_rfl
theorem e_r02_bad (N : Nat) (a0 : MemD) (a1 : Int) : evFn (c_r02_bad N) 300 56 [(eMemD a0), (.i .i64 a1)] dB = r02_bad N a0 a1 := by kernel_rfl
theorem le_slices_Concat_int_L0 (N : Nat) : LoopEq (c_slices_Concat_int_L0 N) 169 0 300 Tryz.f169 0 [0, 3, 9, 10, 11] 0 slices_Concat_int_L0_tp slices_Concat_int_L0_op slices_Concat_int_L0_k (A := (List (List Int)) × Int) (B := Empty) ((.exit 0)) (sideD slices_Concat_int_L0A_tp slices_Concat_int_L0A_op slices_Concat_int_L0A_k [0, 3] []) (.goto 999999) (sideN) (slices_Concat_int_L0_st N) := fun nx x => by kernel_rfl
theorem e_r02_Load (N : Nat) (a0 : MemD) (a1 : Int) : evFn (c_r02_Load N) 300 55 [(eMemD a0), (.i .i64 a1)] (fin2 dMemD (dI .i64)) = r02_Load N a0 a1 := by kernel_rfl
theorem e_pack_Next (N : Nat) (a0 : Int) (a1 : Int) (a2 : Int) : evFn (c_pack_Next N) 300 111 [(.i .i64 a0), (.i .i64 a1), (.i .i64 a2)] (dI .i64) = pack_Next N a0 a1 a2 := by kernel_rfl
theorem e_r01_Next (N : Nat) (a0 : Int) (a1 : Int) (a2 : Int) : evFn (c_r01_Next N) 300 29 [(.i .i64 a0), (.i .i64 a1), (.i .i64 a2)] (dI .i64) = r01_Next N a0 a1 a2 := by kernel_rfl
theorem e_law14_alone (N : Nat) (a0 : SysD) (a1 : Int) (a2 : Int) (a3 : Int) (a4 : Int) : evFn (c_law14_alone N) 300 15 [(eSysD a0), (.i .i64 a1), (.i .i64 a2), (.i .i64 a3), (.i .i64 a4)] dSysD = law14_alone N a0 a1 a2 a3 a4 := by kernel_rfl
theorem le_slices_Concat_int_L2 (N : Nat) : LoopEq (c_slices_Concat_int_L2 N) 169 0 300 Tryz.f169 2 [6, 25, 26, 27] 1 slices_Concat_int_L2_tp slices_Concat_int_L2_op slices_Concat_int_L2_k (A := (List Int)) (B := Empty) ((.exit 2)) (sideD slices_Concat_int_L2A_tp slices_Concat_int_L2A_op slices_Concat_int_L2A_k [6] [0]) (.goto 999999) (sideN) (slices_Concat_int_L2_st N) := fun nx x => by kernel_rfl
theorem e_r04_Fill (N : Nat) (a0 : MemD) : evFn (c_r04_Fill N) 300 34 [(eMemD a0)] dMemD = r04_Fill N a0 := by kernel_rfl
theorem le_slices_Index_int_L0 (N : Nat) : LoopEq (c_slices_Index_int_L0 N) 198 0 300 Tryz.f198 0 [0, 1, 7, 8] 0 slices_Index_int_L0_tp slices_Index_int_L0_op slices_Index_int_L0_k (A := Int) (B := Unit) (.ret) (sideD slices_Index_int_L0A_tp slices_Index_int_L0A_op slices_Index_int_L0A_k [4] []) ((.exit 0)) (sideD slices_Index_int_L0B_tp slices_Index_int_L0B_op slices_Index_int_L0B_k [] []) (slices_Index_int_L0_st N) := fun nx x => by kernel_rfl
theorem le_r04_In_L0 (N : Nat) : LoopEq (c_r04_In_L0 N) 21 0 300 Tryz.f21 0 [0, 1, 5] 0 r04_In_L0_tp r04_In_L0_op r04_In_L0_k (A := Bool) (B := Unit) (.ret) (sideD r04_In_L0A_tp r04_In_L0A_op r04_In_L0A_k [4] []) ((.exit 0)) (sideD r04_In_L0B_tp r04_In_L0B_op r04_In_L0B_k [] []) (r04_In_L0_st N) := fun nx x => by kernel_rfl
theorem e_r02_Ints (N : Nat) (a0 : List Int) (a1 : List Int) : evFn (c_r02_Ints N) 300 16 [(.sl .int a0 false), (.sl .int a1 false)] dB = r02_Ints N a0 a1 := by kernel_rfl
theorem e_port_Waits (N : Nat) (a0 : SysD) (a1 : Int) : evFn (c_port_Waits N) 300 17 [(eSysD a0), (.i .i64 a1)] (asSl .int) = port_Waits N a0 a1 := by kernel_rfl
theorem e_r13_Mask (N : Nat) (a0 : SysD) (a1 : Int) : evFn (c_r13_Mask N) 300 18 [(eSysD a0), (.i .i64 a1)] (asSl .int) = r13_Mask N a0 a1 := by kernel_rfl
theorem e_r02_Node (N : Nat) (a0 : MemD) (a1 : Int) : evFn (c_r02_Node N) 300 91 [(eMemD a0), (.i .i64 a1)] (dI .i64) = r02_Node N a0 a1 := by kernel_rfl
theorem e_alloc_then (N : Nat) (a0 : SysD) (a1 : Int) (a2 : FrameD) (a3 : Int) (a4 : List Int) : evFn (c_alloc_then N) 300 203 [(eSysD a0), (.i .i64 a1), (eFrameD a2), (.i .i64 a3), (.sl .int a4 false)] dSysD = alloc_then N a0 a1 a2 a3 a4 := by kernel_rfl
theorem e_r13_with (N : Nat) (a0 : Int) (a1 : Int) : evFn (c_r13_with N) 300 35 [(.i .i64 a0), (.i .i64 a1)] (dI .i64) = r13_with N a0 a1 := by kernel_rfl
theorem le_r13_bit_L0 (N : Nat) : LoopEq (c_r13_bit_L0 N) 59 0 300 Tryz.f59 0 [0, 3, 4] 0 r13_bit_L0_tp r13_bit_L0_op r13_bit_L0_k (A := Int) (B := Empty) ((.exit 0)) (sideD r13_bit_L0A_tp r13_bit_L0A_op r13_bit_L0A_k [3] []) (.goto 999999) (sideN) (r13_bit_L0_st N) := fun nx x => by kernel_rfl
theorem e_r04_In (N : Nat) (a0 : List Int) (a1 : Int) : evFn (c_r04_In N) 300 21 [(.sl .int a0 false), (.i .i64 a1)] dB = r04_In N a0 a1 := by kernel_rfl
theorem e_r02_At (N : Nat) (a0 : Int) (a1 : Int) : evFn (c_r02_At N) 300 27 [(.i .i64 a0), (.i .i64 a1)] (dI .i64) = r02_At N a0 a1 := by kernel_rfl
theorem e_rev_Ord (N : Nat) (a0 : Int) : evFn (c_rev_Ord N) 300 194 [(.i .i64 a0)] (dI .i64) = rev_Ord N a0 := by kernel_rfl
theorem e_port_isPort (N : Nat) (a0 : Int) : evFn (c_port_isPort N) 300 37 [(.i .i64 a0)] dB = port_isPort N a0 := by kernel_rfl
theorem e_list_cell (N : Nat) (a0 : Int) (a1 : Int) : evFn (c_list_cell N) 300 180 [(.i .i64 a0), (.i .i64 a1)] (dI .i64) = list_cell N a0 a1 := by kernel_rfl
theorem e_r01_Index (N : Nat) (a0 : Int) : evFn (c_r01_Index N) 300 25 [(.i .i64 a0)] (dI .i64) = r01_Index N a0 := by kernel_rfl
theorem e_slices_Contains_int (N : Nat) (a0 : List Int) (a1 : Int) : evFn (c_slices_Contains_int N) 300 168 [(.sl .int a0 false), (.i .i64 a1)] dB = slices_Contains_int N a0 a1 := by kernel_rfl
theorem e_haz_on (N : Nat) (a0 : SysD) (a1 : Int) (a2 : FrameD) (a3 : Int) : evFn (c_haz_on N) 300 173 [(eSysD a0), (.i .i64 a1), (eFrameD a2), (.i .i64 a3)] dSysD = haz_on N a0 a1 a2 a3 := by kernel_rfl
theorem e_pack_Tag (N : Nat) (a0 : Int) : evFn (c_pack_Tag N) 300 133 [(.i .i64 a0)] (dI .i64) = pack_Tag N a0 := by kernel_rfl
theorem e_haz_Place (N : Nat) (a0 : Int) (a1 : Int) : evFn (c_haz_Place N) 300 83 [(.i .i64 a0), (.i .i64 a1)] (dI .i64) = haz_Place N a0 a1 := by kernel_rfl
theorem e_pack_Index (N : Nat) (a0 : Int) : evFn (c_pack_Index N) 300 62 [(.i .i64 a0)] (dI .i64) = pack_Index N a0 := by kernel_rfl
theorem e_msq_Spot (N : Nat) (a0 : Int) : evFn (c_msq_Spot N) 300 78 [(.i .i64 a0)] (dI .i64) = msq_Spot N a0 := by kernel_rfl
theorem e_port_Idle_1 (N : Nat) (a0 : CoreD) : evFn (c_port_Idle_1 N) 300 41 [(eCoreD a0)] dB = port_Idle_1 N a0 := by kernel_rfl
theorem e_scan_steps_2 (N : Nat) (a0 : SysD) (a1 : Int) (a2 : FrameD) : evFn (c_scan_steps_2 N) 300 141 [(eSysD a0), (.i .i64 a1), (eFrameD a2)] dSysD = scan_steps_2 N a0 a1 a2 := by kernel_rfl
theorem e_table_Spot (N : Nat) (a0 : Int) : evFn (c_table_Spot N) 300 151 [(.i .i64 a0)] (dI .i64) = table_Spot N a0 := by kernel_rfl
theorem e_event_Spot (N : Nat) (a0 : Int) : evFn (c_event_Spot N) 300 107 [(.i .i64 a0)] (dI .i64) = event_Spot N a0 := by kernel_rfl
end Go.Hz
