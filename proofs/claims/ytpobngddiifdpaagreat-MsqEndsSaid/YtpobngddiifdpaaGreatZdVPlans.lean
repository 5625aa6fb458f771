/- Plans of the regions whose order is drawn. -/
import Derived.Test.YtpobngddiifdpaaGreatZdVData
set_option linter.unusedSimpArgs false
set_option linter.unusedVariables false
namespace Go.Proofs.YtpobngddiifdpaaGreat.V
abbrev yArr3 : TypeId := 59
abbrev yMem : TypeId := 24
abbrev ySys : TypeId := 28
abbrev yFrame : TypeId := 52
abbrev yInt : TypeId := 3
/-- hazel/hazellaw08.MsqEnds, region 12. -/
def p_hazellaw08_MsqEnds_12 : VPlan := .take 1 (.take 2 (.take 3 (.take 4 (.take 5 (.one 0 (.one 6 (.one 7 .done)))))))
def g_hazellaw08_MsqEnds_12 : List Nat := [13]
/-- hazel/hazellaw08.MsqEnds, region 37. -/
def p_hazellaw08_MsqEnds_37 : VPlan := .take 0 (.take 1 (.take 2 (.take 3 (.take 4 (.take 5 (.take 6 (.one 7 (.reck 8 (.one 9 (.one 10 (.reck 11 (.reck 12 .done))))))))))))
def g_hazellaw08_MsqEnds_37 : List Nat := [9, 13]
/-- hazel/msq.Make, region 6. -/
def p_msq_Make_6 : VPlan := .take 0 (.take 1 (.take 2 (.take 3 (.take 4 (.one 5 (.one 6 (.one 7 .done)))))))
def g_msq_Make_6 : List Nat := [2, 4, 10, 12, 14]
/-- hazel/msq.Make, region 7. -/
def p_msq_Make_7 : VPlan := .take 0 (.take 1 (.two 2 7 (.two 3 7 (.reck 4 (.reck 5 (.reck 6 (.one 7 (.one 8 (.one 9 .done)))))) (.one 3 (.reck 4 (.reck 5 (.reck 6 (.one 8 (.one 9 .done))))))) (.one 2 (.one 3 (.reck 4 (.reck 5 (.reck 6 (.one 8 (.one 9 .done)))))))))
def g_msq_Make_7 : List Nat := [2, 4, 9, 12, 14]
/-- hazel/msq.Make, region 9. -/
def p_msq_Make_9 : VPlan := .take 1 (.take 2 (.two 0 3 (.one 3 (.one 4 (.one 5 .done))) (.one 0 (.one 4 (.one 5 .done)))))
def g_msq_Make_9 : List Nat := [2, 4, 10, 12, 14]
/-- hazel/msq.Make, region 11. -/
def p_msq_Make_11 : VPlan := .take 0 (.take 1 (.two 2 7 (.two 3 7 (.reck 4 (.reck 5 (.reck 6 (.one 7 (.one 8 (.one 9 .done)))))) (.one 3 (.reck 4 (.reck 5 (.reck 6 (.one 8 (.one 9 .done))))))) (.one 2 (.one 3 (.reck 4 (.reck 5 (.reck 6 (.one 8 (.one 9 .done)))))))))
def g_msq_Make_11 : List Nat := [2, 4, 9, 10, 12]
/-- hazel/msq.Make, region 12. -/
def p_msq_Make_12 : VPlan := .take 1 (.take 3 (.two 0 2 (.one 2 (.one 4 (.one 5 (.one 6 .done)))) (.two 0 4 (.one 4 (.one 5 (.one 6 .done))) (.one 0 (.one 5 (.one 6 .done))))))
def g_msq_Make_12 : List Nat := [2, 4, 10, 12, 14]
/-- hazel/msq.Make, region 14. -/
def p_msq_Make_14 : VPlan := .take 1 (.take 3 (.two 0 2 (.one 2 (.one 4 (.one 5 .done))) (.one 0 (.one 4 (.one 5 .done)))))
def g_msq_Make_14 : List Nat := [2, 4, 10, 12, 14]
/-- hazel/msq.Make, region 15. -/
def p_msq_Make_15 : VPlan := .take 0 (.take 1 (.take 4 (.one 2 (.reck 3 (.one 5 (.take 6 (.one 7 .done)))))))
def g_msq_Make_15 : List Nat := [4, 9, 10, 12, 14]
/-- hazel/msq.Items, region 5. -/
def p_msq_Items_5 : VPlan := .take 0 (.take 1 (.take 2 (.take 3 (.one 4 (.reck 5 (.one 6 (.one 7 (.one 8 .done))))))))
def g_msq_Items_5 : List Nat := [2, 17, 53, 54]
/-- hazel/msq.Items, region 12. -/
def p_msq_Items_12 : VPlan := .take 0 (.take 1 (.take 2 (.take 3 (.take 4 (.one 5 (.reck 6 (.one 7 (.one 8 (.one 9 (.one 10 .done))))))))))
def g_msq_Items_12 : List Nat := [2]
/-- hazel/msq.Items, region 13. -/
def p_msq_Items_13 : VPlan := .take 0 (.take 1 (.take 2 (.take 3 (.one 4 (.reck 5 (.one 6 (.one 7 (.one 8 .done))))))))
def g_msq_Items_13 : List Nat := [2, 17, 53, 54]
/-- hazel/hazelref02.Ints, region 6. -/
def p_hazelref02_Ints_6 : VPlan := .take 0 (.take 1 (.take 2 (.take 3 (.take 4 (.take 5 (.take 6 (.take 7 (.take 8 .done))))))))
def g_hazelref02_Ints_6 : List Nat := []
/-- hazel/hazellaw08.start, region 4. -/
def p_hazellaw08_start_4 : VPlan := .take 0 (.take 1 (.take 2 (.take 3 (.take 4 (.take 5 (.take 6 (.take 7 (.take 8 (.take 9 (.take 10 (.take 11 (.take 12 (.take 13 (.take 14 (.take 15 (.take 16 (.take 17 (.take 18 (.take 19 (.take 20 (.take 21 (.take 22 (.take 23 (.take 24 (.take 25 (.take 26 (.take 27 (.take 28 (.take 29 (.take 30 (.take 31 (.take 32 (.one 33 (.one 34 .done))))))))))))))))))))))))))))))))))
def g_hazellaw08_start_4 : List Nat := [6, 7, 9]
/-- hazel/hazelref03.Top, region 3. -/
def p_hazelref03_Top_3 : VPlan := .take 0 (.take 1 (.take 2 (.take 3 (.take 4 (.take 5 (.take 6 (.take 7 (.take 8 (.take 9 (.take 10 (.take 11 (.take 12 (.take 13 (.take 14 (.take 15 (.one 16 (.one 17 .done)))))))))))))))))
def g_hazelref03_Top_3 : List Nat := [2]
/-- hazel/hazelref07.Parts, region 1. -/
def p_hazelref07_Parts_1 : VPlan := .take 0 (.take 2 (.take 4 (.one 1 (.one 3 (.one 5 (.one 6 (.one 7 (.one 8 .done))))))))
def g_hazelref07_Parts_1 : List Nat := [1]
/-- hazel/hazelref04.Walk, region 13. -/
def p_hazelref04_Walk_13 : VPlan := .take 0 (.take 1 (.two 2 7 (.two 3 7 (.reck 4 (.reck 5 (.reck 6 (.one 7 (.one 8 (.one 9 .done)))))) (.one 3 (.reck 4 (.reck 5 (.reck 6 (.one 8 (.one 9 .done))))))) (.one 2 (.one 3 (.reck 4 (.reck 5 (.reck 6 (.one 8 (.one 9 .done)))))))))
def g_hazelref04_Walk_13 : List Nat := [1, 5, 43, 44]
/-- hazel/hazelref04.New, region 4. -/
def p_hazelref04_New_4 : VPlan := .take 0 (.take 1 (.take 2 (.one 3 (.one 4 (.one 5 .done)))))
def g_hazelref04_New_4 : List Nat := [5]
/-- hazel/stack.Walk, region 10. -/
def p_stack_Walk_10 : VPlan := .take 0 (.take 1 (.one 2 (.one 3 (.reck 4 (.reck 5 (.reck 6 (.one 7 .done)))))))
def g_stack_Walk_10 : List Nat := [1, 6, 40, 41]
/-- hazel/mem.Load, region 4. -/
def p_mem_Load_4 : VPlan := .take 0 (.take 1 (.take 2 (.take 3 (.take 4 (.take 5 (.one 6 (.one 7 .done)))))))
def g_mem_Load_4 : List Nat := [2, 6]
/-- hazel/hazelref02.Store, region 5. -/
def p_hazelref02_Store_5 : VPlan := .take 0 (.take 1 (.take 2 (.take 3 (.take 4 (.one 5 (.reck 6 (.one 7 .done)))))))
def g_hazelref02_Store_5 : List Nat := [3, 22, 25]
/-- hazel/core.Top, region 3. -/
def p_core_Top_3 : VPlan := .take 0 (.take 1 (.take 2 (.take 3 (.take 4 (.take 5 (.take 6 (.take 7 (.take 8 (.take 9 (.take 10 (.take 11 (.take 12 (.take 13 (.take 14 (.take 15 (.one 16 (.one 17 .done)))))))))))))))))
def g_core_Top_3 : List Nat := [2]
/-- hazel/hazelref02.Load, region 1. -/
def p_hazelref02_Load_1 : VPlan := .take 0 (.take 1 (.take 2 (.take 3 (.take 4 (.take 5 (.two 6 8 (.reck 7 (.one 8 (.one 9 .done))) (.one 6 (.reck 7 (.one 9 .done)))))))))
def g_hazelref02_Load_1 : List Nat := [2, 4]
/-- hazel/hazelref02.Load, region 4. -/
def p_hazelref02_Load_4 : VPlan := .take 0 (.take 1 (.take 2 (.take 3 (.take 4 (.take 5 (.one 6 (.one 7 .done)))))))
def g_hazelref02_Load_4 : List Nat := [2, 6]
/-- hazel/hazelref03.New, region 4. -/
def p_hazelref03_New_4 : VPlan := .take 0 (.take 1 (.one 2 (.reck 3 (.one 4 (.one 5 .done)))))
def g_hazelref03_New_4 : List Nat := [6, 26]
/-- hazel/hazelref04.Fill, region 8. -/
def p_hazelref04_Fill_8 : VPlan := .take 1 (.take 3 (.two 0 2 (.one 2 (.one 4 (.one 5 .done))) (.one 0 (.one 4 (.one 5 .done)))))
def g_hazelref04_Fill_8 : List Nat := [2]
/-- hazel/pack.joined, region 5. -/
def p_pack_joined_5 : VPlan := .take 0 (.take 1 (.take 3 (.take 8 (.one 2 (.reck 4 (.reck 5 (.reck 6 (.reck 7 (.one 9 (.reck 10 (.reck 11 (.one 12 .done))))))))))))
def g_pack_joined_5 : List Nat := []
/-- hazel/pack.cut, region 1. -/
def p_pack_cut_1 : VPlan := .take 0 (.take 1 (.take 5 (.one 2 (.reck 3 (.one 4 (.reck 6 (.reck 7 (.reck 8 (.reck 9 (.one 10 .done))))))))))
def g_pack_cut_1 : List Nat := []
/-- hazel/scan.Step, region 2. -/
def p_scan_Step_2 : VPlan := .take 1 (.take 2 (.one 0 (.one 3 (.one 4 .done))))
def g_scan_Step_2 : List Nat := [2, 4, 5]
/-- hazel/hazelref02.New, region 3. -/
def p_hazelref02_New_3 : VPlan := .take 0 (.take 1 (.take 2 (.take 4 (.take 5 (.two 3 6 (.one 6 (.reck 7 (.one 8 (.one 9 .done)))) (.one 3 (.reck 7 (.one 8 (.one 9 .done)))))))))
def g_hazelref02_New_3 : List Nat := [14, 17]
/-- hazel/core.Back$1, region 0. -/
def p_core_Back_1_0 : VPlan := .take 0 (.take 1 (.take 2 (.take 3 (.take 4 (.take 5 (.take 7 (.take 8 (.take 9 (.take 14 (.take 15 (.two 6 10 (.one 10 (.reck 11 (.reck 12 (.reck 13 (.take 16 (.take 17 (.one 18 (.take 19 (.take 20 (.one 21 (.take 22 (.take 23 (.one 24 .done))))))))))))) (.reck 11 (.reck 12 (.one 6 (.reck 13 (.take 16 (.take 17 (.one 18 (.take 19 (.take 20 (.one 21 (.take 22 (.take 23 (.one 24 .done))))))))))))))))))))))))
/-- hazel/scan.retire, region 8. -/
def p_scan_retire_8 : VPlan := .take 1 (.take 2 (.take 4 (.take 5 (.take 6 (.three 0 3 7 (.two 3 7 (.one 7 (.one 8 (.one 9 (.one 10 .done)))) (.one 3 (.one 8 (.one 9 (.one 10 .done))))) (.two 0 7 (.one 7 (.one 8 (.one 9 (.one 10 .done)))) (.two 0 8 (.one 8 (.one 9 (.one 10 .done))) (.one 0 (.one 9 (.one 10 .done))))) (.two 0 3 (.one 3 (.one 8 (.one 9 (.one 10 .done)))) (.two 0 8 (.one 8 (.one 9 (.one 10 .done))) (.one 0 (.one 9 (.one 10 .done))))))))))
def g_scan_retire_8 : List Nat := [5, 6]
/-- hazel/scan.look, region 16. -/
def p_scan_look_16 : VPlan := .take 0 (.take 1 (.take 2 (.take 3 (.take 4 (.take 5 (.one 6 .done))))))
def g_scan_look_16 : List Nat := [3, 5, 6, 7, 39, 40, 100, 104, 105, 117]
/-- hazel/scan.look, region 18. -/
def p_scan_look_18 : VPlan := .take 1 (.take 2 (.take 3 (.take 4 (.take 5 (.take 6 (.take 7 (.take 8 (.take 9 (.two 0 10 (.one 10 (.one 11 (.one 12 (.one 13 .done)))) (.two 0 11 (.one 11 (.one 12 (.one 13 .done))) (.one 0 (.one 12 (.one 13 .done)))))))))))))
def g_scan_look_18 : List Nat := [5, 6, 7, 39, 40, 100, 104, 105, 117]
/-- hazel/scan.look, region 19. -/
def p_scan_look_19 : VPlan := .take 0 (.take 1 (.take 2 (.take 4 (.take 5 (.take 6 (.take 7 (.take 8 (.two 3 9 (.one 9 (.one 10 (.one 11 .done))) (.one 3 (.one 10 (.one 11 .done)))))))))))
def g_scan_look_19 : List Nat := [3, 5, 7, 39, 40, 100, 104, 105, 117]
/-- hazel/haz.Step, region 5. -/
def p_haz_Step_5 : VPlan := .take 0 (.take 2 (.take 3 (.take 4 (.two 1 5 (.one 5 (.one 6 (.take 7 (.one 8 .done)))) (.one 1 (.one 6 (.take 7 (.one 8 .done))))))))
def g_haz_Step_5 : List Nat := [4, 5]
/-- hazel/core.Call$1, region 0. -/
def p_core_Call_1_0 : VPlan := .take 0 (.take 1 (.take 2 (.take 3 (.take 6 (.two 4 7 (.two 5 7 (.one 7 (.one 8 (.take 9 (.take 10 (.one 11 .done))))) (.one 5 (.one 8 (.take 9 (.take 10 (.one 11 .done)))))) (.one 4 (.one 5 (.one 8 (.take 9 (.take 10 (.one 11 .done)))))))))))
/-- hazel/stack.pop, region 8. -/
def p_stack_pop_8 : VPlan := .take 0 (.take 2 (.take 3 (.take 13 (.two 1 4 (.one 4 (.one 5 (.one 6 (.one 7 (.reck 8 (.reck 9 (.reck 10 (.take 11 (.one 12 (.take 14 (.one 15 .done))))))))))) (.two 1 5 (.one 5 (.one 6 (.one 7 (.reck 8 (.reck 9 (.reck 10 (.take 11 (.one 12 (.take 14 (.one 15 .done)))))))))) (.two 1 6 (.one 6 (.one 7 (.reck 8 (.reck 9 (.reck 10 (.take 11 (.one 12 (.take 14 (.one 15 .done))))))))) (.one 1 (.one 7 (.reck 8 (.reck 9 (.reck 10 (.take 11 (.one 12 (.take 14 (.one 15 .done)))))))))))))))
def g_stack_pop_8 : List Nat := [6, 7]
/-- hazel/stack.pop, region 11. -/
def p_stack_pop_11 : VPlan := .take 0 (.take 1 (.take 2 (.take 3 (.take 4 (.take 5 (.take 6 (.take 7 (.take 8 (.take 9 (.take 10 (.two 11 16 (.two 12 16 (.reck 13 (.reck 14 (.reck 15 (.one 16 (.one 17 (.one 18 .done)))))) (.one 12 (.reck 13 (.reck 14 (.reck 15 (.one 17 (.one 18 .done))))))) (.one 11 (.one 12 (.reck 13 (.reck 14 (.reck 15 (.one 17 (.one 18 .done))))))))))))))))))
def g_stack_pop_11 : List Nat := [3, 5, 6]
/-- hazel/stack.push, region 6. -/
def p_stack_push_6 : VPlan := .take 0 (.take 2 (.take 3 (.take 4 (.take 6 (.take 7 (.take 8 (.two 1 5 (.one 5 (.one 9 (.one 10 (.take 11 (.one 12 .done))))) (.two 1 9 (.one 9 (.one 10 (.take 11 (.one 12 .done)))) (.one 1 (.one 10 (.take 11 (.one 12 .done))))))))))))
def g_stack_push_6 : List Nat := [5, 6, 7]
/-- hazel/stack.push, region 9. -/
def p_stack_push_9 : VPlan := .take 0 (.take 1 (.take 2 (.take 3 (.take 4 (.take 5 (.take 6 (.take 7 (.take 8 (.take 9 (.take 10 (.two 11 16 (.two 12 16 (.reck 13 (.reck 14 (.reck 15 (.one 16 (.one 17 (.one 18 .done)))))) (.one 12 (.reck 13 (.reck 14 (.reck 15 (.one 17 (.one 18 .done))))))) (.one 11 (.one 12 (.reck 13 (.reck 14 (.reck 15 (.one 17 (.one 18 .done))))))))))))))))))
def g_stack_push_9 : List Nat := [3, 5, 6]
/-- hazel/haz.prot, region 8. -/
def p_haz_prot_8 : VPlan := .take 0 (.take 2 (.take 3 (.take 4 (.take 5 (.take 7 (.take 8 (.take 9 (.two 1 6 (.one 6 (.one 10 (.one 11 (.take 12 (.one 13 .done))))) (.two 1 10 (.one 10 (.one 11 (.take 12 (.one 13 .done)))) (.one 1 (.one 11 (.take 12 (.one 13 .done)))))))))))))
def g_haz_prot_8 : List Nat := [5, 6]
end Go.Proofs.YtpobngddiifdpaaGreat.V
