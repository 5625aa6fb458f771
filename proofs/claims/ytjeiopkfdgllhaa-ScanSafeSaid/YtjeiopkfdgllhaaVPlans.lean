/- Plans of the regions whose order is drawn. -/
import Derived.Test.YtjeiopkfdgllhaaVData
set_option linter.unusedSimpArgs false
set_option linter.unusedVariables false
namespace Go.Proofs.Ytjeiopkfdgllhaa.V
abbrev yArr3 : TypeId := 49
abbrev yMem : TypeId := 26
abbrev ySys : TypeId := 30
abbrev yCore : TypeId := 51
abbrev yFrame : TypeId := 44
abbrev yInt : TypeId := 3
/-- hazel/hazellaw06.ScanSafe, region 12. -/
def p_hazellaw06_ScanSafe_12 : VPlan := .take 0 (.take 1 (.take 2 (.take 3 (.take 4 (.take 5 (.take 6 (.take 7 (.take 8 (.take 9 (.three 10 14 15 (.reck 11 (.reck 12 (.reck 13 (.two 14 15 (.one 15 (.one 16 (.one 17 .done))) (.one 14 (.one 16 (.one 17 .done))))))) (.two 10 15 (.reck 11 (.reck 12 (.reck 13 (.one 15 (.one 16 (.one 17 .done)))))) (.one 10 (.reck 11 (.reck 12 (.reck 13 (.one 16 (.one 17 .done))))))) (.two 10 14 (.reck 11 (.reck 12 (.reck 13 (.one 14 (.one 16 (.one 17 .done)))))) (.one 10 (.reck 11 (.reck 12 (.reck 13 (.one 16 (.one 17 .done)))))))))))))))))
def g_hazellaw06_ScanSafe_12 : List Nat := [9, 13, 22, 40, 149]
/-- hazel/hazellaw06.ScanSafe, region 23. -/
def p_hazellaw06_ScanSafe_23 : VPlan := .take 0 (.take 1 (.take 2 (.take 3 (.take 4 (.take 5 (.take 6 (.take 7 (.take 8 (.take 9 (.take 10 (.take 11 (.take 12 (.take 13 (.take 14 (.take 15 (.take 16 (.take 17 (.take 18 (.take 19 (.take 20 (.take 21 (.take 22 (.take 23 (.take 24 (.take 25 (.take 26 (.take 27 (.take 28 (.take 29 (.take 30 (.take 31 (.take 32 (.take 33 (.take 34 (.take 35 (.one 36 (.reck 37 .done)))))))))))))))))))))))))))))))))))))
def g_hazellaw06_ScanSafe_23 : List Nat := [9, 13, 14, 15, 22, 40, 149]
/-- hazel/hazellaw06.ScanSafe, region 31. -/
def p_hazellaw06_ScanSafe_31 : VPlan := .take 0 (.take 1 (.take 2 (.take 3 (.take 4 (.take 5 (.take 6 (.take 7 (.one 8 (.reck 9 .done)))))))))
def g_hazellaw06_ScanSafe_31 : List Nat := [9, 13, 14, 15, 22, 40, 149]
/-- hazel/hazellaw06.ScanRetires, region 14. -/
def p_hazellaw06_ScanRetires_14 : VPlan := .take 0 (.take 1 (.take 2 (.take 3 (.take 4 (.take 5 (.take 6 (.take 7 (.take 8 (.take 9 (.take 10 (.take 11 (.take 12 (.take 13 (.take 14 (.take 15 (.take 16 (.take 17 (.take 18 (.take 19 (.take 20 (.take 21 (.take 22 (.take 23 (.one 24 .done))))))))))))))))))))))))
def g_hazellaw06_ScanRetires_14 : List Nat := [3, 10, 13, 79, 86, 88, 89]
/-- hazel/hazellaw06.ScanRetires, region 15. -/
def p_hazellaw06_ScanRetires_15 : VPlan := .take 0 (.take 1 (.take 2 (.take 3 (.take 4 (.take 5 (.take 6 (.one 7 (.reck 8 (.reck 9 (.take 10 (.take 11 (.take 12 (.reck 13 (.reck 14 (.take 15 (.take 16 (.take 17 (.take 18 (.take 19 (.take 20 (.take 21 (.take 22 (.take 23 (.take 24 (.take 25 (.take 26 (.take 27 (.take 28 (.take 29 (.take 30 (.take 31 (.take 32 (.take 33 (.take 34 (.take 35 (.take 36 (.take 37 (.take 38 (.take 39 (.take 40 (.take 41 (.take 42 (.take 43 (.reck 44 .done))))))))))))))))))))))))))))))))))))))))))))
def g_hazellaw06_ScanRetires_15 : List Nat := [3, 10, 13, 79, 86, 88, 89]
/-- hazel/hazellaw06.ScanRetires, region 17. -/
def p_hazellaw06_ScanRetires_17 : VPlan := .take 0 (.take 1 (.take 2 (.take 3 (.take 4 (.take 5 (.take 6 (.take 7 (.take 8 (.take 9 (.take 10 (.take 11 (.take 12 (.take 13 (.take 14 (.take 15 (.take 16 (.take 17 (.take 18 (.take 19 (.take 20 (.take 21 (.take 22 (.take 23 (.take 24 (.take 25 (.take 26 (.take 27 (.take 28 (.take 29 (.take 30 (.take 31 (.take 32 (.take 33 (.take 34 (.take 37 (.one 35 (.reck 36 (.one 38 (.reck 39 (.reck 40 (.reck 41 (.reck 42 (.one 43 .done)))))))))))))))))))))))))))))))))))))))))))
def g_hazellaw06_ScanRetires_17 : List Nat := [3, 10, 13, 79, 86, 88, 89]
/-- hazel/hazellaw06.ScanSees, region 18. -/
def p_hazellaw06_ScanSees_18 : VPlan := .take 0 (.take 1 (.take 2 (.take 3 (.take 4 (.take 5 (.take 6 (.one 7 (.reck 8 (.one 9 (.one 10 .done))))))))))
def g_hazellaw06_ScanSees_18 : List Nat := [3, 10, 12, 62, 82, 83]
/-- hazel/hazellaw07.AllocParts, region 25. -/
def p_hazellaw07_AllocParts_25 : VPlan := .take 0 (.take 1 (.take 2 (.take 3 (.take 4 (.take 5 (.take 6 (.take 7 (.take 8 (.take 9 (.take 10 (.take 11 (.take 12 .done))))))))))))
def g_hazellaw07_AllocParts_25 : List Nat := [2, 12]
/-- hazel/hazellaw07.AllocSafe, region 23. -/
def p_hazellaw07_AllocSafe_23 : VPlan := .take 1 (.take 2 (.take 3 (.take 4 (.take 5 (.take 6 (.take 7 (.take 8 (.one 0 (.one 9 (.one 10 .done))))))))))
def g_hazellaw07_AllocSafe_23 : List Nat := [16, 20, 66, 68, 127, 197, 198]
/-- hazel/hazellaw07.AllocSafe, region 34. -/
def p_hazellaw07_AllocSafe_34 : VPlan := .take 0 (.take 1 (.take 2 (.take 3 (.take 4 (.take 6 (.take 7 (.take 8 (.take 9 (.take 10 (.take 11 (.two 5 12 (.one 12 (.one 13 (.take 14 (.one 15 .done)))) (.one 5 (.one 13 (.take 14 (.one 15 .done)))))))))))))))
def g_hazellaw07_AllocSafe_34 : List Nat := [10, 16, 20]
/-- hazel/hazelref04.New, region 4. -/
def p_hazelref04_New_4 : VPlan := .take 0 (.take 1 (.take 2 (.one 3 (.one 4 (.one 5 .done)))))
def g_hazelref04_New_4 : List Nat := [5]
/-- hazel/hazellaw06.turn, region 3. -/
def p_hazellaw06_turn_3 : VPlan := .take 0 (.take 1 (.take 3 (.one 2 (.one 4 (.one 5 .done)))))
def g_hazellaw06_turn_3 : List Nat := [4, 6, 10, 12, 14, 18]
/-- hazel/hazellaw06.turn, region 12. -/
def p_hazellaw06_turn_12 : VPlan := .take 0 (.take 1 (.take 2 (.take 3 (.take 4 (.take 5 (.take 6 (.take 7 (.one 8 (.one 9 .done)))))))))
def g_hazellaw06_turn_12 : List Nat := [4, 6, 10, 12, 14, 18]
/-- hazel/hazellaw06.turn, region 14. -/
def p_hazellaw06_turn_14 : VPlan := .take 0 (.take 1 (.take 2 (.take 3 (.take 4 (.take 6 (.take 7 (.take 10 (.take 11 (.take 12 (.one 5 (.one 8 (.one 9 (.one 13 (.one 14 .done))))))))))))))
def g_hazellaw06_turn_14 : List Nat := [4, 6, 10, 12, 14, 18]
/-- hazel/hazellaw06.turn, region 17. -/
def p_hazellaw06_turn_17 : VPlan := .take 0 (.take 1 (.take 3 (.take 4 (.take 5 (.take 6 (.one 2 (.one 7 (.one 8 .done))))))))
def g_hazellaw06_turn_17 : List Nat := [4, 6, 10, 12, 14, 18]
/-- hazel/hazellaw06.turn, region 19. -/
def p_hazellaw06_turn_19 : VPlan := .take 0 (.take 1 (.take 2 (.take 3 (.take 4 (.take 5 (.take 6 (.take 7 (.two 8 13 (.two 9 13 (.reck 10 (.reck 11 (.reck 12 (.one 13 (.one 14 (.one 15 .done)))))) (.one 9 (.reck 10 (.reck 11 (.reck 12 (.one 14 (.one 15 .done))))))) (.one 8 (.one 9 (.reck 10 (.reck 11 (.reck 12 (.one 14 (.one 15 .done)))))))))))))))
def g_hazellaw06_turn_19 : List Nat := [4, 6, 8, 9, 10, 12, 18]
/-- hazel/hazellaw06.turn, region 22. -/
def p_hazellaw06_turn_22 : VPlan := .take 0 (.take 1 (.take 2 (.take 3 (.one 4 (.one 5 .done)))))
def g_hazellaw06_turn_22 : List Nat := [4, 6, 10, 12, 14, 18]
/-- hazel/hazellaw06.turn, region 33. -/
def p_hazellaw06_turn_33 : VPlan := .take 0 (.take 1 (.take 2 (.take 3 (.two 4 9 (.two 5 9 (.reck 6 (.reck 7 (.reck 8 (.one 9 (.one 10 (.one 11 .done)))))) (.one 5 (.reck 6 (.reck 7 (.reck 8 (.one 10 (.one 11 .done))))))) (.one 4 (.one 5 (.reck 6 (.reck 7 (.reck 8 (.one 10 (.one 11 .done)))))))))))
def g_hazellaw06_turn_33 : List Nat := [4, 6, 8, 9, 10, 12, 14]
/-- hazel/hazellaw06.turn, region 34. -/
def p_hazellaw06_turn_34 : VPlan := .take 0 (.take 1 (.take 3 (.take 4 (.take 5 (.take 6 (.one 2 (.one 7 (.one 8 .done))))))))
def g_hazellaw06_turn_34 : List Nat := [4, 6, 10, 12, 14, 18]
/-- hazel/hazelref04.Walk, region 13. -/
def p_hazelref04_Walk_13 : VPlan := .take 0 (.take 1 (.two 2 7 (.two 3 7 (.reck 4 (.reck 5 (.reck 6 (.one 7 (.one 8 (.one 9 .done)))))) (.one 3 (.reck 4 (.reck 5 (.reck 6 (.one 8 (.one 9 .done))))))) (.one 2 (.one 3 (.reck 4 (.reck 5 (.reck 6 (.one 8 (.one 9 .done)))))))))
def g_hazelref04_Walk_13 : List Nat := [1, 5, 43, 44]
/-- hazel/hazelref03.Top, region 3. -/
def p_hazelref03_Top_3 : VPlan := .take 0 (.take 1 (.take 2 (.take 3 (.take 4 (.take 5 (.take 6 (.take 7 (.take 8 (.take 9 (.take 10 (.take 11 (.take 12 (.take 13 (.take 14 (.take 15 (.one 16 (.one 17 .done)))))))))))))))))
def g_hazelref03_Top_3 : List Nat := [2]
/-- hazel/scan.Step, region 2. -/
def p_scan_Step_2 : VPlan := .take 1 (.take 2 (.one 0 (.one 3 (.one 4 .done))))
def g_scan_Step_2 : List Nat := [2, 4, 5]
/-- hazel/hazelref02.Ints, region 6. -/
def p_hazelref02_Ints_6 : VPlan := .take 0 (.take 1 (.take 2 (.take 3 (.take 4 (.take 5 (.take 6 (.take 7 (.take 8 .done))))))))
def g_hazelref02_Ints_6 : List Nat := []
/-- hazel/alloc.Parts, region 2. -/
def p_alloc_Parts_2 : VPlan := .take 0 (.take 3 (.take 5 (.one 1 (.reck 2 (.one 4 (.one 6 (.one 7 (.one 8 (.one 9 .done)))))))))
def g_alloc_Parts_2 : List Nat := [1, 9]
/-- hazel/hazelref03.New, region 4. -/
def p_hazelref03_New_4 : VPlan := .take 0 (.take 1 (.one 2 (.reck 3 (.one 4 (.one 5 .done)))))
def g_hazelref03_New_4 : List Nat := [6, 26]
/-- hazel/hazelref04.Fill, region 8. -/
def p_hazelref04_Fill_8 : VPlan := .take 1 (.take 3 (.two 0 2 (.one 2 (.one 4 (.one 5 .done))) (.one 0 (.one 4 (.one 5 .done)))))
def g_hazelref04_Fill_8 : List Nat := [2]
/-- hazel/hazelref02.Store, region 5. -/
def p_hazelref02_Store_5 : VPlan := .take 0 (.take 1 (.take 2 (.take 3 (.take 4 (.one 5 (.reck 6 (.one 7 .done)))))))
def g_hazelref02_Store_5 : List Nat := [3, 22, 25]
/-- hazel/hazelref02.Load, region 1. -/
def p_hazelref02_Load_1 : VPlan := .take 0 (.take 1 (.take 2 (.take 3 (.take 4 (.take 5 (.two 6 8 (.reck 7 (.one 8 (.one 9 .done))) (.one 6 (.reck 7 (.one 9 .done)))))))))
def g_hazelref02_Load_1 : List Nat := [2, 4]
/-- hazel/hazelref02.Load, region 4. -/
def p_hazelref02_Load_4 : VPlan := .take 0 (.take 1 (.take 2 (.take 3 (.take 4 (.take 5 (.one 6 (.one 7 .done)))))))
def g_hazelref02_Load_4 : List Nat := [2, 6]
/-- hazel/core.Top, region 3. -/
def p_core_Top_3 : VPlan := .take 0 (.take 1 (.take 2 (.take 3 (.take 4 (.take 5 (.take 6 (.take 7 (.take 8 (.take 9 (.take 10 (.take 11 (.take 12 (.take 13 (.take 14 (.take 15 (.one 16 (.one 17 .done)))))))))))))))))
def g_core_Top_3 : List Nat := [2]
/-- hazel/core.New, region 4. -/
def p_core_New_4 : VPlan := .take 0 (.take 1 (.one 2 (.reck 3 (.one 4 (.one 5 .done)))))
def g_core_New_4 : List Nat := [6, 26]
/-- hazel/stack.Fill, region 5. -/
def p_stack_Fill_5 : VPlan := .take 1 (.take 3 (.take 4 (.take 5 (.take 6 (.take 7 (.two 0 2 (.one 2 (.one 8 (.one 9 .done))) (.one 0 (.one 8 (.one 9 .done)))))))))
def g_stack_Fill_5 : List Nat := [2]
/-- hazel/hazelref02.New, region 3. -/
def p_hazelref02_New_3 : VPlan := .take 0 (.take 1 (.take 2 (.take 4 (.take 5 (.two 3 6 (.one 6 (.reck 7 (.one 8 (.one 9 .done)))) (.one 3 (.reck 7 (.one 8 (.one 9 .done)))))))))
def g_hazelref02_New_3 : List Nat := [14, 17]
/-- hazel/scan.retire, region 8. -/
def p_scan_retire_8 : VPlan := .take 1 (.take 2 (.take 4 (.take 5 (.take 6 (.three 0 3 7 (.two 3 7 (.one 7 (.one 8 (.one 9 (.one 10 .done)))) (.one 3 (.one 8 (.one 9 (.one 10 .done))))) (.two 0 7 (.one 7 (.one 8 (.one 9 (.one 10 .done)))) (.two 0 8 (.one 8 (.one 9 (.one 10 .done))) (.one 0 (.one 9 (.one 10 .done))))) (.two 0 3 (.one 3 (.one 8 (.one 9 (.one 10 .done)))) (.two 0 8 (.one 8 (.one 9 (.one 10 .done))) (.one 0 (.one 9 (.one 10 .done))))))))))
def g_scan_retire_8 : List Nat := [5, 6]
/-- hazel/scan.look, region 16. -/
def p_scan_look_16 : VPlan := .take 0 (.take 1 (.take 2 (.take 3 (.take 4 (.take 5 (.one 6 .done))))))
def g_scan_look_16 : List Nat := [3, 5, 6, 7, 39, 40, 100, 104, 105, 117]
/-- hazel/scan.look, region 18. -/
def p_scan_look_18 : VPlan := .take 1 (.take 2 (.take 3 (.take 4 (.take 5 (.take 6 (.take 7 (.take 8 (.take 9 (.two 0 10 (.one 10 (.one 11 (.one 12 (.one 13 .done)))) (.two 0 11 (.one 11 (.one 12 (.one 13 .done))) (.one 0 (.one 12 (.one 13 .done)))))))))))))
def g_scan_look_18 : List Nat := [5, 6, 7, 39, 40, 100, 104, 105, 117]
/-- hazel/scan.look, region 19. -/
def p_scan_look_19 : VPlan := .take 0 (.take 1 (.take 2 (.take 4 (.take 5 (.take 6 (.take 7 (.take 8 (.two 3 9 (.one 9 (.one 10 (.one 11 .done))) (.one 3 (.one 10 (.one 11 .done)))))))))))
def g_scan_look_19 : List Nat := [3, 5, 7, 39, 40, 100, 104, 105, 117]
/-- hazel/haz.Step, region 5. -/
def p_haz_Step_5 : VPlan := .take 0 (.take 2 (.take 3 (.take 4 (.two 1 5 (.one 5 (.one 6 (.take 7 (.one 8 .done)))) (.one 1 (.one 6 (.take 7 (.one 8 .done))))))))
def g_haz_Step_5 : List Nat := [4, 5]
/-- hazel/core.Back$1, region 0. -/
def p_core_Back_1_0 : VPlan := .take 0 (.take 1 (.take 2 (.take 3 (.take 4 (.take 5 (.take 7 (.take 8 (.take 9 (.take 14 (.take 15 (.two 6 10 (.one 10 (.reck 11 (.reck 12 (.reck 13 (.take 16 (.take 17 (.one 18 (.take 19 (.take 20 (.one 21 (.take 22 (.take 23 (.one 24 .done))))))))))))) (.reck 11 (.reck 12 (.one 6 (.reck 13 (.take 16 (.take 17 (.one 18 (.take 19 (.take 20 (.one 21 (.take 22 (.take 23 (.one 24 .done))))))))))))))))))))))))
def g_core_Back_1_0 : List Nat := []
/-- hazel/mem.New, region 3. -/
def p_mem_New_3 : VPlan := .take 0 (.take 1 (.take 2 (.take 4 (.take 5 (.two 3 6 (.one 6 (.reck 7 (.one 8 (.one 9 .done)))) (.one 3 (.reck 7 (.one 8 (.one 9 .done)))))))))
def g_mem_New_3 : List Nat := [14, 17]
/-- hazel/mem.Load, region 4. -/
def p_mem_Load_4 : VPlan := .take 0 (.take 1 (.take 2 (.take 3 (.take 4 (.take 5 (.one 6 (.one 7 .done)))))))
def g_mem_Load_4 : List Nat := [2, 6]
/-- hazel/stack.pop, region 8. -/
def p_stack_pop_8 : VPlan := .take 0 (.take 2 (.take 3 (.take 13 (.two 1 4 (.one 4 (.one 5 (.one 6 (.one 7 (.reck 8 (.reck 9 (.reck 10 (.take 11 (.one 12 (.take 14 (.one 15 .done))))))))))) (.two 1 5 (.one 5 (.one 6 (.one 7 (.reck 8 (.reck 9 (.reck 10 (.take 11 (.one 12 (.take 14 (.one 15 .done)))))))))) (.two 1 6 (.one 6 (.one 7 (.reck 8 (.reck 9 (.reck 10 (.take 11 (.one 12 (.take 14 (.one 15 .done))))))))) (.one 1 (.one 7 (.reck 8 (.reck 9 (.reck 10 (.take 11 (.one 12 (.take 14 (.one 15 .done)))))))))))))))
def g_stack_pop_8 : List Nat := [6, 7]
/-- hazel/stack.pop, region 11. -/
def p_stack_pop_11 : VPlan := .take 0 (.take 1 (.take 2 (.take 3 (.take 4 (.take 5 (.take 6 (.take 7 (.take 8 (.take 9 (.take 10 (.two 11 16 (.two 12 16 (.reck 13 (.reck 14 (.reck 15 (.one 16 (.one 17 (.one 18 .done)))))) (.one 12 (.reck 13 (.reck 14 (.reck 15 (.one 17 (.one 18 .done))))))) (.one 11 (.one 12 (.reck 13 (.reck 14 (.reck 15 (.one 17 (.one 18 .done))))))))))))))))))
def g_stack_pop_11 : List Nat := [3, 5, 6]
/-- hazel/stack.push, region 6. -/
def p_stack_push_6 : VPlan := .take 0 (.take 2 (.take 3 (.take 4 (.take 6 (.take 7 (.take 8 (.two 1 5 (.one 5 (.one 9 (.one 10 (.take 11 (.one 12 .done))))) (.two 1 9 (.one 9 (.one 10 (.take 11 (.one 12 .done)))) (.one 1 (.one 10 (.take 11 (.one 12 .done))))))))))))
def g_stack_push_6 : List Nat := [5, 6, 7]
/-- hazel/stack.push, region 9. -/
def p_stack_push_9 : VPlan := .take 0 (.take 1 (.take 2 (.take 3 (.take 4 (.take 5 (.take 6 (.take 7 (.take 8 (.take 9 (.take 10 (.two 11 16 (.two 12 16 (.reck 13 (.reck 14 (.reck 15 (.one 16 (.one 17 (.one 18 .done)))))) (.one 12 (.reck 13 (.reck 14 (.reck 15 (.one 17 (.one 18 .done))))))) (.one 11 (.one 12 (.reck 13 (.reck 14 (.reck 15 (.one 17 (.one 18 .done))))))))))))))))))
def g_stack_push_9 : List Nat := [3, 5, 6]
/-- hazel/haz.prot, region 8. -/
def p_haz_prot_8 : VPlan := .take 0 (.take 2 (.take 3 (.take 4 (.take 5 (.take 7 (.take 8 (.take 9 (.two 1 6 (.one 6 (.one 10 (.one 11 (.take 12 (.one 13 .done))))) (.two 1 10 (.one 10 (.one 11 (.take 12 (.one 13 .done)))) (.one 1 (.one 11 (.take 12 (.one 13 .done)))))))))))))
def g_haz_prot_8 : List Nat := [5, 6]
/-- hazel/core.Call$1, region 0. -/
def p_core_Call_1_0 : VPlan := .take 0 (.take 1 (.take 2 (.take 3 (.take 6 (.two 4 7 (.two 5 7 (.one 7 (.one 8 (.take 9 (.take 10 (.one 11 .done))))) (.one 5 (.one 8 (.take 9 (.take 10 (.one 11 .done)))))) (.one 4 (.one 5 (.one 8 (.take 9 (.take 10 (.one 11 .done)))))))))))
def g_core_Call_1_0 : List Nat := []
/-- hazel/core.Set$1, region 1. -/
def p_core_Set_1_1 : VPlan := .take 0 (.take 1 (.take 2 (.take 3 (.take 4 (.take 5 (.take 6 (.take 7 (.take 8 (.take 9 (.take 10 (.take 11 (.one 12 .done))))))))))))
def g_core_Set_1_1 : List Nat := []
/-- hazel/pack.joined, region 5. -/
def p_pack_joined_5 : VPlan := .take 0 (.take 1 (.take 3 (.take 8 (.one 2 (.reck 4 (.reck 5 (.reck 6 (.reck 7 (.one 9 (.reck 10 (.reck 11 (.one 12 .done))))))))))))
def g_pack_joined_5 : List Nat := []
/-- hazel/pack.cut, region 1. -/
def p_pack_cut_1 : VPlan := .take 0 (.take 1 (.take 5 (.one 2 (.reck 3 (.one 4 (.reck 6 (.reck 7 (.reck 8 (.reck 9 (.one 10 .done))))))))))
def g_pack_cut_1 : List Nat := []
end Go.Proofs.Ytjeiopkfdgllhaa.V
