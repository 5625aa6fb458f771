/- Plans of the regions whose order is drawn. -/
import Derived.Test.YtpobngddiifdpaaGreatZbVData
set_option linter.unusedSimpArgs false
set_option linter.unusedVariables false
namespace Go.Proofs.YtpobngddiifdpaaGreat.V
abbrev yArr3 : TypeId := 59
abbrev yMem : TypeId := 24
abbrev ySys : TypeId := 28
abbrev yCore : TypeId := 61
abbrev yFrame : TypeId := 52
abbrev yInt : TypeId := 3
/-- hazel/hazellaw08.MsqTells, region 14. -/
def p_hazellaw08_MsqTells_14 : VPlan := .take 0 (.take 1 (.take 2 (.take 3 (.take 5 (.take 6 (.one 4 (.one 7 (.one 8 (.reck 9 (.one 10 .done))))))))))
def g_hazellaw08_MsqTells_14 : List Nat := [1, 3, 8, 10]
/-- hazel/hazellaw08.MsqOnce, region 15. -/
def p_hazellaw08_MsqOnce_15 : VPlan := .take 1 (.take 2 (.take 3 (.take 4 (.take 5 (.one 0 (.one 6 (.one 7 .done)))))))
def g_hazellaw08_MsqOnce_15 : List Nat := [14, 16, 20, 43, 112, 147, 148]
/-- hazel/hazellaw08.MsqOnce, region 19. -/
def p_hazellaw08_MsqOnce_19 : VPlan := .take 0 (.take 1 (.take 2 (.take 3 (.take 4 (.take 5 (.take 6 (.take 7 (.take 8 (.take 9 (.take 10 (.take 11 (.take 12 (.take 13 (.take 14 .done))))))))))))))
def g_hazellaw08_MsqOnce_19 : List Nat := [9, 14, 16, 20, 43, 112, 147, 148]
/-- hazel/hazellaw08.MsqOnce, region 31. -/
def p_hazellaw08_MsqOnce_31 : VPlan := .take 0 (.take 1 (.take 2 (.take 3 (.take 4 (.take 5 (.take 6 (.take 7 (.take 8 (.take 9 (.take 10 (.one 11 .done)))))))))))
def g_hazellaw08_MsqOnce_31 : List Nat := [9, 14, 16, 43, 112, 147, 148]
/-- hazel/hazellaw08.MsqOnce, region 35. -/
def p_hazellaw08_MsqOnce_35 : VPlan := .take 0 (.take 1 (.take 2 (.take 3 (.take 4 (.take 5 (.take 6 (.take 7 (.take 8 (.take 9 (.take 10 (.take 11 (.take 12 (.take 13 (.take 14 (.take 15 (.take 16 (.take 17 (.take 18 (.take 19 (.take 20 (.take 21 (.take 22 (.take 23 (.take 24 (.take 25 (.take 26 (.take 27 (.take 28 (.take 29 (.take 30 .done))))))))))))))))))))))))))))))
def g_hazellaw08_MsqOnce_35 : List Nat := [9, 14, 16, 20, 43, 112, 147, 148]
/-- hazel/msq.Make, region 6. -/
def p_msq_Make_6 : VPlan := .take 0 (.take 1 (.take 2 (.take 3 (.take 4 (.one 5 (.one 6 (.one 7 .done)))))))
def g_msq_Make_6 : List Nat := [2, 4, 10, 12, 14]
/-- hazel/msq.Make, region 7. -/
def p_msq_Make_7 : VPlan := .take 0 (.take 1 (.two 2 7 (.two 3 7 (.reck 4 (.reck 5 (.reck 6 (.one 7 (.one 8 (.one 9 .done)))))) (.one 3 (.reck 4 (.reck 5 (.reck 6 (.one 8 (.one 9 .done))))))) (.one 2 (.one 3 (.reck 4 (.reck 5 (.reck 6 (.one 8 (.one 9 .done)))))))))
def g_msq_Make_7 : List Nat := [2, 4, 9, 12, 14]
/-- hazel/msq.Make, region 9. -/
def p_msq_Make_9 : VPlan := .take 1 (.take 2 (.two 0 3 (.one 3 (.one 4 (.one 5 .done))) (.one 0 (.one 4 (.one 5 .done)))))
def g_msq_Make_9 : List Nat := [2, 4, 10, 12, 14]
/-- hazel/msq.Make, region 11. -/
def p_msq_Make_11 : VPlan := .take 0 (.take 1 (.two 2 7 (.two 3 7 (.reck 4 (.reck 5 (.reck 6 (.one 7 (.one 8 (.one 9 .done)))))) (.one 3 (.reck 4 (.reck 5 (.reck 6 (.one 8 (.one 9 .done))))))) (.one 2 (.one 3 (.reck 4 (.reck 5 (.reck 6 (.one 8 (.one 9 .done)))))))))
def g_msq_Make_11 : List Nat := [2, 4, 9, 10, 12]
/-- hazel/msq.Make, region 12. -/
def p_msq_Make_12 : VPlan := .take 1 (.take 3 (.two 0 2 (.one 2 (.one 4 (.one 5 (.one 6 .done)))) (.two 0 4 (.one 4 (.one 5 (.one 6 .done))) (.one 0 (.one 5 (.one 6 .done))))))
def g_msq_Make_12 : List Nat := [2, 4, 10, 12, 14]
/-- hazel/msq.Make, region 14. -/
def p_msq_Make_14 : VPlan := .take 1 (.take 3 (.two 0 2 (.one 2 (.one 4 (.one 5 .done))) (.one 0 (.one 4 (.one 5 .done)))))
def g_msq_Make_14 : List Nat := [2, 4, 10, 12, 14]
/-- hazel/msq.Make, region 15. -/
def p_msq_Make_15 : VPlan := .take 0 (.take 1 (.take 4 (.one 2 (.reck 3 (.one 5 (.take 6 (.one 7 .done)))))))
def g_msq_Make_15 : List Nat := [4, 9, 10, 12, 14]
/-- hazel/hazelref08.Make, region 8. -/
def p_hazelref08_Make_8 : VPlan := .take 0 (.take 1 (.take 2 (.take 3 (.one 4 (.reck 5 (.one 6 (.one 7 .done)))))))
def g_hazelref08_Make_8 : List Nat := [2, 4, 11]
/-- hazel/hazelref08.Make, region 9. -/
def p_hazelref08_Make_9 : VPlan := .take 0 (.take 1 (.take 2 (.take 3 (.two 4 6 (.two 5 6 (.one 6 (.one 7 .done)) (.one 5 (.one 7 .done))) (.one 4 (.one 5 (.one 7 .done)))))))
def g_hazelref08_Make_9 : List Nat := [2, 4]
/-- hazel/hazelref08.Make, region 11. -/
def p_hazelref08_Make_11 : VPlan := .take 0 (.take 1 (.take 2 (.one 3 (.reck 4 (.one 5 (.one 6 .done))))))
def g_hazelref08_Make_11 : List Nat := [2, 4, 11]
/-- hazel/hazelref08.Make, region 12. -/
def p_hazelref08_Make_12 : VPlan := .take 1 (.take 3 (.two 0 2 (.one 2 (.one 4 (.one 5 (.one 6 .done)))) (.two 0 4 (.one 4 (.one 5 (.one 6 .done))) (.one 0 (.one 5 (.one 6 .done))))))
def g_hazelref08_Make_12 : List Nat := [2, 4]
/-- hazel/hazelref08.Make, region 13. -/
def p_hazelref08_Make_13 : VPlan := .take 1 (.take 3 (.take 4 (.two 0 2 (.one 2 (.one 5 (.one 6 .done))) (.one 0 (.one 5 (.one 6 .done))))))
def g_hazelref08_Make_13 : List Nat := [2, 4]
/-- hazel/hazelref08.Make, region 14. -/
def p_hazelref08_Make_14 : VPlan := .take 1 (.take 4 (.take 5 (.two 0 2 (.one 2 (.reck 3 (.one 6 (.one 7 .done)))) (.reck 3 (.one 0 (.one 6 (.one 7 .done)))))))
def g_hazelref08_Make_14 : List Nat := [2, 4]
/-- hazel/msq.Items, region 5. -/
def p_msq_Items_5 : VPlan := .take 0 (.take 1 (.take 2 (.take 3 (.one 4 (.reck 5 (.one 6 (.one 7 (.one 8 .done))))))))
def g_msq_Items_5 : List Nat := [2, 17, 53, 54]
/-- hazel/msq.Items, region 12. -/
def p_msq_Items_12 : VPlan := .take 0 (.take 1 (.take 2 (.take 3 (.take 4 (.one 5 (.reck 6 (.one 7 (.one 8 (.one 9 (.one 10 .done))))))))))
def g_msq_Items_12 : List Nat := [2]
/-- hazel/msq.Items, region 13. -/
def p_msq_Items_13 : VPlan := .take 0 (.take 1 (.take 2 (.take 3 (.one 4 (.reck 5 (.one 6 (.one 7 (.one 8 .done))))))))
def g_msq_Items_13 : List Nat := [2, 17, 53, 54]
/-- hazel/hazelref08.Items, region 4. -/
def p_hazelref08_Items_4 : VPlan := .take 0 (.take 1 (.take 2 (.take 3 (.one 4 (.reck 5 (.one 6 (.one 7 (.one 8 .done))))))))
def g_hazelref08_Items_4 : List Nat := [2, 47, 48, 51, 52]
/-- hazel/hazelref08.Items, region 10. -/
def p_hazelref08_Items_10 : VPlan := .take 0 (.take 1 (.take 2 (.take 3 (.take 4 (.one 5 (.reck 6 (.one 7 (.one 8 (.one 9 (.one 10 .done))))))))))
def g_hazelref08_Items_10 : List Nat := [2]
/-- hazel/hazelref08.Items, region 12. -/
def p_hazelref08_Items_12 : VPlan := .take 0 (.take 1 (.take 2 (.take 3 (.one 4 (.reck 5 (.one 6 (.one 7 (.one 8 .done))))))))
def g_hazelref08_Items_12 : List Nat := [2, 47, 48, 51, 52]
/-- hazel/hazelref03.Same, region 8. -/
def p_hazelref03_Same_8 : VPlan := .take 0 (.take 1 (.take 2 (.take 3 (.take 4 (.take 5 (.take 6 (.take 7 (.take 8 (.take 9 (.one 10 (.one 11 .done)))))))))))
def g_hazelref03_Same_8 : List Nat := [2, 3]
/-- hazel/hazelref02.Ints, region 6. -/
def p_hazelref02_Ints_6 : VPlan := .take 0 (.take 1 (.take 2 (.take 3 (.take 4 (.take 5 (.take 6 (.take 7 (.take 8 .done))))))))
def g_hazelref02_Ints_6 : List Nat := []
/-- hazel/hazellaw08.start, region 4. -/
def p_hazellaw08_start_4 : VPlan := .take 0 (.take 1 (.take 2 (.take 3 (.take 4 (.take 5 (.take 6 (.take 7 (.take 8 (.take 9 (.take 10 (.take 11 (.take 12 (.take 13 (.take 14 (.take 15 (.take 16 (.take 17 (.take 18 (.take 19 (.take 20 (.take 21 (.take 22 (.take 23 (.take 24 (.take 25 (.take 26 (.take 27 (.take 28 (.take 29 (.take 30 (.take 31 (.take 32 (.one 33 (.one 34 .done))))))))))))))))))))))))))))))))))
def g_hazellaw08_start_4 : List Nat := [6, 7, 9]
/-- hazel/hazelref03.Top, region 3. -/
def p_hazelref03_Top_3 : VPlan := .take 0 (.take 1 (.take 2 (.take 3 (.take 4 (.take 5 (.take 6 (.take 7 (.take 8 (.take 9 (.take 10 (.take 11 (.take 12 (.take 13 (.take 14 (.take 15 (.one 16 (.one 17 .done)))))))))))))))))
def g_hazelref03_Top_3 : List Nat := [2]
/-- hazel/hazelref04.Walk, region 13. -/
def p_hazelref04_Walk_13 : VPlan := .take 0 (.take 1 (.two 2 7 (.two 3 7 (.reck 4 (.reck 5 (.reck 6 (.one 7 (.one 8 (.one 9 .done)))))) (.one 3 (.reck 4 (.reck 5 (.reck 6 (.one 8 (.one 9 .done))))))) (.one 2 (.one 3 (.reck 4 (.reck 5 (.reck 6 (.one 8 (.one 9 .done)))))))))
def g_hazelref04_Walk_13 : List Nat := [1, 5, 43, 44]
/-- hazel/hazelref04.New, region 4. -/
def p_hazelref04_New_4 : VPlan := .take 0 (.take 1 (.take 2 (.one 3 (.one 4 (.one 5 .done)))))
def g_hazelref04_New_4 : List Nat := [5]
/-- hazel/stack.Walk, region 10. -/
def p_stack_Walk_10 : VPlan := .take 0 (.take 1 (.one 2 (.one 3 (.reck 4 (.reck 5 (.reck 6 (.one 7 .done)))))))
def g_stack_Walk_10 : List Nat := [1, 6, 40, 41]
/-- hazel/mem.Load, region 4. -/
def p_mem_Load_4 : VPlan := .take 0 (.take 1 (.take 2 (.take 3 (.take 4 (.take 5 (.one 6 (.one 7 .done)))))))
def g_mem_Load_4 : List Nat := [2, 6]
/-- hazel/hazelref02.Store, region 5. -/
def p_hazelref02_Store_5 : VPlan := .take 0 (.take 1 (.take 2 (.take 3 (.take 4 (.one 5 (.reck 6 (.one 7 .done)))))))
def g_hazelref02_Store_5 : List Nat := [3, 22, 25]
/-- hazel/hazelref03.Evs, region 6. -/
def p_hazelref03_Evs_6 : VPlan := .take 0 (.take 1 (.take 2 (.take 3 (.take 4 (.take 5 (.take 6 (.take 7 (.take 8 .done))))))))
def g_hazelref03_Evs_6 : List Nat := []
/-- hazel/hazelref03.one, region 7. -/
def p_hazelref03_one_7 : VPlan := .take 0 (.take 1 (.take 2 (.take 3 (.take 4 (.take 5 (.take 6 (.take 7 (.take 8 (.take 9 (.one 10 (.one 11 .done)))))))))))
def g_hazelref03_one_7 : List Nat := [2, 3]
/-- hazel/core.Top, region 3. -/
def p_core_Top_3 : VPlan := .take 0 (.take 1 (.take 2 (.take 3 (.take 4 (.take 5 (.take 6 (.take 7 (.take 8 (.take 9 (.take 10 (.take 11 (.take 12 (.take 13 (.take 14 (.take 15 (.one 16 (.one 17 .done)))))))))))))))))
def g_core_Top_3 : List Nat := [2]
/-- hazel/hazelref08.put, region 7. -/
def p_hazelref08_put_7 : VPlan := .take 0 (.take 1 (.take 2 (.take 3 (.take 4 (.take 5 (.take 6 (.take 7 (.one 8 (.one 9 .done)))))))))
def g_hazelref08_put_7 : List Nat := [3, 5, 8, 10, 12, 14, 16, 18]
/-- hazel/hazelref08.put, region 11. -/
def p_hazelref08_put_11 : VPlan := .take 0 (.take 1 (.take 2 (.take 3 (.take 4 (.take 5 (.take 6 (.take 8 (.take 9 (.take 10 (.take 12 (.one 7 (.one 11 (.one 13 (.one 14 .done))))))))))))))
def g_hazelref08_put_11 : List Nat := [3, 5, 8, 10, 12, 14, 16, 18]
/-- hazel/hazelref08.put, region 13. -/
def p_hazelref08_put_13 : VPlan := .take 0 (.take 1 (.take 2 (.take 3 (.take 4 (.two 5 10 (.two 6 10 (.reck 7 (.reck 8 (.reck 9 (.one 10 (.one 11 (.one 12 .done)))))) (.one 6 (.reck 7 (.reck 8 (.reck 9 (.one 11 (.one 12 .done))))))) (.one 5 (.one 6 (.reck 7 (.reck 8 (.reck 9 (.one 11 (.one 12 .done))))))))))))
def g_hazelref08_put_13 : List Nat := [3, 5, 6, 10, 12, 14, 16, 18]
/-- hazel/hazelref08.put, region 17. -/
def p_hazelref08_put_17 : VPlan := .take 0 (.take 1 (.take 2 (.take 3 (.take 4 (.take 5 (.take 6 (.take 8 (.take 9 (.take 10 (.take 13 (.one 7 (.one 11 (.one 12 (.one 14 (.one 15 .done)))))))))))))))
def g_hazelref08_put_17 : List Nat := [3, 5, 8, 10, 12, 14, 16, 18]
/-- hazel/hazelref08.put, region 24. -/
def p_hazelref08_put_24 : VPlan := .take 0 (.take 1 (.take 2 (.take 3 (.take 4 (.two 5 10 (.two 6 10 (.reck 7 (.reck 8 (.reck 9 (.one 10 (.one 11 (.one 12 .done)))))) (.one 6 (.reck 7 (.reck 8 (.reck 9 (.one 11 (.one 12 .done))))))) (.one 5 (.one 6 (.reck 7 (.reck 8 (.reck 9 (.one 11 (.one 12 .done))))))))))))
def g_hazelref08_put_24 : List Nat := [3, 5, 6, 8, 12, 14, 16, 18]
/-- hazel/hazelref08.put, region 30. -/
def p_hazelref08_put_30 : VPlan := .take 0 (.take 1 (.take 2 (.take 3 (.take 4 (.take 5 (.take 6 (.take 7 (.take 8 (.take 9 (.take 10 (.take 11 (.two 12 18 (.two 13 18 (.two 14 18 (.reck 15 (.reck 16 (.reck 17 (.one 18 (.one 19 (.one 20 .done)))))) (.one 14 (.reck 15 (.reck 16 (.reck 17 (.one 19 (.one 20 .done))))))) (.one 13 (.one 14 (.reck 15 (.reck 16 (.reck 17 (.one 19 (.one 20 .done)))))))) (.one 12 (.one 13 (.one 14 (.reck 15 (.reck 16 (.reck 17 (.one 19 (.one 20 .done))))))))))))))))))))
def g_hazelref08_put_30 : List Nat := [3, 5, 6, 8, 10, 14, 16, 18]
/-- hazel/hazelref08.put, region 33. -/
def p_hazelref08_put_33 : VPlan := .take 0 (.take 1 (.take 2 (.take 3 (.take 4 (.take 6 (.take 7 (.take 8 (.take 9 (.take 10 (.take 11 (.take 12 (.take 13 (.take 14 (.two 5 20 (.two 15 20 (.two 16 20 (.reck 17 (.reck 18 (.reck 19 (.one 20 (.one 21 (.one 22 .done)))))) (.one 16 (.reck 17 (.reck 18 (.reck 19 (.one 21 (.one 22 .done))))))) (.one 15 (.one 16 (.reck 17 (.reck 18 (.reck 19 (.one 21 (.one 22 .done)))))))) (.one 5 (.one 15 (.one 16 (.reck 17 (.reck 18 (.reck 19 (.one 21 (.one 22 .done))))))))))))))))))))))
def g_hazelref08_put_33 : List Nat := [3, 5, 6, 8, 10, 12, 16, 18]
/-- hazel/hazelref08.put, region 36. -/
def p_hazelref08_put_36 : VPlan := .take 0 (.take 1 (.take 2 (.take 3 (.take 5 (.take 6 (.take 7 (.take 8 (.take 9 (.take 10 (.take 11 (.take 12 (.one 4 (.one 13 (.one 14 .done))))))))))))))
def g_hazelref08_put_36 : List Nat := [3, 5, 8, 10, 12, 14, 16, 18]
/-- hazel/hazelref08.put, region 38. -/
def p_hazelref08_put_38 : VPlan := .take 0 (.take 1 (.take 2 (.take 3 (.take 4 (.take 5 (.take 6 (.take 7 (.take 8 (.take 9 (.take 10 (.take 11 (.two 12 17 (.two 13 17 (.reck 14 (.reck 15 (.reck 16 (.one 17 (.one 18 (.one 19 .done)))))) (.one 13 (.reck 14 (.reck 15 (.reck 16 (.one 18 (.one 19 .done))))))) (.one 12 (.one 13 (.reck 14 (.reck 15 (.reck 16 (.one 18 (.one 19 .done)))))))))))))))))))
def g_hazelref08_put_38 : List Nat := [3, 5, 6, 8, 10, 12, 14, 18]
/-- hazel/hazelref08.put, region 41. -/
def p_hazelref08_put_41 : VPlan := .take 0 (.take 1 (.take 2 (.two 3 5 (.two 4 5 (.one 5 (.one 6 .done)) (.one 4 (.one 6 .done))) (.one 3 (.one 4 (.one 6 .done))))))
def g_hazelref08_put_41 : List Nat := [3, 5, 6, 8, 10, 12, 14, 16]
/-- hazel/hazelref08.take, region 14. -/
def p_hazelref08_take_14 : VPlan := .take 0 (.take 1 (.take 2 (.take 3 (.take 4 (.two 5 10 (.two 6 10 (.reck 7 (.reck 8 (.reck 9 (.one 10 (.one 11 (.one 12 .done)))))) (.one 6 (.reck 7 (.reck 8 (.reck 9 (.one 11 (.one 12 .done))))))) (.one 5 (.one 6 (.reck 7 (.reck 8 (.reck 9 (.one 11 (.one 12 .done))))))))))))
def g_hazelref08_take_14 : List Nat := [3, 5, 6, 9, 13, 15, 17, 19, 21, 22]
/-- hazel/hazelref08.take, region 19. -/
def p_hazelref08_take_19 : VPlan := .take 0 (.take 1 (.take 2 (.take 3 (.take 5 (.take 6 (.take 7 (.take 8 (.take 9 (.one 4 (.one 10 (.one 11 .done)))))))))))
def g_hazelref08_take_19 : List Nat := [3, 5, 9, 11, 13, 15, 17, 19, 21, 22]
/-- hazel/hazelref08.take, region 20. -/
def p_hazelref08_take_20 : VPlan := .take 0 (.take 1 (.take 2 (.take 4 (.take 5 (.take 6 (.one 3 (.one 7 (.reck 8 .done))))))))
def g_hazelref08_take_20 : List Nat := [3, 5, 6, 9, 11, 13, 15, 17, 19, 21, 22]
/-- hazel/hazelref08.take, region 24. -/
def p_hazelref08_take_24 : VPlan := .take 0 (.take 1 (.take 2 (.take 3 (.take 4 (.take 5 (.take 6 (.take 7 (.take 8 (.take 9 (.take 10 (.two 11 16 (.two 12 16 (.reck 13 (.reck 14 (.reck 15 (.one 16 (.one 17 (.one 18 .done)))))) (.one 12 (.reck 13 (.reck 14 (.reck 15 (.one 17 (.one 18 .done))))))) (.one 11 (.one 12 (.reck 13 (.reck 14 (.reck 15 (.one 17 (.one 18 .done))))))))))))))))))
def g_hazelref08_take_24 : List Nat := [3, 5, 6, 9, 11, 15, 17, 19, 21, 22]
/-- hazel/hazelref08.take, region 27. -/
def p_hazelref08_take_27 : VPlan := .take 0 (.take 1 (.take 2 (.take 3 (.take 4 (.take 6 (.take 8 (.one 5 (.one 7 (.one 9 (.one 10 .done))))))))))
def g_hazelref08_take_27 : List Nat := [3, 5, 9, 11, 13, 15, 17, 19, 21, 22]
/-- hazel/hazelref08.take, region 34. -/
def p_hazelref08_take_34 : VPlan := .take 0 (.take 1 (.take 2 (.take 3 (.take 4 (.two 5 10 (.two 6 10 (.reck 7 (.reck 8 (.reck 9 (.one 10 (.one 11 (.one 12 .done)))))) (.one 6 (.reck 7 (.reck 8 (.reck 9 (.one 11 (.one 12 .done))))))) (.one 5 (.one 6 (.reck 7 (.reck 8 (.reck 9 (.one 11 (.one 12 .done))))))))))))
def g_hazelref08_take_34 : List Nat := [3, 5, 6, 9, 11, 13, 15, 19, 21, 22]
/-- hazel/hazelref08.take, region 38. -/
def p_hazelref08_take_38 : VPlan := .take 0 (.take 1 (.take 2 (.take 3 (.take 4 (.take 5 (.take 6 (.take 7 (.take 8 (.take 9 (.two 10 15 (.two 11 15 (.reck 12 (.reck 13 (.reck 14 (.one 15 (.one 16 (.one 17 .done)))))) (.one 11 (.reck 12 (.reck 13 (.reck 14 (.one 16 (.one 17 .done))))))) (.one 10 (.one 11 (.reck 12 (.reck 13 (.reck 14 (.one 16 (.one 17 .done)))))))))))))))))
def g_hazelref08_take_38 : List Nat := [3, 5, 6, 9, 11, 13, 15, 17, 21, 22]
/-- hazel/hazelref08.take, region 42. -/
def p_hazelref08_take_42 : VPlan := .take 0 (.take 1 (.take 3 (.take 4 (.take 5 (.take 6 (.take 7 (.take 8 (.take 9 (.take 10 (.two 2 12 (.two 11 12 (.one 12 (.one 13 .done)) (.one 11 (.one 13 .done))) (.one 2 (.one 11 (.one 13 .done)))))))))))))
def g_hazelref08_take_42 : List Nat := [3, 5, 6, 9, 11, 13, 15, 17, 19, 22]
/-- hazel/hazelref08.take, region 43. -/
def p_hazelref08_take_43 : VPlan := .take 0 (.take 1 (.take 2 (.take 3 (.take 4 (.take 5 (.one 6 (.one 7 (.one 8 .done))))))))
def g_hazelref08_take_43 : List Nat := [3, 5, 9, 11, 13, 15, 17, 19, 21, 22]
/-- hazel/hazelref08.take, region 45. -/
def p_hazelref08_take_45 : VPlan := .take 0 (.take 1 (.take 2 (.take 3 (.take 4 (.take 7 (.one 5 (.one 6 (.one 8 (.one 9 .done)))))))))
def g_hazelref08_take_45 : List Nat := [3, 5, 9, 11, 13, 15, 17, 19, 21, 22]
/-- hazel/hazelref08.take, region 47. -/
def p_hazelref08_take_47 : VPlan := .take 0 (.take 1 (.take 2 (.two 3 5 (.two 4 5 (.one 5 (.one 6 .done)) (.one 4 (.one 6 .done))) (.one 3 (.one 4 (.one 6 .done))))))
def g_hazelref08_take_47 : List Nat := [3, 5, 6, 9, 11, 13, 15, 17, 19, 21]
/-- hazel/hazelref08.take, region 48. -/
def p_hazelref08_take_48 : VPlan := .take 0 (.take 1 (.take 3 (.take 4 (.take 5 (.take 6 (.take 7 (.take 8 (.take 9 (.one 2 (.one 10 (.one 11 .done)))))))))))
def g_hazelref08_take_48 : List Nat := [3, 5, 9, 11, 13, 15, 17, 19, 21, 22]
/-- hazel/hazelref02.Load, region 1. -/
def p_hazelref02_Load_1 : VPlan := .take 0 (.take 1 (.take 2 (.take 3 (.take 4 (.take 5 (.two 6 8 (.reck 7 (.one 8 (.one 9 .done))) (.one 6 (.reck 7 (.one 9 .done)))))))))
def g_hazelref02_Load_1 : List Nat := [2, 4]
/-- hazel/hazelref02.Load, region 4. -/
def p_hazelref02_Load_4 : VPlan := .take 0 (.take 1 (.take 2 (.take 3 (.take 4 (.take 5 (.one 6 (.one 7 .done)))))))
def g_hazelref02_Load_4 : List Nat := [2, 6]
/-- hazel/hazelref03.New, region 4. -/
def p_hazelref03_New_4 : VPlan := .take 0 (.take 1 (.one 2 (.reck 3 (.one 4 (.one 5 .done)))))
def g_hazelref03_New_4 : List Nat := [6, 26]
/-- hazel/hazelref04.Fill, region 8. -/
def p_hazelref04_Fill_8 : VPlan := .take 1 (.take 3 (.two 0 2 (.one 2 (.one 4 (.one 5 .done))) (.one 0 (.one 4 (.one 5 .done)))))
def g_hazelref04_Fill_8 : List Nat := [2]
/-- hazel/pack.joined, region 5. -/
def p_pack_joined_5 : VPlan := .take 0 (.take 1 (.take 3 (.take 8 (.one 2 (.reck 4 (.reck 5 (.reck 6 (.reck 7 (.one 9 (.reck 10 (.reck 11 (.one 12 .done))))))))))))
def g_pack_joined_5 : List Nat := []
/-- hazel/pack.cut, region 1. -/
def p_pack_cut_1 : VPlan := .take 0 (.take 1 (.take 5 (.one 2 (.reck 3 (.one 4 (.reck 6 (.reck 7 (.reck 8 (.reck 9 (.one 10 .done))))))))))
def g_pack_cut_1 : List Nat := []
/-- hazel/scan.Step, region 2. -/
def p_scan_Step_2 : VPlan := .take 1 (.take 2 (.one 0 (.one 3 (.one 4 .done))))
def g_scan_Step_2 : List Nat := [2, 4, 5]
/-- hazel/hazelref04.On, region 2. -/
def p_hazelref04_On_2 : VPlan := .take 0 (.take 1 (.take 3 (.take 4 (.one 2 (.one 5 (.one 6 .done))))))
def g_hazelref04_On_2 : List Nat := [5, 7, 8]
/-- hazel/hazelref03.Log, region 4. -/
def p_hazelref03_Log_4 : VPlan := .take 0 (.take 1 (.take 2 (.take 3 (.take 5 (.take 6 (.take 8 (.two 4 9 (.two 7 9 (.one 9 (.one 10 (.reck 11 (.one 12 .done)))) (.one 7 (.one 10 (.reck 11 (.one 12 .done))))) (.one 4 (.one 7 (.one 10 (.reck 11 (.one 12 .done))))))))))))
def g_hazelref03_Log_4 : List Nat := [3, 5]
/-- hazel/hazelref02.New, region 3. -/
def p_hazelref02_New_3 : VPlan := .take 0 (.take 1 (.take 2 (.take 4 (.take 5 (.two 3 6 (.one 6 (.reck 7 (.one 8 (.one 9 .done)))) (.one 3 (.reck 7 (.one 8 (.one 9 .done)))))))))
def g_hazelref02_New_3 : List Nat := [14, 17]
/-- hazel/core.Back$1, region 0. -/
def p_core_Back_1_0 : VPlan := .take 0 (.take 1 (.take 2 (.take 3 (.take 4 (.take 5 (.take 7 (.take 8 (.take 9 (.take 14 (.take 15 (.two 6 10 (.one 10 (.reck 11 (.reck 12 (.reck 13 (.take 16 (.take 17 (.one 18 (.take 19 (.take 20 (.one 21 (.take 22 (.take 23 (.one 24 .done))))))))))))) (.reck 11 (.reck 12 (.one 6 (.reck 13 (.take 16 (.take 17 (.one 18 (.take 19 (.take 20 (.one 21 (.take 22 (.take 23 (.one 24 .done))))))))))))))))))))))))
/-- hazel/hazelref06.retire, region 8. -/
def p_hazelref06_retire_8 : VPlan := .take 1 (.take 3 (.take 5 (.take 6 (.take 7 (.three 0 2 8 (.two 2 8 (.two 4 8 (.one 8 (.one 9 (.one 10 (.one 11 .done)))) (.one 4 (.one 9 (.one 10 (.one 11 .done))))) (.one 2 (.one 4 (.one 9 (.one 10 (.one 11 .done)))))) (.three 0 4 8 (.two 4 8 (.one 8 (.one 9 (.one 10 (.one 11 .done)))) (.one 4 (.one 9 (.one 10 (.one 11 .done))))) (.two 0 8 (.one 8 (.one 9 (.one 10 (.one 11 .done)))) (.two 0 9 (.one 9 (.one 10 (.one 11 .done))) (.one 0 (.one 10 (.one 11 .done))))) (.two 0 4 (.one 4 (.one 9 (.one 10 (.one 11 .done)))) (.two 0 9 (.one 9 (.one 10 (.one 11 .done))) (.one 0 (.one 10 (.one 11 .done)))))) (.two 0 2 (.one 2 (.one 4 (.one 9 (.one 10 (.one 11 .done))))) (.two 0 4 (.one 4 (.one 9 (.one 10 (.one 11 .done)))) (.two 0 9 (.one 9 (.one 10 (.one 11 .done))) (.one 0 (.one 10 (.one 11 .done)))))))))))
def g_hazelref06_retire_8 : List Nat := [5, 6]
/-- hazel/hazelref06.retire, region 9. -/
def p_hazelref06_retire_9 : VPlan := .take 1 (.take 3 (.take 4 (.take 5 (.two 0 2 (.one 2 (.one 6 (.one 7 (.one 8 .done)))) (.two 0 6 (.one 6 (.one 7 (.one 8 .done))) (.one 0 (.one 7 (.one 8 .done))))))))
def g_hazelref06_retire_9 : List Nat := [5, 6, 35, 37, 41, 42]
/-- hazel/hazelref06.scan, region 8. -/
def p_hazelref06_scan_8 : VPlan := .take 0 (.take 1 (.take 3 (.take 4 (.one 2 (.one 5 (.one 6 .done))))))
def g_hazelref06_scan_8 : List Nat := [3, 5, 7, 33, 36, 38, 39, 110, 113, 114, 118, 119]
/-- hazel/hazelref06.scan, region 13. -/
def p_hazelref06_scan_13 : VPlan := .take 0 (.take 1 (.take 2 (.take 3 (.take 4 (.take 5 (.take 6 (.take 7 (.take 8 (.take 9 (.take 10 (.take 11 (.take 12 (.take 13 (.take 14 (.one 15 (.reck 16 .done))))))))))))))))
def g_hazelref06_scan_13 : List Nat := [3, 5, 6, 7, 33, 36, 38, 39, 110, 113, 114, 118, 119]
/-- hazel/hazelref06.scan, region 18. -/
def p_hazelref06_scan_18 : VPlan := .take 1 (.take 2 (.take 3 (.take 5 (.take 6 (.take 7 (.take 8 (.one 0 (.one 4 (.one 9 (.one 10 .done))))))))))
def g_hazelref06_scan_18 : List Nat := [3, 5, 6, 7]
/-- hazel/hazelref06.scan, region 19. -/
def p_hazelref06_scan_19 : VPlan := .take 0 (.take 1 (.take 2 (.take 4 (.take 5 (.take 7 (.take 8 (.take 9 (.take 10 (.take 11 (.one 3 (.one 6 (.one 12 (.one 13 .done)))))))))))))
def g_hazelref06_scan_19 : List Nat := [3, 5, 7, 33, 36, 38, 39, 110, 113, 114, 118, 119]
/-- hazel/hazelref05.Step, region 6. -/
def p_hazelref05_Step_6 : VPlan := .take 0 (.take 1 (.take 2 (.take 3 (.take 4 (.two 5 7 (.two 6 7 (.one 7 (.one 8 .done)) (.one 6 (.one 8 .done))) (.one 5 (.one 6 (.one 8 .done))))))))
def g_hazelref05_Step_6 : List Nat := [2, 4, 5]
/-- hazel/scan.retire, region 8. -/
def p_scan_retire_8 : VPlan := .take 1 (.take 2 (.take 4 (.take 5 (.take 6 (.three 0 3 7 (.two 3 7 (.one 7 (.one 8 (.one 9 (.one 10 .done)))) (.one 3 (.one 8 (.one 9 (.one 10 .done))))) (.two 0 7 (.one 7 (.one 8 (.one 9 (.one 10 .done)))) (.two 0 8 (.one 8 (.one 9 (.one 10 .done))) (.one 0 (.one 9 (.one 10 .done))))) (.two 0 3 (.one 3 (.one 8 (.one 9 (.one 10 .done)))) (.two 0 8 (.one 8 (.one 9 (.one 10 .done))) (.one 0 (.one 9 (.one 10 .done))))))))))
def g_scan_retire_8 : List Nat := [5, 6]
/-- hazel/scan.look, region 16. -/
def p_scan_look_16 : VPlan := .take 0 (.take 1 (.take 2 (.take 3 (.take 4 (.take 5 (.one 6 .done))))))
def g_scan_look_16 : List Nat := [3, 5, 6, 7, 39, 40, 100, 104, 105, 117]
/-- hazel/scan.look, region 18. -/
def p_scan_look_18 : VPlan := .take 1 (.take 2 (.take 3 (.take 4 (.take 5 (.take 6 (.take 7 (.take 8 (.take 9 (.two 0 10 (.one 10 (.one 11 (.one 12 (.one 13 .done)))) (.two 0 11 (.one 11 (.one 12 (.one 13 .done))) (.one 0 (.one 12 (.one 13 .done)))))))))))))
def g_scan_look_18 : List Nat := [5, 6, 7, 39, 40, 100, 104, 105, 117]
/-- hazel/scan.look, region 19. -/
def p_scan_look_19 : VPlan := .take 0 (.take 1 (.take 2 (.take 4 (.take 5 (.take 6 (.take 7 (.take 8 (.two 3 9 (.one 9 (.one 10 (.one 11 .done))) (.one 3 (.one 10 (.one 11 .done)))))))))))
def g_scan_look_19 : List Nat := [3, 5, 7, 39, 40, 100, 104, 105, 117]
/-- hazel/haz.Step, region 5. -/
def p_haz_Step_5 : VPlan := .take 0 (.take 2 (.take 3 (.take 4 (.two 1 5 (.one 5 (.one 6 (.take 7 (.one 8 .done)))) (.one 1 (.one 6 (.take 7 (.one 8 .done))))))))
def g_haz_Step_5 : List Nat := [4, 5]
/-- hazel/core.Call$1, region 0. -/
def p_core_Call_1_0 : VPlan := .take 0 (.take 1 (.take 2 (.take 3 (.take 6 (.two 4 7 (.two 5 7 (.one 7 (.one 8 (.take 9 (.take 10 (.one 11 .done))))) (.one 5 (.one 8 (.take 9 (.take 10 (.one 11 .done)))))) (.one 4 (.one 5 (.one 8 (.take 9 (.take 10 (.one 11 .done)))))))))))
/-- hazel/hazelref05.prot, region 2. -/
def p_hazelref05_prot_2 : VPlan := .take 0 (.take 1 (.take 2 (.take 3 (.take 4 (.take 5 (.take 7 (.take 8 (.take 9 (.two 6 12 (.two 10 12 (.two 11 12 (.one 12 (.one 13 .done)) (.one 11 (.one 13 .done))) (.one 10 (.one 11 (.one 13 .done)))) (.one 6 (.one 10 (.one 11 (.one 13 .done)))))))))))))
def g_hazelref05_prot_2 : List Nat := [3, 5, 6, 8]
/-- hazel/hazelref04.pop, region 10. -/
def p_hazelref04_pop_10 : VPlan := .take 0 (.take 1 (.take 2 (.two 3 8 (.two 4 8 (.reck 5 (.reck 6 (.reck 7 (.one 8 (.one 9 (.one 10 .done)))))) (.one 4 (.reck 5 (.reck 6 (.reck 7 (.one 9 (.one 10 .done))))))) (.one 3 (.one 4 (.reck 5 (.reck 6 (.reck 7 (.one 9 (.one 10 .done))))))))))
def g_hazelref04_pop_10 : List Nat := [3, 5, 6, 7, 9, 13]
/-- hazel/hazelref04.pop, region 15. -/
def p_hazelref04_pop_15 : VPlan := .take 0 (.take 1 (.take 2 (.take 3 (.take 4 (.take 5 (.take 6 (.take 7 (.take 8 (.take 9 (.take 10 (.two 11 16 (.two 12 16 (.reck 13 (.reck 14 (.reck 15 (.one 16 (.one 17 (.one 18 .done)))))) (.one 12 (.reck 13 (.reck 14 (.reck 15 (.one 17 (.one 18 .done))))))) (.one 11 (.one 12 (.reck 13 (.reck 14 (.reck 15 (.one 17 (.one 18 .done))))))))))))))))))
def g_hazelref04_pop_15 : List Nat := [3, 5, 6, 7, 9, 11]
/-- hazel/hazelref04.pop, region 18. -/
def p_hazelref04_pop_18 : VPlan := .take 0 (.take 1 (.take 2 (.take 5 (.take 6 (.one 3 (.one 4 (.one 7 (.one 8 .done))))))))
def g_hazelref04_pop_18 : List Nat := [3, 5, 7, 9, 11, 13]
/-- hazel/hazelref04.push, region 6. -/
def p_hazelref04_push_6 : VPlan := .take 0 (.take 1 (.take 2 (.take 3 (.take 4 (.take 6 (.take 7 (.take 8 (.two 5 11 (.two 9 11 (.two 10 11 (.one 11 (.one 12 .done)) (.one 10 (.one 12 .done))) (.one 9 (.one 10 (.one 12 .done)))) (.one 5 (.one 9 (.one 10 (.one 12 .done))))))))))))
def g_hazelref04_push_6 : List Nat := [3, 5, 6, 7, 10]
/-- hazel/hazelref04.push, region 10. -/
def p_hazelref04_push_10 : VPlan := .take 0 (.take 1 (.take 2 (.take 3 (.take 4 (.take 5 (.take 6 (.take 7 (.take 8 (.take 9 (.take 10 (.two 11 16 (.two 12 16 (.reck 13 (.reck 14 (.reck 15 (.one 16 (.one 17 (.one 18 .done)))))) (.one 12 (.reck 13 (.reck 14 (.reck 15 (.one 17 (.one 18 .done))))))) (.one 11 (.one 12 (.reck 13 (.reck 14 (.reck 15 (.one 17 (.one 18 .done))))))))))))))))))
def g_hazelref04_push_10 : List Nat := [3, 5, 6, 7, 9]
/-- hazel/hazelref04.push, region 13. -/
def p_hazelref04_push_13 : VPlan := .take 0 (.take 1 (.take 2 (.take 3 (.take 4 (.take 7 (.take 8 (.take 9 (.take 10 (.one 5 (.one 6 (.one 11 (.one 12 .done))))))))))))
def g_hazelref04_push_13 : List Nat := [3, 5, 7, 9, 10]
/-- hazel/stack.pop, region 8. -/
def p_stack_pop_8 : VPlan := .take 0 (.take 2 (.take 3 (.take 13 (.two 1 4 (.one 4 (.one 5 (.one 6 (.one 7 (.reck 8 (.reck 9 (.reck 10 (.take 11 (.one 12 (.take 14 (.one 15 .done))))))))))) (.two 1 5 (.one 5 (.one 6 (.one 7 (.reck 8 (.reck 9 (.reck 10 (.take 11 (.one 12 (.take 14 (.one 15 .done)))))))))) (.two 1 6 (.one 6 (.one 7 (.reck 8 (.reck 9 (.reck 10 (.take 11 (.one 12 (.take 14 (.one 15 .done))))))))) (.one 1 (.one 7 (.reck 8 (.reck 9 (.reck 10 (.take 11 (.one 12 (.take 14 (.one 15 .done)))))))))))))))
def g_stack_pop_8 : List Nat := [6, 7]
/-- hazel/stack.pop, region 11. -/
def p_stack_pop_11 : VPlan := .take 0 (.take 1 (.take 2 (.take 3 (.take 4 (.take 5 (.take 6 (.take 7 (.take 8 (.take 9 (.take 10 (.two 11 16 (.two 12 16 (.reck 13 (.reck 14 (.reck 15 (.one 16 (.one 17 (.one 18 .done)))))) (.one 12 (.reck 13 (.reck 14 (.reck 15 (.one 17 (.one 18 .done))))))) (.one 11 (.one 12 (.reck 13 (.reck 14 (.reck 15 (.one 17 (.one 18 .done))))))))))))))))))
def g_stack_pop_11 : List Nat := [3, 5, 6]
/-- hazel/stack.push, region 6. -/
def p_stack_push_6 : VPlan := .take 0 (.take 2 (.take 3 (.take 4 (.take 6 (.take 7 (.take 8 (.two 1 5 (.one 5 (.one 9 (.one 10 (.take 11 (.one 12 .done))))) (.two 1 9 (.one 9 (.one 10 (.take 11 (.one 12 .done)))) (.one 1 (.one 10 (.take 11 (.one 12 .done))))))))))))
def g_stack_push_6 : List Nat := [5, 6, 7]
/-- hazel/stack.push, region 9. -/
def p_stack_push_9 : VPlan := .take 0 (.take 1 (.take 2 (.take 3 (.take 4 (.take 5 (.take 6 (.take 7 (.take 8 (.take 9 (.take 10 (.two 11 16 (.two 12 16 (.reck 13 (.reck 14 (.reck 15 (.one 16 (.one 17 (.one 18 .done)))))) (.one 12 (.reck 13 (.reck 14 (.reck 15 (.one 17 (.one 18 .done))))))) (.one 11 (.one 12 (.reck 13 (.reck 14 (.reck 15 (.one 17 (.one 18 .done))))))))))))))))))
def g_stack_push_9 : List Nat := [3, 5, 6]
/-- hazel/haz.prot, region 8. -/
def p_haz_prot_8 : VPlan := .take 0 (.take 2 (.take 3 (.take 4 (.take 5 (.take 7 (.take 8 (.take 9 (.two 1 6 (.one 6 (.one 10 (.one 11 (.take 12 (.one 13 .done))))) (.two 1 10 (.one 10 (.one 11 (.take 12 (.one 13 .done)))) (.one 1 (.one 11 (.take 12 (.one 13 .done)))))))))))))
def g_haz_prot_8 : List Nat := [5, 6]
end Go.Proofs.YtpobngddiifdpaaGreat.V
