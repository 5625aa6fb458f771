/- Plans of the regions whose order is drawn. -/
import Derived.Test.YtlcjkogdbleboaaGreatVData
namespace Go.Proofs.YtlcjkogdbleboaaGreat.V
abbrev yArr3 : TypeId := 68
abbrev yMem : TypeId := 24
abbrev ySys : TypeId := 28
abbrev yCore : TypeId := 70
abbrev yFrame : TypeId := 63
abbrev yInt : TypeId := 3
/-- hazel/hazellaw08.MsqTells, region 14. -/
def p_hazellaw08_MsqTells_14 : VPlan := .take 0 (.take 1 (.take 2 (.take 3 (.take 5 (.take 6 (.one 4 (.one 7 (.one 8 (.reck 9 (.one 10 .done))))))))))
def g_hazellaw08_MsqTells_14 : List Nat := [1, 3, 8, 10]
/-- hazel/hazellaw09.ListTells, region 12. -/
def p_hazellaw09_ListTells_12 : VPlan := .take 0 (.take 1 (.take 2 (.take 3 (.take 5 (.take 6 (.one 4 (.one 7 (.one 8 (.reck 9 (.one 10 .done))))))))))
def g_hazellaw09_ListTells_12 : List Nat := [1, 3]
/-- hazel/hazellaw12.EventTells, region 15. -/
def p_hazellaw12_EventTells_15 : VPlan := .take 0 (.take 1 (.take 2 (.take 3 (.take 5 (.take 6 (.one 4 (.one 7 (.one 8 (.reck 9 (.one 10 .done))))))))))
def g_hazellaw12_EventTells_15 : List Nat := [1, 3, 9, 11]
/-- hazel/hazellaw12.EventLegal, region 20. -/
def p_hazellaw12_EventLegal_20 : VPlan := .take 1 (.take 2 (.take 3 (.take 4 (.take 5 (.take 6 (.take 7 (.take 8 (.take 9 (.take 10 (.take 11 (.take 12 (.take 13 (.take 14 (.take 15 (.take 16 (.one 0 (.one 17 (.one 18 .done))))))))))))))))))
def g_hazellaw12_EventLegal_20 : List Nat := [9, 14, 16, 60]
/-- hazel/hazellaw12.EventLegal, region 24. -/
def p_hazellaw12_EventLegal_24 : VPlan := .take 0 (.take 1 (.take 2 (.take 3 (.take 4 (.take 5 (.take 6 (.take 7 (.take 8 (.take 9 (.take 10 (.take 11 (.take 12 (.take 13 (.take 14 (.take 15 (.take 16 (.take 17 (.take 18 (.take 19 .done)))))))))))))))))))
def g_hazellaw12_EventLegal_24 : List Nat := [7, 9, 14, 16, 60]
/-- hazel/hazellaw12.EventLegal, region 32. -/
def p_hazellaw12_EventLegal_32 : VPlan := .take 0 (.take 1 (.take 2 (.take 3 (.take 4 (.take 5 (.take 6 (.take 7 (.take 8 (.take 9 (.take 10 (.take 11 (.take 12 (.take 13 (.take 14 (.take 15 (.take 16 (.take 17 (.take 18 (.take 19 (.take 20 (.take 21 (.take 22 (.take 23 (.take 24 (.take 25 (.take 26 (.take 27 (.take 28 (.take 29 (.take 30 (.take 31 (.take 32 (.take 33 (.take 34 .done))))))))))))))))))))))))))))))))))
def g_hazellaw12_EventLegal_32 : List Nat := [7, 9, 14, 16, 60]
/-- hazel/hazellaw12.EventSpots, region 14. -/
def p_hazellaw12_EventSpots_14 : VPlan := .take 1 (.take 2 (.take 3 (.take 4 (.take 5 (.take 6 (.take 7 (.take 8 (.take 9 (.take 10 (.one 0 (.one 11 (.one 12 .done))))))))))))
def g_hazellaw12_EventSpots_14 : List Nat := [10, 14]
/-- hazel/hazellaw12.EventSpots, region 21. -/
def p_hazellaw12_EventSpots_21 : VPlan := .take 0 (.take 1 (.one 2 (.reck 3 (.reck 4 (.take 5 (.take 6 (.take 7 (.take 8 (.take 9 (.take 10 (.take 11 (.take 12 (.take 13 (.take 14 (.take 15 (.take 16 (.take 17 (.reck 18 .done))))))))))))))))))
def g_hazellaw12_EventSpots_21 : List Nat := [10, 11, 14]
/-- hazel/hazellaw12.EventTags, region 14. -/
def p_hazellaw12_EventTags_14 : VPlan := .take 1 (.take 2 (.take 3 (.take 4 (.take 5 (.take 6 (.take 7 (.take 8 (.take 9 (.one 0 (.one 10 (.one 11 .done)))))))))))
def g_hazellaw12_EventTags_14 : List Nat := [13, 15]
/-- hazel/hazellaw12.EventWaits, region 17. -/
def p_hazellaw12_EventWaits_17 : VPlan := .take 0 (.take 1 (.take 2 (.take 3 (.take 4 (.take 5 (.take 6 (.take 7 (.two 8 12 (.reck 9 (.reck 10 (.reck 11 (.one 12 (.one 13 (.one 14 .done)))))) (.one 8 (.reck 9 (.reck 10 (.reck 11 (.one 13 (.one 14 .done))))))))))))))
def g_hazellaw12_EventWaits_17 : List Nat := [1, 5, 6, 10, 15, 16]
/-- hazel/hazellaw12.EventWaits, region 20. -/
def p_hazellaw12_EventWaits_20 : VPlan := .take 0 (.take 2 (.take 4 (.take 5 (.take 7 (.three 1 3 6 (.two 3 6 (.two 6 8 (.one 8 (.reck 9 (.one 10 (.reck 11 (.one 12 (.take 13 (.one 14 .done))))))) (.one 6 (.reck 9 (.one 10 (.reck 11 (.one 12 (.take 13 (.one 14 .done)))))))) (.one 3 (.one 8 (.reck 9 (.one 10 (.reck 11 (.one 12 (.take 13 (.one 14 .done))))))))) (.three 1 6 8 (.two 6 8 (.one 8 (.reck 9 (.one 10 (.reck 11 (.one 12 (.take 13 (.one 14 .done))))))) (.one 6 (.reck 9 (.one 10 (.reck 11 (.one 12 (.take 13 (.one 14 .done)))))))) (.two 1 8 (.one 8 (.reck 9 (.one 10 (.reck 11 (.one 12 (.take 13 (.one 14 .done))))))) (.reck 9 (.two 1 10 (.one 10 (.reck 11 (.one 12 (.take 13 (.one 14 .done))))) (.reck 11 (.one 1 (.one 12 (.take 13 (.one 14 .done)))))))) (.two 1 6 (.one 6 (.reck 9 (.one 10 (.reck 11 (.one 12 (.take 13 (.one 14 .done))))))) (.reck 9 (.two 1 10 (.one 10 (.reck 11 (.one 12 (.take 13 (.one 14 .done))))) (.reck 11 (.one 1 (.one 12 (.take 13 (.one 14 .done))))))))) (.two 1 3 (.one 3 (.one 8 (.reck 9 (.one 10 (.reck 11 (.one 12 (.take 13 (.one 14 .done)))))))) (.two 1 8 (.one 8 (.reck 9 (.one 10 (.reck 11 (.one 12 (.take 13 (.one 14 .done))))))) (.reck 9 (.two 1 10 (.one 10 (.reck 11 (.one 12 (.take 13 (.one 14 .done))))) (.reck 11 (.one 1 (.one 12 (.take 13 (.one 14 .done))))))))))))))
def g_hazellaw12_EventWaits_20 : List Nat := [1, 5, 6, 13, 15, 16]
/-- hazel/hazellaw12.EventWaits, region 25. -/
def p_hazellaw12_EventWaits_25 : VPlan := .take 0 (.take 1 (.take 2 (.take 3 (.take 4 (.take 5 (.take 6 (.take 7 (.take 8 (.take 9 (.take 10 (.take 11 (.take 12 (.take 13 (.take 14 (.take 15 (.take 16 (.take 17 (.take 18 (.take 19 (.take 20 (.take 21 (.take 22 (.take 23 (.take 24 (.take 25 (.take 26 (.take 27 (.take 28 (.take 29 (.take 30 (.take 31 (.take 32 (.take 33 (.take 34 (.take 35 (.take 36 (.take 37 (.take 38 (.take 39 .done)))))))))))))))))))))))))))))))))))))))
def g_hazellaw12_EventWaits_25 : List Nat := [1, 5, 6, 10, 13, 15, 16]
/-- hazel/hazellaw12.EventWaits, region 27. -/
def p_hazellaw12_EventWaits_27 : VPlan := .take 0 (.take 1 (.take 2 (.take 3 (.take 4 (.take 5 (.one 6 (.reck 7 (.reck 8 (.take 9 (.take 10 (.take 11 (.take 12 (.take 13 (.take 14 (.take 15 (.take 16 (.take 17 (.take 18 (.take 19 (.reck 20 (.reck 21 (.take 22 (.take 23 (.take 24 (.take 25 (.take 26 (.take 27 (.take 28 (.take 29 (.take 30 (.take 31 (.take 32 (.reck 33 (.reck 34 (.take 35 (.take 36 (.take 37 (.take 38 (.reck 39 (.reck 40 (.take 41 (.take 42 (.take 43 (.take 44 (.reck 45 (.one 46 .done))))))))))))))))))))))))))))))))))))))))))))))
def g_hazellaw12_EventWaits_27 : List Nat := [1, 5, 6, 10, 13, 15, 16]
/-- hazel/hazellaw11.TableTells, region 15. -/
def p_hazellaw11_TableTells_15 : VPlan := .take 0 (.take 1 (.take 2 (.take 3 (.take 5 (.take 6 (.one 4 (.one 7 (.one 8 (.reck 9 (.one 10 .done))))))))))
def g_hazellaw11_TableTells_15 : List Nat := [1, 3, 8, 10]
/-- hazel/msq.Make, region 6. -/
def p_msq_Make_6 : VPlan := .take 0 (.take 1 (.take 2 (.take 3 (.take 4 (.one 5 (.one 6 (.one 7 .done)))))))
def g_msq_Make_6 : List Nat := [2, 4, 10, 12, 14]
/-- hazel/msq.Make, region 7. -/
def p_msq_Make_7 : VPlan := .take 0 (.take 1 (.two 2 7 (.two 3 7 (.reck 4 (.reck 5 (.reck 6 (.one 7 (.one 8 (.one 9 .done)))))) (.one 3 (.reck 4 (.reck 5 (.reck 6 (.one 8 (.one 9 .done))))))) (.one 2 (.one 3 (.reck 4 (.reck 5 (.reck 6 (.one 8 (.one 9 .done)))))))))
def g_msq_Make_7 : List Nat := [2, 4, 9, 12, 14]
/-- hazel/msq.Make, region 9. -/
def p_msq_Make_9 : VPlan := .take 1 (.take 2 (.two 0 3 (.one 3 (.one 4 (.one 5 .done))) (.one 0 (.one 4 (.one 5 .done)))))
def g_msq_Make_9 : List Nat := [2, 4, 10, 12, 14]
/-- hazel/msq.Make, region 11. -/
def p_msq_Make_11 : VPlan := .take 0 (.take 1 (.two 2 7 (.two 3 7 (.reck 4 (.reck 5 (.reck 6 (.one 7 (.one 8 (.one 9 .done)))))) (.one 3 (.reck 4 (.reck 5 (.reck 6 (.one 8 (.one 9 .done))))))) (.one 2 (.one 3 (.reck 4 (.reck 5 (.reck 6 (.one 8 (.one 9 .done)))))))))
def g_msq_Make_11 : List Nat := [2, 4, 9, 10, 12]
/-- hazel/msq.Make, region 12. -/
def p_msq_Make_12 : VPlan := .take 1 (.take 3 (.two 0 2 (.one 2 (.one 4 (.one 5 (.one 6 .done)))) (.two 0 4 (.one 4 (.one 5 (.one 6 .done))) (.one 0 (.one 5 (.one 6 .done))))))
def g_msq_Make_12 : List Nat := [2, 4, 10, 12, 14]
/-- hazel/msq.Make, region 14. -/
def p_msq_Make_14 : VPlan := .take 1 (.take 3 (.two 0 2 (.one 2 (.one 4 (.one 5 .done))) (.one 0 (.one 4 (.one 5 .done)))))
def g_msq_Make_14 : List Nat := [2, 4, 10, 12, 14]
/-- hazel/msq.Make, region 15. -/
def p_msq_Make_15 : VPlan := .take 0 (.take 1 (.take 4 (.one 2 (.reck 3 (.one 5 (.take 6 (.one 7 .done)))))))
def g_msq_Make_15 : List Nat := [4, 9, 10, 12, 14]
/-- hazel/hazelref08.Make, region 8. -/
def p_hazelref08_Make_8 : VPlan := .take 0 (.take 1 (.take 2 (.take 3 (.one 4 (.reck 5 (.one 6 (.one 7 .done)))))))
def g_hazelref08_Make_8 : List Nat := [2, 4, 11]
/-- hazel/hazelref08.Make, region 9. -/
def p_hazelref08_Make_9 : VPlan := .take 0 (.take 1 (.take 2 (.take 3 (.two 4 6 (.two 5 6 (.one 6 (.one 7 .done)) (.one 5 (.one 7 .done))) (.one 4 (.one 5 (.one 7 .done)))))))
def g_hazelref08_Make_9 : List Nat := [2, 4]
/-- hazel/hazelref08.Make, region 11. -/
def p_hazelref08_Make_11 : VPlan := .take 0 (.take 1 (.take 2 (.one 3 (.reck 4 (.one 5 (.one 6 .done))))))
def g_hazelref08_Make_11 : List Nat := [2, 4, 11]
/-- hazel/hazelref08.Make, region 12. -/
def p_hazelref08_Make_12 : VPlan := .take 1 (.take 3 (.two 0 2 (.one 2 (.one 4 (.one 5 (.one 6 .done)))) (.two 0 4 (.one 4 (.one 5 (.one 6 .done))) (.one 0 (.one 5 (.one 6 .done))))))
def g_hazelref08_Make_12 : List Nat := [2, 4]
/-- hazel/hazelref08.Make, region 13. -/
def p_hazelref08_Make_13 : VPlan := .take 1 (.take 3 (.take 4 (.two 0 2 (.one 2 (.one 5 (.one 6 .done))) (.one 0 (.one 5 (.one 6 .done))))))
def g_hazelref08_Make_13 : List Nat := [2, 4]
/-- hazel/hazelref08.Make, region 14. -/
def p_hazelref08_Make_14 : VPlan := .take 1 (.take 4 (.take 5 (.two 0 2 (.one 2 (.reck 3 (.one 6 (.one 7 .done)))) (.reck 3 (.one 0 (.one 6 (.one 7 .done)))))))
def g_hazelref08_Make_14 : List Nat := [2, 4]
/-- hazel/msq.Items, region 5. -/
def p_msq_Items_5 : VPlan := .take 0 (.take 1 (.take 2 (.take 3 (.one 4 (.reck 5 (.one 6 (.one 7 (.one 8 .done))))))))
def g_msq_Items_5 : List Nat := [2, 17, 53, 54]
/-- hazel/msq.Items, region 12. -/
def p_msq_Items_12 : VPlan := .take 0 (.take 1 (.take 2 (.take 3 (.take 4 (.one 5 (.reck 6 (.one 7 (.one 8 (.one 9 (.one 10 .done))))))))))
def g_msq_Items_12 : List Nat := [2]
/-- hazel/msq.Items, region 13. -/
def p_msq_Items_13 : VPlan := .take 0 (.take 1 (.take 2 (.take 3 (.one 4 (.reck 5 (.one 6 (.one 7 (.one 8 .done))))))))
def g_msq_Items_13 : List Nat := [2, 17, 53, 54]
/-- hazel/hazelref08.Items, region 4. -/
def p_hazelref08_Items_4 : VPlan := .take 0 (.take 1 (.take 2 (.take 3 (.one 4 (.reck 5 (.one 6 (.one 7 (.one 8 .done))))))))
def g_hazelref08_Items_4 : List Nat := [2, 47, 48, 51, 52]
/-- hazel/hazelref08.Items, region 10. -/
def p_hazelref08_Items_10 : VPlan := .take 0 (.take 1 (.take 2 (.take 3 (.take 4 (.one 5 (.reck 6 (.one 7 (.one 8 (.one 9 (.one 10 .done))))))))))
def g_hazelref08_Items_10 : List Nat := [2]
/-- hazel/hazelref08.Items, region 12. -/
def p_hazelref08_Items_12 : VPlan := .take 0 (.take 1 (.take 2 (.take 3 (.one 4 (.reck 5 (.one 6 (.one 7 (.one 8 .done))))))))
def g_hazelref08_Items_12 : List Nat := [2, 47, 48, 51, 52]
/-- hazel/hazelref03.Same, region 8. -/
def p_hazelref03_Same_8 : VPlan := .take 0 (.take 1 (.take 2 (.take 3 (.take 4 (.take 5 (.take 6 (.take 7 (.take 8 (.take 9 (.one 10 (.one 11 .done)))))))))))
def g_hazelref03_Same_8 : List Nat := [2, 3]
/-- hazel/hazelref02.Ints, region 6. -/
def p_hazelref02_Ints_6 : VPlan := .take 0 (.take 1 (.take 2 (.take 3 (.take 4 (.take 5 (.take 6 (.take 7 (.take 8 .done))))))))
def g_hazelref02_Ints_6 : List Nat := []
/-- hazel/msq.Step, region 10. -/
def p_msq_Step_10 : VPlan := .take 0 (.take 1 (.take 2 (.take 3 (.take 4 (.take 5 (.take 6 (.take 7 (.take 8 (.one 9 (.one 10 (.one 11 .done)))))))))))
def g_msq_Step_10 : List Nat := [2, 5, 7, 8, 33, 37, 65]
/-- hazel/hazellaw09.shown, region 8. -/
def p_hazellaw09_shown_8 : VPlan := .take 0 (.take 1 (.take 2 (.take 3 (.take 4 (.take 5 (.take 6 (.take 7 (.take 8 (.take 9 (.take 10 (.take 11 (.take 12 (.take 13 (.take 14 (.take 15 (.take 16 (.take 17 (.take 18 (.take 19 (.take 20 (.take 21 (.take 22 (.take 23 (.take 24 (.take 25 .done)))))))))))))))))))))))))
def g_hazellaw09_shown_8 : List Nat := [1, 5, 9, 60, 65, 70]
/-- hazel/list.Keys, region 11. -/
def p_list_Keys_11 : VPlan := .take 0 (.take 1 (.take 2 (.take 3 (.one 4 (.reck 5 (.one 6 (.one 7 .done)))))))
def g_list_Keys_11 : List Nat := [2, 26, 71, 72, 81, 82]
/-- hazel/list.Keys, region 13. -/
def p_list_Keys_13 : VPlan := .take 0 (.take 1 (.take 2 (.take 3 (.take 4 (.one 5 (.reck 6 (.one 7 (.one 8 (.one 9 (.one 10 .done))))))))))
def g_list_Keys_13 : List Nat := [2]
/-- hazel/list.Keys, region 14. -/
def p_list_Keys_14 : VPlan := .take 0 (.take 1 (.take 2 (.take 3 (.take 4 (.one 5 (.reck 6 (.one 7 (.one 8 (.one 9 (.one 10 .done))))))))))
def g_list_Keys_14 : List Nat := [2]
/-- hazel/hazelref09.Keys, region 11. -/
def p_hazelref09_Keys_11 : VPlan := .take 0 (.take 1 (.take 2 (.take 3 (.one 4 (.reck 5 (.one 6 (.one 7 .done)))))))
def g_hazelref09_Keys_11 : List Nat := [2, 44, 45, 64, 65, 74, 75]
/-- hazel/hazelref09.Keys, region 13. -/
def p_hazelref09_Keys_13 : VPlan := .take 0 (.take 1 (.take 2 (.take 3 (.take 4 (.one 5 (.reck 6 (.one 7 (.one 8 (.one 9 (.one 10 .done))))))))))
def g_hazelref09_Keys_13 : List Nat := [2]
/-- hazel/hazelref09.Keys, region 14. -/
def p_hazelref09_Keys_14 : VPlan := .take 0 (.take 1 (.take 2 (.take 3 (.take 4 (.one 5 (.reck 6 (.one 7 (.one 8 (.one 9 (.one 10 .done))))))))))
def g_hazelref09_Keys_14 : List Nat := [2]
/-- hazel/hazellaw12.shown, region 6. -/
def p_hazellaw12_shown_6 : VPlan := .take 0 (.take 1 (.take 2 (.take 3 (.take 4 (.take 5 (.take 6 (.take 7 (.take 8 (.take 9 (.take 10 (.take 11 (.take 12 (.take 13 (.take 14 (.take 15 (.take 16 (.take 17 (.take 18 (.take 19 (.take 20 (.take 21 (.take 22 (.take 23 (.take 24 (.take 25 .done)))))))))))))))))))))))))
def g_hazellaw12_shown_6 : List Nat := [1, 3, 4, 5]
/-- hazel/event.Make, region 6. -/
def p_event_Make_6 : VPlan := .take 0 (.take 2 (.take 4 (.two 1 3 (.one 3 (.one 5 (.take 6 (.one 7 .done)))) (.one 1 (.one 5 (.take 6 (.one 7 .done)))))))
def g_event_Make_6 : List Nat := [6]
/-- hazel/hazelref12.Make, region 4. -/
def p_hazelref12_Make_4 : VPlan := .take 0 (.take 1 (.take 2 (.take 3 (.one 4 (.one 5 (.one 6 (.one 7 (.one 8 .done))))))))
def g_hazelref12_Make_4 : List Nat := [3]
/-- hazel/hazelref12.Make, region 5. -/
def p_hazelref12_Make_5 : VPlan := .take 0 (.take 1 (.take 2 (.take 3 (.one 4 (.one 5 (.one 6 (.one 7 (.one 8 .done))))))))
def g_hazelref12_Make_5 : List Nat := [3]
/-- hazel/event.Is, region 3. -/
def p_event_Is_3 : VPlan := .take 0 (.take 1 (.take 2 (.take 3 (.one 4 (.reck 5 (.one 6 (.one 7 .done)))))))
def g_event_Is_3 : List Nat := [2]
/-- hazel/hazelref12.Is, region 3. -/
def p_hazelref12_Is_3 : VPlan := .take 0 (.take 1 (.take 2 (.take 3 (.one 4 (.reck 5 (.one 6 (.one 7 .done)))))))
def g_hazelref12_Is_3 : List Nat := [2]
/-- hazel/event.Step, region 10. -/
def p_event_Step_10 : VPlan := .take 0 (.take 2 (.take 10 (.two 1 3 (.one 3 (.one 4 (.reck 5 (.reck 6 (.reck 7 (.take 8 (.one 9 (.take 11 (.one 12 .done))))))))) (.one 1 (.one 4 (.reck 5 (.reck 6 (.reck 7 (.take 8 (.one 9 (.take 11 (.one 12 .done))))))))))))
def g_event_Step_10 : List Nat := [3, 4, 7, 10, 12]
/-- hazel/event.Step, region 18. -/
def p_event_Step_18 : VPlan := .take 1 (.take 2 (.take 4 (.take 5 (.take 6 (.two 0 8 (.three 3 7 8 (.two 7 8 (.one 8 (.one 9 (.one 10 .done))) (.one 7 (.one 9 (.one 10 .done)))) (.two 3 8 (.one 8 (.one 9 (.one 10 .done))) (.one 3 (.one 9 (.one 10 .done)))) (.two 3 7 (.one 7 (.one 9 (.one 10 .done))) (.one 3 (.one 9 (.one 10 .done))))) (.one 0 (.two 3 7 (.one 7 (.one 9 (.one 10 .done))) (.one 3 (.one 9 (.one 10 .done))))))))))
def g_event_Step_18 : List Nat := [2, 3, 4, 5, 7, 12]
/-- hazel/event.Step, region 21. -/
def p_event_Step_21 : VPlan := .take 0 (.take 1 (.take 2 (.take 4 (.take 5 (.take 6 (.take 7 (.take 8 (.take 9 (.take 10 (.take 11 (.take 12 (.two 3 18 (.two 13 18 (.two 14 18 (.reck 15 (.reck 16 (.reck 17 (.one 18 (.one 19 (.one 20 .done)))))) (.one 14 (.reck 15 (.reck 16 (.reck 17 (.one 19 (.one 20 .done))))))) (.one 13 (.one 14 (.reck 15 (.reck 16 (.reck 17 (.one 19 (.one 20 .done)))))))) (.one 3 (.one 13 (.one 14 (.reck 15 (.reck 16 (.reck 17 (.one 19 (.one 20 .done))))))))))))))))))))
def g_event_Step_21 : List Nat := [2, 3, 4, 5, 7, 10]
/-- hazel/hazelref12.Step, region 8. -/
def p_hazelref12_Step_8 : VPlan := .take 0 (.take 1 (.take 2 (.two 3 8 (.two 4 8 (.reck 5 (.reck 6 (.reck 7 (.one 8 (.one 9 (.one 10 .done)))))) (.one 4 (.reck 5 (.reck 6 (.reck 7 (.one 9 (.one 10 .done))))))) (.one 3 (.one 4 (.reck 5 (.reck 6 (.reck 7 (.one 9 (.one 10 .done))))))))))
def g_hazelref12_Step_8 : List Nat := [2, 4, 5]
/-- hazel/hazelref04.New, region 4. -/
def p_hazelref04_New_4 : VPlan := .take 0 (.take 1 (.take 2 (.one 3 (.one 4 (.one 5 .done)))))
def g_hazelref04_New_4 : List Nat := [5]
/-- hazel/hazelref03.Top, region 3. -/
def p_hazelref03_Top_3 : VPlan := .take 0 (.take 1 (.take 2 (.take 3 (.take 4 (.take 5 (.take 6 (.take 7 (.take 8 (.take 9 (.take 10 (.take 11 (.take 12 (.take 13 (.take 14 (.take 15 (.one 16 (.one 17 .done)))))))))))))))))
def g_hazelref03_Top_3 : List Nat := [2]
/-- hazel/hazelref02.Store, region 5. -/
def p_hazelref02_Store_5 : VPlan := .take 0 (.take 1 (.take 2 (.take 3 (.take 4 (.one 5 (.reck 6 (.one 7 .done)))))))
def g_hazelref02_Store_5 : List Nat := [3, 22, 25]
/-- hazel/hazellaw11.shown, region 9. -/
def p_hazellaw11_shown_9 : VPlan := .take 0 (.take 1 (.take 2 (.take 3 (.take 4 (.take 5 (.take 6 (.take 7 (.take 8 (.take 9 (.take 10 (.take 11 (.take 12 (.take 13 (.take 14 (.take 15 (.take 16 (.take 17 (.take 18 (.take 19 (.take 20 (.take 21 (.take 22 (.take 23 (.take 24 (.take 25 (.take 26 (.take 27 (.take 28 (.take 29 (.take 30 (.take 31 (.take 32 (.take 33 (.take 34 (.take 35 (.take 36 (.take 37 (.take 38 (.take 39 (.take 40 (.take 41 (.take 42 (.take 43 (.take 44 (.take 45 (.take 46 .done))))))))))))))))))))))))))))))))))))))))))))))
def g_hazellaw11_shown_9 : List Nat := [1, 7, 8]
/-- hazel/table.Make, region 4. -/
def p_table_Make_4 : VPlan := .take 0 (.take 1 (.take 2 (.take 3 (.take 4 (.one 5 (.one 6 (.one 7 .done)))))))
def g_table_Make_4 : List Nat := [1, 2, 8, 10, 12, 15, 78]
/-- hazel/table.Make, region 5. -/
def p_table_Make_5 : VPlan := .take 0 (.take 1 (.two 2 7 (.two 3 7 (.reck 4 (.reck 5 (.reck 6 (.one 7 (.one 8 (.one 9 .done)))))) (.one 3 (.reck 4 (.reck 5 (.reck 6 (.one 8 (.one 9 .done))))))) (.one 2 (.one 3 (.reck 4 (.reck 5 (.reck 6 (.one 8 (.one 9 .done)))))))))
def g_table_Make_5 : List Nat := [1, 2, 7, 10, 12, 15, 78]
/-- hazel/table.Make, region 7. -/
def p_table_Make_7 : VPlan := .take 1 (.take 2 (.take 5 (.two 0 3 (.one 3 (.one 4 (.one 6 (.one 7 .done)))) (.one 0 (.one 4 (.one 6 (.one 7 .done)))))))
def g_table_Make_7 : List Nat := [1, 2, 8, 10, 12, 15, 78]
/-- hazel/table.Make, region 8. -/
def p_table_Make_8 : VPlan := .take 0 (.take 1 (.two 2 7 (.two 3 7 (.reck 4 (.reck 5 (.reck 6 (.one 7 (.one 8 (.one 9 .done)))))) (.one 3 (.reck 4 (.reck 5 (.reck 6 (.one 8 (.one 9 .done))))))) (.one 2 (.one 3 (.reck 4 (.reck 5 (.reck 6 (.one 8 (.one 9 .done)))))))))
def g_table_Make_8 : List Nat := [1, 2, 7, 8, 10, 15, 78]
/-- hazel/table.Make, region 17. -/
def p_table_Make_17 : VPlan := .take 1 (.two 0 2 (.one 2 (.one 3 (.one 4 .done))) (.one 0 (.one 3 (.one 4 .done))))
def g_table_Make_17 : List Nat := [1, 2, 8, 10, 12, 15, 78]
/-- hazel/hazelref11.Make, region 6. -/
def p_hazelref11_Make_6 : VPlan := .take 0 (.take 1 (.take 2 (.take 3 (.one 4 (.reck 5 (.one 6 (.one 7 .done)))))))
def g_hazelref11_Make_6 : List Nat := [1, 2, 9]
/-- hazel/hazelref11.Make, region 7. -/
def p_hazelref11_Make_7 : VPlan := .take 0 (.take 1 (.take 2 (.take 3 (.two 4 6 (.two 5 6 (.one 6 (.one 7 .done)) (.one 5 (.one 7 .done))) (.one 4 (.one 5 (.one 7 .done)))))))
def g_hazelref11_Make_7 : List Nat := [1, 2]
/-- hazel/hazelref11.Make, region 9. -/
def p_hazelref11_Make_9 : VPlan := .take 0 (.take 1 (.take 2 (.one 3 (.reck 4 (.one 5 (.one 6 .done))))))
def g_hazelref11_Make_9 : List Nat := [1, 2, 9]
/-- hazel/hazelref11.Make, region 10. -/
def p_hazelref11_Make_10 : VPlan := .take 1 (.take 3 (.two 0 2 (.one 2 (.one 4 (.one 5 (.one 6 .done)))) (.two 0 4 (.one 4 (.one 5 (.one 6 .done))) (.one 0 (.one 5 (.one 6 .done))))))
def g_hazelref11_Make_10 : List Nat := [1, 2]
/-- hazel/hazelref11.Make, region 11. -/
def p_hazelref11_Make_11 : VPlan := .take 1 (.two 0 2 (.one 2 (.one 3 (.one 4 .done))) (.one 0 (.one 3 (.one 4 .done))))
def g_hazelref11_Make_11 : List Nat := [1, 2]
/-- hazel/hazelref11.Make, region 12. -/
def p_hazelref11_Make_12 : VPlan := .take 1 (.two 0 2 (.one 2 (.one 3 (.one 4 .done))) (.one 0 (.one 3 (.one 4 .done))))
def g_hazelref11_Make_12 : List Nat := [1, 2]
/-- hazel/table.Names, region 1. -/
def p_table_Names_1 : VPlan := .take 0 (.take 1 (.take 2 (.one 3 (.reck 4 (.one 5 (.one 6 .done))))))
def g_table_Names_1 : List Nat := [1, 58, 59, 65, 66]
/-- hazel/table.Names, region 4. -/
def p_table_Names_4 : VPlan := .take 0 (.take 1 (.one 2 (.one 3 (.reck 4 (.reck 5 (.reck 6 (.reck 7 (.one 8 (.one 9 (.one 10 .done))))))))))
def g_table_Names_4 : List Nat := [1, 58, 59, 65, 66]
/-- hazel/table.Names, region 13. -/
def p_table_Names_13 : VPlan := .take 0 (.take 1 (.take 4 (.take 5 (.take 6 (.take 7 (.take 8 (.two 2 9 (.two 3 9 (.one 9 (.one 10 (.one 11 (.one 12 .done)))) (.one 3 (.one 10 (.one 11 (.one 12 .done))))) (.one 2 (.one 3 (.one 10 (.one 11 (.one 12 .done))))))))))))
def g_table_Names_13 : List Nat := [1]
/-- hazel/hazelref11.Names, region 4. -/
def p_hazelref11_Names_4 : VPlan := .take 0 (.take 1 (.one 2 (.one 3 (.reck 4 (.reck 5 (.reck 6 (.reck 7 (.one 8 (.one 9 (.one 10 .done))))))))))
def g_hazelref11_Names_4 : List Nat := [1, 68, 69, 75, 76]
/-- hazel/stack.Walk, region 10. -/
def p_stack_Walk_10 : VPlan := .take 0 (.take 1 (.one 2 (.one 3 (.reck 4 (.reck 5 (.reck 6 (.one 7 .done)))))))
def g_stack_Walk_10 : List Nat := [1, 6, 40, 41]
/-- hazel/mem.Load, region 4. -/
def p_mem_Load_4 : VPlan := .take 0 (.take 1 (.take 2 (.take 3 (.take 4 (.take 5 (.one 6 (.one 7 .done)))))))
def g_mem_Load_4 : List Nat := [2, 6]
/-- hazel/hazelref04.Walk, region 13. -/
def p_hazelref04_Walk_13 : VPlan := .take 0 (.take 1 (.two 2 7 (.two 3 7 (.reck 4 (.reck 5 (.reck 6 (.one 7 (.one 8 (.one 9 .done)))))) (.one 3 (.reck 4 (.reck 5 (.reck 6 (.one 8 (.one 9 .done))))))) (.one 2 (.one 3 (.reck 4 (.reck 5 (.reck 6 (.one 8 (.one 9 .done)))))))))
def g_hazelref04_Walk_13 : List Nat := [1, 5, 43, 44]
/-- hazel/hazelref03.Evs, region 6. -/
def p_hazelref03_Evs_6 : VPlan := .take 0 (.take 1 (.take 2 (.take 3 (.take 4 (.take 5 (.take 6 (.take 7 (.take 8 .done))))))))
def g_hazelref03_Evs_6 : List Nat := []
/-- hazel/hazelref03.one, region 7. -/
def p_hazelref03_one_7 : VPlan := .take 0 (.take 1 (.take 2 (.take 3 (.take 4 (.take 5 (.take 6 (.take 7 (.take 8 (.take 9 (.one 10 (.one 11 .done)))))))))))
def g_hazelref03_one_7 : List Nat := [2, 3]
/-- hazel/core.Top, region 3. -/
def p_core_Top_3 : VPlan := .take 0 (.take 1 (.take 2 (.take 3 (.take 4 (.take 5 (.take 6 (.take 7 (.take 8 (.take 9 (.take 10 (.take 11 (.take 12 (.take 13 (.take 14 (.take 15 (.one 16 (.one 17 .done)))))))))))))))))
def g_core_Top_3 : List Nat := [2]
/-- hazel/hazelref08.put, region 7. -/
def p_hazelref08_put_7 : VPlan := .take 0 (.take 1 (.take 2 (.take 3 (.take 4 (.take 5 (.take 6 (.take 7 (.one 8 (.one 9 .done)))))))))
def g_hazelref08_put_7 : List Nat := [3, 5, 8, 10, 12, 14, 16, 18]
/-- hazel/hazelref08.put, region 11. -/
def p_hazelref08_put_11 : VPlan := .take 0 (.take 1 (.take 2 (.take 3 (.take 4 (.take 5 (.take 6 (.take 8 (.take 9 (.take 10 (.take 12 (.one 7 (.one 11 (.one 13 (.one 14 .done))))))))))))))
def g_hazelref08_put_11 : List Nat := [3, 5, 8, 10, 12, 14, 16, 18]
/-- hazel/hazelref08.put, region 13. -/
def p_hazelref08_put_13 : VPlan := .take 0 (.take 1 (.take 2 (.take 3 (.take 4 (.two 5 10 (.two 6 10 (.reck 7 (.reck 8 (.reck 9 (.one 10 (.one 11 (.one 12 .done)))))) (.one 6 (.reck 7 (.reck 8 (.reck 9 (.one 11 (.one 12 .done))))))) (.one 5 (.one 6 (.reck 7 (.reck 8 (.reck 9 (.one 11 (.one 12 .done))))))))))))
def g_hazelref08_put_13 : List Nat := [3, 5, 6, 10, 12, 14, 16, 18]
/-- hazel/hazelref08.put, region 17. -/
def p_hazelref08_put_17 : VPlan := .take 0 (.take 1 (.take 2 (.take 3 (.take 4 (.take 5 (.take 6 (.take 8 (.take 9 (.take 10 (.take 13 (.one 7 (.one 11 (.one 12 (.one 14 (.one 15 .done)))))))))))))))
def g_hazelref08_put_17 : List Nat := [3, 5, 8, 10, 12, 14, 16, 18]
/-- hazel/hazelref08.put, region 24. -/
def p_hazelref08_put_24 : VPlan := .take 0 (.take 1 (.take 2 (.take 3 (.take 4 (.two 5 10 (.two 6 10 (.reck 7 (.reck 8 (.reck 9 (.one 10 (.one 11 (.one 12 .done)))))) (.one 6 (.reck 7 (.reck 8 (.reck 9 (.one 11 (.one 12 .done))))))) (.one 5 (.one 6 (.reck 7 (.reck 8 (.reck 9 (.one 11 (.one 12 .done))))))))))))
def g_hazelref08_put_24 : List Nat := [3, 5, 6, 8, 12, 14, 16, 18]
/-- hazel/hazelref08.put, region 30. -/
def p_hazelref08_put_30 : VPlan := .take 0 (.take 1 (.take 2 (.take 3 (.take 4 (.take 5 (.take 6 (.take 7 (.take 8 (.take 9 (.take 10 (.take 11 (.two 12 18 (.two 13 18 (.two 14 18 (.reck 15 (.reck 16 (.reck 17 (.one 18 (.one 19 (.one 20 .done)))))) (.one 14 (.reck 15 (.reck 16 (.reck 17 (.one 19 (.one 20 .done))))))) (.one 13 (.one 14 (.reck 15 (.reck 16 (.reck 17 (.one 19 (.one 20 .done)))))))) (.one 12 (.one 13 (.one 14 (.reck 15 (.reck 16 (.reck 17 (.one 19 (.one 20 .done))))))))))))))))))))
def g_hazelref08_put_30 : List Nat := [3, 5, 6, 8, 10, 14, 16, 18]
/-- hazel/hazelref08.put, region 33. -/
def p_hazelref08_put_33 : VPlan := .take 0 (.take 1 (.take 2 (.take 3 (.take 4 (.take 6 (.take 7 (.take 8 (.take 9 (.take 10 (.take 11 (.take 12 (.take 13 (.take 14 (.two 5 20 (.two 15 20 (.two 16 20 (.reck 17 (.reck 18 (.reck 19 (.one 20 (.one 21 (.one 22 .done)))))) (.one 16 (.reck 17 (.reck 18 (.reck 19 (.one 21 (.one 22 .done))))))) (.one 15 (.one 16 (.reck 17 (.reck 18 (.reck 19 (.one 21 (.one 22 .done)))))))) (.one 5 (.one 15 (.one 16 (.reck 17 (.reck 18 (.reck 19 (.one 21 (.one 22 .done))))))))))))))))))))))
def g_hazelref08_put_33 : List Nat := [3, 5, 6, 8, 10, 12, 16, 18]
/-- hazel/hazelref08.put, region 36. -/
def p_hazelref08_put_36 : VPlan := .take 0 (.take 1 (.take 2 (.take 3 (.take 5 (.take 6 (.take 7 (.take 8 (.take 9 (.take 10 (.take 11 (.take 12 (.one 4 (.one 13 (.one 14 .done))))))))))))))
def g_hazelref08_put_36 : List Nat := [3, 5, 8, 10, 12, 14, 16, 18]
/-- hazel/hazelref08.put, region 38. -/
def p_hazelref08_put_38 : VPlan := .take 0 (.take 1 (.take 2 (.take 3 (.take 4 (.take 5 (.take 6 (.take 7 (.take 8 (.take 9 (.take 10 (.take 11 (.two 12 17 (.two 13 17 (.reck 14 (.reck 15 (.reck 16 (.one 17 (.one 18 (.one 19 .done)))))) (.one 13 (.reck 14 (.reck 15 (.reck 16 (.one 18 (.one 19 .done))))))) (.one 12 (.one 13 (.reck 14 (.reck 15 (.reck 16 (.one 18 (.one 19 .done)))))))))))))))))))
def g_hazelref08_put_38 : List Nat := [3, 5, 6, 8, 10, 12, 14, 18]
/-- hazel/hazelref08.put, region 41. -/
def p_hazelref08_put_41 : VPlan := .take 0 (.take 1 (.take 2 (.two 3 5 (.two 4 5 (.one 5 (.one 6 .done)) (.one 4 (.one 6 .done))) (.one 3 (.one 4 (.one 6 .done))))))
def g_hazelref08_put_41 : List Nat := [3, 5, 6, 8, 10, 12, 14, 16]
/-- hazel/hazelref08.take, region 14. -/
def p_hazelref08_take_14 : VPlan := .take 0 (.take 1 (.take 2 (.take 3 (.take 4 (.two 5 10 (.two 6 10 (.reck 7 (.reck 8 (.reck 9 (.one 10 (.one 11 (.one 12 .done)))))) (.one 6 (.reck 7 (.reck 8 (.reck 9 (.one 11 (.one 12 .done))))))) (.one 5 (.one 6 (.reck 7 (.reck 8 (.reck 9 (.one 11 (.one 12 .done))))))))))))
def g_hazelref08_take_14 : List Nat := [3, 5, 6, 9, 13, 15, 17, 19, 21, 22]
/-- hazel/hazelref08.take, region 19. -/
def p_hazelref08_take_19 : VPlan := .take 0 (.take 1 (.take 2 (.take 3 (.take 5 (.take 6 (.take 7 (.take 8 (.take 9 (.one 4 (.one 10 (.one 11 .done)))))))))))
def g_hazelref08_take_19 : List Nat := [3, 5, 9, 11, 13, 15, 17, 19, 21, 22]
/-- hazel/hazelref08.take, region 20. -/
def p_hazelref08_take_20 : VPlan := .take 0 (.take 1 (.take 2 (.take 4 (.take 5 (.take 6 (.one 3 (.one 7 (.reck 8 .done))))))))
def g_hazelref08_take_20 : List Nat := [3, 5, 6, 9, 11, 13, 15, 17, 19, 21, 22]
/-- hazel/hazelref08.take, region 24. -/
def p_hazelref08_take_24 : VPlan := .take 0 (.take 1 (.take 2 (.take 3 (.take 4 (.take 5 (.take 6 (.take 7 (.take 8 (.take 9 (.take 10 (.two 11 16 (.two 12 16 (.reck 13 (.reck 14 (.reck 15 (.one 16 (.one 17 (.one 18 .done)))))) (.one 12 (.reck 13 (.reck 14 (.reck 15 (.one 17 (.one 18 .done))))))) (.one 11 (.one 12 (.reck 13 (.reck 14 (.reck 15 (.one 17 (.one 18 .done))))))))))))))))))
def g_hazelref08_take_24 : List Nat := [3, 5, 6, 9, 11, 15, 17, 19, 21, 22]
/-- hazel/hazelref08.take, region 27. -/
def p_hazelref08_take_27 : VPlan := .take 0 (.take 1 (.take 2 (.take 3 (.take 4 (.take 6 (.take 8 (.one 5 (.one 7 (.one 9 (.one 10 .done))))))))))
def g_hazelref08_take_27 : List Nat := [3, 5, 9, 11, 13, 15, 17, 19, 21, 22]
/-- hazel/hazelref08.take, region 34. -/
def p_hazelref08_take_34 : VPlan := .take 0 (.take 1 (.take 2 (.take 3 (.take 4 (.two 5 10 (.two 6 10 (.reck 7 (.reck 8 (.reck 9 (.one 10 (.one 11 (.one 12 .done)))))) (.one 6 (.reck 7 (.reck 8 (.reck 9 (.one 11 (.one 12 .done))))))) (.one 5 (.one 6 (.reck 7 (.reck 8 (.reck 9 (.one 11 (.one 12 .done))))))))))))
def g_hazelref08_take_34 : List Nat := [3, 5, 6, 9, 11, 13, 15, 19, 21, 22]
/-- hazel/hazelref08.take, region 38. -/
def p_hazelref08_take_38 : VPlan := .take 0 (.take 1 (.take 2 (.take 3 (.take 4 (.take 5 (.take 6 (.take 7 (.take 8 (.take 9 (.two 10 15 (.two 11 15 (.reck 12 (.reck 13 (.reck 14 (.one 15 (.one 16 (.one 17 .done)))))) (.one 11 (.reck 12 (.reck 13 (.reck 14 (.one 16 (.one 17 .done))))))) (.one 10 (.one 11 (.reck 12 (.reck 13 (.reck 14 (.one 16 (.one 17 .done)))))))))))))))))
def g_hazelref08_take_38 : List Nat := [3, 5, 6, 9, 11, 13, 15, 17, 21, 22]
/-- hazel/hazelref08.take, region 42. -/
def p_hazelref08_take_42 : VPlan := .take 0 (.take 1 (.take 3 (.take 4 (.take 5 (.take 6 (.take 7 (.take 8 (.take 9 (.take 10 (.two 2 12 (.two 11 12 (.one 12 (.one 13 .done)) (.one 11 (.one 13 .done))) (.one 2 (.one 11 (.one 13 .done)))))))))))))
def g_hazelref08_take_42 : List Nat := [3, 5, 6, 9, 11, 13, 15, 17, 19, 22]
/-- hazel/hazelref08.take, region 43. -/
def p_hazelref08_take_43 : VPlan := .take 0 (.take 1 (.take 2 (.take 3 (.take 4 (.take 5 (.one 6 (.one 7 (.one 8 .done))))))))
def g_hazelref08_take_43 : List Nat := [3, 5, 9, 11, 13, 15, 17, 19, 21, 22]
/-- hazel/hazelref08.take, region 45. -/
def p_hazelref08_take_45 : VPlan := .take 0 (.take 1 (.take 2 (.take 3 (.take 4 (.take 7 (.one 5 (.one 6 (.one 8 (.one 9 .done)))))))))
def g_hazelref08_take_45 : List Nat := [3, 5, 9, 11, 13, 15, 17, 19, 21, 22]
/-- hazel/hazelref08.take, region 47. -/
def p_hazelref08_take_47 : VPlan := .take 0 (.take 1 (.take 2 (.two 3 5 (.two 4 5 (.one 5 (.one 6 .done)) (.one 4 (.one 6 .done))) (.one 3 (.one 4 (.one 6 .done))))))
def g_hazelref08_take_47 : List Nat := [3, 5, 6, 9, 11, 13, 15, 17, 19, 21]
/-- hazel/hazelref08.take, region 48. -/
def p_hazelref08_take_48 : VPlan := .take 0 (.take 1 (.take 3 (.take 4 (.take 5 (.take 6 (.take 7 (.take 8 (.take 9 (.one 2 (.one 10 (.one 11 .done)))))))))))
def g_hazelref08_take_48 : List Nat := [3, 5, 9, 11, 13, 15, 17, 19, 21, 22]
/-- (*hazel/list.work).find, region 4. -/
def p_list_work_find_4 : VPlan := .take 0 (.take 1 (.take 2 (.take 3 (.take 4 (.take 6 (.take 7 (.take 8 (.take 9 (.take 12 (.take 15 (.two 5 10 (.one 10 (.one 11 (.take 13 (.one 14 (.take 16 (.one 17 .done)))))) (.two 5 11 (.one 11 (.take 13 (.one 14 (.take 16 (.one 17 .done))))) (.one 5 (.take 13 (.one 14 (.take 16 (.one 17 .done)))))))))))))))))
def g_list_work_find_4 : List Nat := [2]
/-- (*hazel/list.work).find, region 10. -/
def p_list_work_find_10 : VPlan := .take 0 (.take 1 (.take 2 (.take 3 (.take 4 (.take 5 (.take 7 (.take 8 (.take 9 (.take 10 (.one 6 (.reck 11 (.one 12 (.one 13 .done)))))))))))))
def g_list_work_find_10 : List Nat := [106]
/-- (*hazel/list.work).find, region 12. -/
def p_list_work_find_12 : VPlan := .take 0 (.take 1 (.take 2 (.take 3 (.take 4 (.take 8 (.one 5 (.one 6 (.one 7 (.take 9 (.one 10 .done))))))))))
def g_list_work_find_12 : List Nat := [2]
/-- (*hazel/list.work).find, region 15. -/
def p_list_work_find_15 : VPlan := .take 0 (.take 1 (.take 2 (.take 3 (.take 4 (.take 5 (.take 6 (.take 7 (.take 8 (.take 9 (.take 10 (.take 11 (.take 12 (.one 13 (.one 14 (.reck 15 .done)))))))))))))))
def g_list_work_find_15 : List Nat := [2, 106]
/-- (*hazel/list.work).find, region 19. -/
def p_list_work_find_19 : VPlan := .take 0 (.take 1 (.take 2 (.take 3 (.take 4 (.take 7 (.one 5 (.one 6 (.take 8 (.one 9 .done)))))))))
def g_list_work_find_19 : List Nat := [2]
/-- (*hazel/list.work).find, region 22. -/
def p_list_work_find_22 : VPlan := .take 0 (.take 1 (.take 2 (.take 3 (.take 4 (.take 8 (.one 5 (.one 6 (.one 7 (.take 9 (.one 10 .done))))))))))
def g_list_work_find_22 : List Nat := [2]
/-- (*hazel/list.work).find, region 23. -/
def p_list_work_find_23 : VPlan := .take 0 (.take 1 (.take 2 (.take 3 (.take 4 (.take 5 (.take 6 (.take 7 (.take 8 (.take 9 (.one 10 (.one 11 .done)))))))))))
def g_list_work_find_23 : List Nat := [106]
/-- (*hazel/list.work).find, region 28. -/
def p_list_work_find_28 : VPlan := .take 0 (.take 1 (.take 2 (.take 3 (.take 6 (.one 4 (.one 5 (.take 7 (.one 8 .done))))))))
def g_list_work_find_28 : List Nat := [2]
/-- (*hazel/list.work).find, region 29. -/
def p_list_work_find_29 : VPlan := .take 0 (.take 1 (.take 2 (.take 3 (.take 4 (.take 7 (.one 5 (.one 6 (.take 8 (.one 9 .done)))))))))
def g_list_work_find_29 : List Nat := [2]
/-- (*hazel/list.work).find, region 32. -/
def p_list_work_find_32 : VPlan := .take 0 (.take 1 (.take 2 (.take 3 (.take 4 (.take 6 (.take 7 (.take 8 (.take 9 (.one 5 (.reck 10 (.one 11 .done)))))))))))
def g_list_work_find_32 : List Nat := [2, 106]
/-- (*hazel/list.work).find, region 35. -/
def p_list_work_find_35 : VPlan := .take 0 (.take 1 (.take 2 (.take 3 (.take 4 (.take 5 (.take 6 (.take 7 (.take 8 (.one 9 .done)))))))))
def g_list_work_find_35 : List Nat := [2, 106]
/-- (*hazel/list.work).find, region 39. -/
def p_list_work_find_39 : VPlan := .take 0 (.take 1 (.take 2 (.take 3 (.take 4 (.take 8 (.one 5 (.one 6 (.one 7 (.take 9 (.one 10 .done))))))))))
def g_list_work_find_39 : List Nat := [2]
/-- (*hazel/list.work).get, region 2. -/
def p_list_work_get_2 : VPlan := .take 0 (.take 1 (.take 2 (.take 3 (.take 4 (.take 5 (.take 6 (.take 7 (.take 8 (.take 9 (.take 10 (.one 11 (.one 12 .done))))))))))))
def g_list_work_get_2 : List Nat := [2, 36]
/-- (*hazel/list.work).get, region 5. -/
def p_list_work_get_5 : VPlan := .take 0 (.take 1 (.take 2 (.take 3 (.take 4 (.take 5 (.take 6 (.take 7 (.take 8 (.one 9 (.one 10 (.one 11 .done)))))))))))
def g_list_work_get_5 : List Nat := [4, 36]
/-- (*hazel/list.work).get, region 8. -/
def p_list_work_get_8 : VPlan := .take 0 (.take 1 (.take 2 (.take 3 (.take 5 (.one 4 (.take 6 (.one 7 .done)))))))
def g_list_work_get_8 : List Nat := [2, 4]
/-- (*hazel/list.work).get, region 10. -/
def p_list_work_get_10 : VPlan := .take 0 (.take 1 (.take 2 (.take 3 (.take 4 (.take 5 (.one 6 .done))))))
def g_list_work_get_10 : List Nat := [2, 4]
/-- (*hazel/list.work).get, region 13. -/
def p_list_work_get_13 : VPlan := .take 0 (.take 1 (.take 2 (.take 3 (.take 4 (.take 5 (.take 9 (.take 12 (.one 6 (.one 7 (.one 8 (.take 10 (.one 11 (.take 13 (.one 14 .done))))))))))))))
def g_list_work_get_13 : List Nat := [2, 4]
/-- (*hazel/list.work).get, region 17. -/
def p_list_work_get_17 : VPlan := .take 0 (.take 1 (.take 2 (.take 3 (.take 4 (.take 5 (.take 6 (.take 7 (.take 8 (.one 9 (.one 10 .done))))))))))
def g_list_work_get_17 : List Nat := [4, 36]
/-- (*hazel/list.work).ins, region 2. -/
def p_list_work_ins_2 : VPlan := .take 0 (.take 1 (.take 2 (.take 3 (.take 4 (.take 5 (.take 6 (.take 7 (.take 8 (.take 9 (.take 10 (.one 11 (.one 12 .done))))))))))))
def g_list_work_ins_2 : List Nat := [2, 91, 103]
/-- (*hazel/list.work).ins, region 9. -/
def p_list_work_ins_9 : VPlan := .take 0 (.take 1 (.take 2 (.take 3 (.take 4 (.take 5 (.take 6 (.take 7 (.take 8 (.take 9 (.one 10 (.one 11 .done)))))))))))
def g_list_work_ins_9 : List Nat := [4, 91, 103]
/-- (*hazel/list.work).ins, region 10. -/
def p_list_work_ins_10 : VPlan := .take 0 (.take 1 (.take 2 (.take 3 (.take 4 (.one 5 .done)))))
def g_list_work_ins_10 : List Nat := [2, 4]
/-- (*hazel/list.work).ins, region 12. -/
def p_list_work_ins_12 : VPlan := .take 0 (.take 1 (.take 2 (.take 3 (.take 4 (.take 6 (.take 7 (.take 8 (.take 9 (.one 5 (.one 10 .done))))))))))
def g_list_work_ins_12 : List Nat := [2, 4, 91, 103]
/-- (*hazel/list.work).ins, region 14. -/
def p_list_work_ins_14 : VPlan := .take 0 (.take 1 (.take 2 (.take 3 (.take 4 (.take 6 (.take 7 (.take 8 (.take 9 (.one 5 (.one 10 .done))))))))))
def g_list_work_ins_14 : List Nat := [2, 4, 91, 103]
/-- (*hazel/list.work).ins, region 16. -/
def p_list_work_ins_16 : VPlan := .take 0 (.take 1 (.take 2 (.take 3 (.take 4 (.take 5 (.take 6 (.take 7 (.take 8 (.one 9 (.one 10 (.one 11 .done)))))))))))
def g_list_work_ins_16 : List Nat := [4, 91, 103]
/-- (*hazel/list.work).ins, region 20. -/
def p_list_work_ins_20 : VPlan := .take 0 (.take 1 (.take 2 (.take 3 (.take 4 (.take 5 (.take 6 (.take 7 (.take 8 (.take 9 (.take 11 (.one 10 (.take 12 (.one 13 .done)))))))))))))
def g_list_work_ins_20 : List Nat := [2, 4]
/-- (*hazel/list.work).ins, region 22. -/
def p_list_work_ins_22 : VPlan := .take 0 (.take 1 (.take 2 (.take 3 (.take 4 (.take 8 (.one 5 (.one 6 (.one 7 (.take 9 (.one 10 .done))))))))))
def g_list_work_ins_22 : List Nat := [2, 4]
/-- (*hazel/list.work).ins, region 24. -/
def p_list_work_ins_24 : VPlan := .take 0 (.take 1 (.take 2 (.take 3 (.take 4 (.take 6 (.take 7 (.take 8 (.take 9 (.take 10 (.take 11 (.take 12 (.take 13 (.one 5 (.one 14 (.one 15 (.one 16 .done))))))))))))))))
def g_list_work_ins_24 : List Nat := [2, 4, 91, 103]
/-- (*hazel/list.work).ins, region 26. -/
def p_list_work_ins_26 : VPlan := .take 0 (.take 1 (.take 2 (.take 3 (.take 4 (.take 5 (.take 6 (.take 7 (.take 8 (.take 9 (.take 10 (.take 11 (.take 12 (.one 13 (.reck 14 .done))))))))))))))
def g_list_work_ins_26 : List Nat := [2, 4, 91, 103]
/-- (*hazel/list.work).ins, region 33. -/
def p_list_work_ins_33 : VPlan := .take 0 (.take 1 (.take 2 (.take 3 (.take 5 (.one 4 (.take 6 (.one 7 .done)))))))
def g_list_work_ins_33 : List Nat := [2, 4]
/-- (*hazel/list.work).del, region 2. -/
def p_list_work_del_2 : VPlan := .take 0 (.take 1 (.take 2 (.take 3 (.take 4 (.take 5 (.take 6 (.take 7 (.take 8 (.take 9 (.take 10 (.one 11 (.one 12 .done))))))))))))
def g_list_work_del_2 : List Nat := [2, 36, 139, 152]
/-- (*hazel/list.work).del, region 5. -/
def p_list_work_del_5 : VPlan := .take 0 (.take 1 (.take 2 (.take 3 (.take 4 (.take 5 (.take 6 (.take 7 (.take 8 (.one 9 (.one 10 (.one 11 .done)))))))))))
def g_list_work_del_5 : List Nat := [4, 36, 139, 152]
/-- (*hazel/list.work).del, region 8. -/
def p_list_work_del_8 : VPlan := .take 0 (.take 1 (.take 2 (.take 3 (.take 5 (.one 4 (.take 6 (.one 7 .done)))))))
def g_list_work_del_8 : List Nat := [2, 4]
/-- (*hazel/list.work).del, region 10. -/
def p_list_work_del_10 : VPlan := .take 0 (.take 1 (.take 2 (.take 3 (.take 4 (.take 5 (.take 6 (.take 7 (.take 8 (.take 9 (.take 10 (.take 11 (.take 12 (.take 13 (.take 15 (.take 18 (.one 14 (.take 16 (.one 17 (.take 19 (.one 20 .done))))))))))))))))))))
def g_list_work_del_10 : List Nat := [2, 4]
/-- (*hazel/list.work).del, region 13. -/
def p_list_work_del_13 : VPlan := .take 0 (.take 1 (.take 2 (.take 3 (.take 4 (.take 6 (.take 7 (.take 8 (.take 9 (.take 10 (.take 11 (.take 12 (.take 13 (.one 5 (.one 14 (.one 15 (.reck 16 .done))))))))))))))))
def g_list_work_del_13 : List Nat := [2, 4, 36, 139, 152]
/-- (*hazel/list.work).del, region 18. -/
def p_list_work_del_18 : VPlan := .take 0 (.take 1 (.take 2 (.take 3 (.take 4 (.take 5 (.take 9 (.take 12 (.one 6 (.one 7 (.one 8 (.take 10 (.one 11 (.take 13 (.one 14 .done))))))))))))))
def g_list_work_del_18 : List Nat := [2, 4]
/-- (*hazel/list.work).del, region 21. -/
def p_list_work_del_21 : VPlan := .take 0 (.take 1 (.take 2 (.take 3 (.take 4 (.take 5 (.take 6 (.take 7 (.take 8 (.take 9 (.take 10 (.take 11 (.take 12 (.one 13 (.one 14 (.reck 15 .done)))))))))))))))
def g_list_work_del_21 : List Nat := [2, 4, 36, 139, 152]
/-- (*hazel/list.work).del, region 25. -/
def p_list_work_del_25 : VPlan := .take 0 (.take 1 (.take 2 (.take 3 (.take 4 (.take 5 (.take 6 (.take 7 (.take 8 (.one 9 (.one 10 (.one 11 .done)))))))))))
def g_list_work_del_25 : List Nat := [4, 36, 139, 152]
/-- (*hazel/list.work).del, region 28. -/
def p_list_work_del_28 : VPlan := .take 0 (.take 1 (.take 2 (.take 3 (.take 4 (.take 5 (.take 6 (.take 7 (.take 8 (.one 9 (.one 10 .done))))))))))
def g_list_work_del_28 : List Nat := [4, 36, 139, 152]
/-- hazel/hazelref09.find, region 8. -/
def p_hazelref09_find_8 : VPlan := .take 0 (.take 1 (.take 2 (.take 3 (.take 4 (.take 6 (.take 7 (.take 8 (.take 11 (.one 5 (.one 9 (.one 10 (.one 12 (.one 13 .done)))))))))))))
def g_hazelref09_find_8 : List Nat := [3, 5, 7, 9, 11, 13, 15, 17, 19, 21, 23]
/-- hazel/hazelref09.find, region 15. -/
def p_hazelref09_find_15 : VPlan := .take 0 (.take 1 (.take 2 (.take 3 (.take 4 (.two 5 10 (.two 6 10 (.reck 7 (.reck 8 (.reck 9 (.one 10 (.one 11 (.one 12 .done)))))) (.one 6 (.reck 7 (.reck 8 (.reck 9 (.one 11 (.one 12 .done))))))) (.one 5 (.one 6 (.reck 7 (.reck 8 (.reck 9 (.one 11 (.one 12 .done))))))))))))
def g_hazelref09_find_15 : List Nat := [3, 5, 6, 7, 9, 13, 15, 17, 19, 21, 23]
/-- hazel/hazelref09.find, region 21. -/
def p_hazelref09_find_21 : VPlan := .take 0 (.take 1 (.take 2 (.take 3 (.take 4 (.take 5 (.take 6 (.take 7 (.take 8 (.take 9 (.take 10 (.take 11 (.take 12 (.take 13 (.two 14 20 (.two 15 20 (.two 16 20 (.reck 17 (.reck 18 (.reck 19 (.one 20 (.one 21 (.one 22 .done)))))) (.one 16 (.reck 17 (.reck 18 (.reck 19 (.one 21 (.one 22 .done))))))) (.one 15 (.one 16 (.reck 17 (.reck 18 (.reck 19 (.one 21 (.one 22 .done)))))))) (.one 14 (.one 15 (.one 16 (.reck 17 (.reck 18 (.reck 19 (.one 21 (.one 22 .done))))))))))))))))))))))
def g_hazelref09_find_21 : List Nat := [3, 5, 6, 7, 9, 11, 15, 17, 19, 21, 23]
/-- hazel/hazelref09.find, region 24. -/
def p_hazelref09_find_24 : VPlan := .take 0 (.take 1 (.take 3 (.take 4 (.take 5 (.take 6 (.take 7 (.one 2 (.one 8 (.one 9 (.one 10 .done))))))))))
def g_hazelref09_find_24 : List Nat := [3, 5, 7, 9, 11, 13, 15, 17, 19, 21, 23]
/-- hazel/hazelref09.find, region 30. -/
def p_hazelref09_find_30 : VPlan := .take 0 (.take 1 (.take 2 (.take 3 (.take 4 (.two 5 10 (.two 6 10 (.reck 7 (.reck 8 (.reck 9 (.one 10 (.one 11 (.one 12 .done)))))) (.one 6 (.reck 7 (.reck 8 (.reck 9 (.one 11 (.one 12 .done))))))) (.one 5 (.one 6 (.reck 7 (.reck 8 (.reck 9 (.one 11 (.one 12 .done))))))))))))
def g_hazelref09_find_30 : List Nat := [3, 5, 6, 7, 9, 11, 13, 15, 19, 21, 23]
/-- hazel/hazelref09.find, region 36. -/
def p_hazelref09_find_36 : VPlan := .take 0 (.take 1 (.take 2 (.take 3 (.take 4 (.take 6 (.take 7 (.take 8 (.take 11 (.one 5 (.one 9 (.one 10 (.one 12 (.one 13 .done)))))))))))))
def g_hazelref09_find_36 : List Nat := [3, 5, 7, 9, 11, 13, 15, 17, 19, 21, 23]
/-- hazel/hazelref09.find, region 47. -/
def p_hazelref09_find_47 : VPlan := .take 0 (.take 1 (.take 3 (.take 4 (.one 2 (.one 5 (.one 6 .done))))))
def g_hazelref09_find_47 : List Nat := [3, 5, 7, 9, 11, 13, 15, 17, 19, 21, 23]
/-- hazel/hazelref09.find, region 50. -/
def p_hazelref09_find_50 : VPlan := .take 0 (.take 1 (.take 2 (.take 3 (.take 4 (.two 5 10 (.two 6 10 (.reck 7 (.reck 8 (.reck 9 (.one 10 (.one 11 (.one 12 .done)))))) (.one 6 (.reck 7 (.reck 8 (.reck 9 (.one 11 (.one 12 .done))))))) (.one 5 (.one 6 (.reck 7 (.reck 8 (.reck 9 (.one 11 (.one 12 .done))))))))))))
def g_hazelref09_find_50 : List Nat := [3, 5, 6, 7, 9, 11, 13, 15, 17, 19, 21]
/-- hazel/hazelref09.find, region 54. -/
def p_hazelref09_find_54 : VPlan := .take 0 (.take 1 (.take 3 (.take 4 (.one 2 (.one 5 (.one 6 .done))))))
def g_hazelref09_find_54 : List Nat := [3, 5, 7, 9, 11, 13, 15, 17, 19, 21, 23]
/-- hazel/hazelref09.get, region 12. -/
def p_hazelref09_get_12 : VPlan := .take 0 (.take 1 (.take 2 (.take 3 (.take 4 (.two 5 10 (.two 6 10 (.reck 7 (.reck 8 (.reck 9 (.one 10 (.one 11 (.one 12 .done)))))) (.one 6 (.reck 7 (.reck 8 (.reck 9 (.one 11 (.one 12 .done))))))) (.one 5 (.one 6 (.reck 7 (.reck 8 (.reck 9 (.one 11 (.one 12 .done))))))))))))
def g_hazelref09_get_12 : List Nat := [3, 5, 6]
/-- hazel/hazelref09.ins, region 6. -/
def p_hazelref09_ins_6 : VPlan := .take 0 (.take 1 (.take 2 (.take 3 (.take 4 (.take 5 (.take 6 (.take 7 (.one 8 (.one 9 .done)))))))))
def g_hazelref09_ins_6 : List Nat := [3, 5, 7, 9, 10]
/-- hazel/hazelref09.ins, region 10. -/
def p_hazelref09_ins_10 : VPlan := .take 0 (.take 1 (.take 2 (.take 3 (.take 4 (.take 5 (.take 6 (.take 8 (.take 9 (.take 10 (.take 12 (.one 7 (.one 11 (.one 13 (.one 14 .done))))))))))))))
def g_hazelref09_ins_10 : List Nat := [3, 5, 7, 9, 10]
/-- hazel/hazelref09.ins, region 12. -/
def p_hazelref09_ins_12 : VPlan := .take 0 (.take 1 (.take 2 (.take 3 (.take 4 (.take 5 (.take 6 (.take 8 (.take 9 (.take 10 (.take 12 (.one 7 (.one 11 (.one 13 (.one 14 .done))))))))))))))
def g_hazelref09_ins_12 : List Nat := [3, 5, 7, 9, 10]
/-- hazel/hazelref09.ins, region 22. -/
def p_hazelref09_ins_22 : VPlan := .take 0 (.take 1 (.take 2 (.take 3 (.take 4 (.two 5 10 (.two 6 10 (.reck 7 (.reck 8 (.reck 9 (.one 10 (.one 11 (.one 12 .done)))))) (.one 6 (.reck 7 (.reck 8 (.reck 9 (.one 11 (.one 12 .done))))))) (.one 5 (.one 6 (.reck 7 (.reck 8 (.reck 9 (.one 11 (.one 12 .done))))))))))))
def g_hazelref09_ins_22 : List Nat := [3, 5, 6, 9, 10]
/-- hazel/hazelref09.ins, region 26. -/
def p_hazelref09_ins_26 : VPlan := .take 0 (.take 1 (.take 2 (.take 3 (.take 4 (.take 6 (.take 7 (.take 8 (.take 9 (.take 10 (.take 11 (.two 5 15 (.two 12 15 (.two 13 15 (.two 14 15 (.one 15 (.one 16 .done)) (.one 14 (.one 16 .done))) (.one 13 (.one 14 (.one 16 .done)))) (.one 12 (.one 13 (.one 14 (.one 16 .done))))) (.one 5 (.one 12 (.one 13 (.one 14 (.one 16 .done))))))))))))))))
def g_hazelref09_ins_26 : List Nat := [3, 5, 6, 7, 10]
/-- hazel/hazelref09.ins, region 29. -/
def p_hazelref09_ins_29 : VPlan := .take 0 (.take 1 (.take 2 (.take 3 (.take 4 (.take 5 (.take 6 (.take 7 (.take 8 (.take 9 (.take 10 (.take 11 (.take 12 (.take 13 (.two 14 19 (.two 15 19 (.reck 16 (.reck 17 (.reck 18 (.one 19 (.one 20 (.one 21 .done)))))) (.one 15 (.reck 16 (.reck 17 (.reck 18 (.one 20 (.one 21 .done))))))) (.one 14 (.one 15 (.reck 16 (.reck 17 (.reck 18 (.one 20 (.one 21 .done)))))))))))))))))))))
def g_hazelref09_ins_29 : List Nat := [3, 5, 6, 7, 9]
/-- hazel/hazelref09.ins, region 32. -/
def p_hazelref09_ins_32 : VPlan := .take 0 (.take 1 (.take 2 (.take 3 (.take 5 (.take 6 (.take 7 (.take 8 (.take 9 (.take 10 (.take 11 (.one 4 (.one 12 (.one 13 .done)))))))))))))
def g_hazelref09_ins_32 : List Nat := [3, 5, 7, 9, 10]
/-- hazel/hazelref09.del, region 14. -/
def p_hazelref09_del_14 : VPlan := .take 0 (.take 1 (.take 2 (.take 3 (.take 4 (.take 6 (.take 7 (.take 8 (.take 9 (.take 10 (.take 11 (.take 12 (.take 13 (.take 14 (.two 5 21 (.two 15 21 (.two 16 21 (.two 17 21 (.reck 18 (.reck 19 (.reck 20 (.one 21 (.one 22 (.one 23 .done)))))) (.one 17 (.reck 18 (.reck 19 (.reck 20 (.one 22 (.one 23 .done))))))) (.one 16 (.one 17 (.reck 18 (.reck 19 (.reck 20 (.one 22 (.one 23 .done)))))))) (.one 15 (.one 16 (.one 17 (.reck 18 (.reck 19 (.reck 20 (.one 22 (.one 23 .done))))))))) (.one 5 (.one 15 (.one 16 (.one 17 (.reck 18 (.reck 19 (.reck 20 (.one 22 (.one 23 .done)))))))))))))))))))))))
def g_hazelref09_del_14 : List Nat := [3, 5, 6, 9, 11]
/-- hazel/hazelref09.del, region 17. -/
def p_hazelref09_del_17 : VPlan := .take 0 (.take 1 (.take 2 (.take 3 (.take 5 (.take 6 (.take 7 (.take 8 (.one 4 (.one 9 (.one 10 .done))))))))))
def g_hazelref09_del_17 : List Nat := [3, 5, 7, 9, 11]
/-- hazel/hazelref09.del, region 19. -/
def p_hazelref09_del_19 : VPlan := .take 0 (.take 1 (.take 2 (.take 3 (.take 4 (.two 5 10 (.two 6 10 (.reck 7 (.reck 8 (.reck 9 (.one 10 (.one 11 (.one 12 .done)))))) (.one 6 (.reck 7 (.reck 8 (.reck 9 (.one 11 (.one 12 .done))))))) (.one 5 (.one 6 (.reck 7 (.reck 8 (.reck 9 (.one 11 (.one 12 .done))))))))))))
def g_hazelref09_del_19 : List Nat := [3, 5, 6, 7, 11]
/-- hazel/hazelref09.del, region 24. -/
def p_hazelref09_del_24 : VPlan := .take 0 (.take 1 (.take 2 (.take 3 (.take 4 (.take 5 (.take 6 (.take 7 (.take 8 (.take 9 (.take 10 (.take 11 (.take 12 (.take 13 (.two 14 20 (.two 15 20 (.two 16 20 (.reck 17 (.reck 18 (.reck 19 (.one 20 (.one 21 (.one 22 .done)))))) (.one 16 (.reck 17 (.reck 18 (.reck 19 (.one 21 (.one 22 .done))))))) (.one 15 (.one 16 (.reck 17 (.reck 18 (.reck 19 (.one 21 (.one 22 .done)))))))) (.one 14 (.one 15 (.one 16 (.reck 17 (.reck 18 (.reck 19 (.one 21 (.one 22 .done))))))))))))))))))))))
def g_hazelref09_del_24 : List Nat := [3, 5, 6, 7, 9]
/-- hazel/hazelref09.del, region 27. -/
def p_hazelref09_del_27 : VPlan := .take 0 (.take 1 (.take 3 (.take 4 (.take 5 (.take 6 (.take 7 (.one 2 (.one 8 (.one 9 (.one 10 .done))))))))))
def g_hazelref09_del_27 : List Nat := [3, 5, 7, 9, 11]
/-- hazel/event.Step$1, region 1. -/
def p_event_Step_1_1 : VPlan := .take 0 (.take 1 (.take 2 (.take 3 (.take 4 (.take 6 (.take 7 (.one 5 (.one 8 (.one 9 .done)))))))))
def g_event_Step_1_1 : List Nat := []
/-- hazel/hazelref02.Load, region 1. -/
def p_hazelref02_Load_1 : VPlan := .take 0 (.take 1 (.take 2 (.take 3 (.take 4 (.take 5 (.two 6 8 (.reck 7 (.one 8 (.one 9 .done))) (.one 6 (.reck 7 (.one 9 .done)))))))))
def g_hazelref02_Load_1 : List Nat := [2, 4]
/-- hazel/hazelref02.Load, region 4. -/
def p_hazelref02_Load_4 : VPlan := .take 0 (.take 1 (.take 2 (.take 3 (.take 4 (.take 5 (.one 6 (.one 7 .done)))))))
def g_hazelref02_Load_4 : List Nat := [2, 6]
/-- hazel/hazelref12.ends, region 1. -/
def p_hazelref12_ends_1 : VPlan := .take 0 (.take 1 (.take 3 (.take 4 (.take 6 (.take 7 (.take 8 (.one 2 (.one 5 (.one 9 (.one 10 .done))))))))))
def g_hazelref12_ends_1 : List Nat := [4, 6, 7]
/-- hazel/hazelref04.On, region 2. -/
def p_hazelref04_On_2 : VPlan := .take 0 (.take 1 (.take 3 (.take 4 (.one 2 (.one 5 (.one 6 .done))))))
def g_hazelref04_On_2 : List Nat := [5, 7, 8]
/-- hazel/hazelref12.swap, region 1. -/
def p_hazelref12_swap_1 : VPlan := .take 0 (.take 1 (.take 2 (.take 3 (.take 4 (.take 6 (.take 7 (.take 8 (.take 9 (.take 10 (.take 11 (.take 12 (.take 13 (.two 5 19 (.two 14 19 (.two 15 19 (.reck 16 (.reck 17 (.reck 18 (.one 19 (.one 20 (.one 21 .done)))))) (.one 15 (.reck 16 (.reck 17 (.reck 18 (.one 20 (.one 21 .done))))))) (.one 14 (.one 15 (.reck 16 (.reck 17 (.reck 18 (.one 20 (.one 21 .done)))))))) (.one 5 (.one 14 (.one 15 (.reck 16 (.reck 17 (.reck 18 (.one 20 (.one 21 .done)))))))))))))))))))))
def g_hazelref12_swap_1 : List Nat := [6, 8, 11, 12]
/-- hazel/hazelref03.New, region 4. -/
def p_hazelref03_New_4 : VPlan := .take 0 (.take 1 (.one 2 (.reck 3 (.one 4 (.one 5 .done)))))
def g_hazelref03_New_4 : List Nat := [6, 26]
/-- hazel/hazelref04.Fill, region 8. -/
def p_hazelref04_Fill_8 : VPlan := .take 1 (.take 3 (.two 0 2 (.one 2 (.one 4 (.one 5 .done))) (.one 0 (.one 4 (.one 5 .done)))))
def g_hazelref04_Fill_8 : List Nat := [2]
/-- hazel/hazellaw11.start, region 2. -/
def p_hazellaw11_start_2 : VPlan := .take 0 (.take 1 (.take 2 (.take 3 (.take 4 (.take 5 (.take 6 (.take 7 (.take 8 (.take 9 (.take 10 (.take 11 (.take 12 (.take 13 (.take 14 (.take 15 (.take 16 (.take 17 (.take 18 (.take 19 (.take 20 (.take 21 (.take 22 (.take 23 (.take 24 (.take 25 (.take 26 (.take 27 (.take 28 (.one 29 (.one 30 .done))))))))))))))))))))))))))))))
def g_hazellaw11_start_2 : List Nat := [6]
/-- (*hazel/table.work).bucket, region 1. -/
def p_table_work_bucket_1 : VPlan := .take 0 (.take 1 (.take 2 (.take 3 (.take 4 (.take 5 (.take 6 (.take 7 (.take 8 (.take 9 (.take 10 (.take 11 (.take 12 (.take 13 (.take 14 (.one 15 (.one 16 (.one 17 .done)))))))))))))))))
def g_table_work_bucket_1 : List Nat := [2, 65, 92]
/-- (*hazel/table.work).bucket, region 4. -/
def p_table_work_bucket_4 : VPlan := .take 0 (.take 1 (.take 2 (.take 3 (.take 4 (.take 8 (.one 5 (.one 6 (.one 7 (.take 9 (.one 10 .done))))))))))
def g_table_work_bucket_4 : List Nat := [2, 4]
/-- (*hazel/table.work).bucket, region 15. -/
def p_table_work_bucket_15 : VPlan := .take 0 (.take 1 (.take 2 (.take 3 (.take 4 (.one 5 .done)))))
def g_table_work_bucket_15 : List Nat := [2, 4]
/-- (*hazel/table.work).bucket, region 16. -/
def p_table_work_bucket_16 : VPlan := .take 0 (.take 1 (.take 2 (.take 3 (.take 4 (.take 6 (.take 7 (.take 8 (.take 9 (.one 5 (.one 10 (.one 11 (.one 12 (.one 13 .done)))))))))))))
def g_table_work_bucket_16 : List Nat := [4, 65, 92]
/-- (*hazel/table.work).bucket, region 20. -/
def p_table_work_bucket_20 : VPlan := .take 0 (.take 1 (.take 2 (.take 3 (.take 4 (.one 5 .done)))))
def g_table_work_bucket_20 : List Nat := [2, 4]
/-- (*hazel/table.work).bucket, region 23. -/
def p_table_work_bucket_23 : VPlan := .take 0 (.take 1 (.take 2 (.take 3 (.take 4 (.take 6 (.take 7 (.take 8 (.take 9 (.one 5 (.one 10 .done))))))))))
def g_table_work_bucket_23 : List Nat := [2, 4, 65, 92]
/-- (*hazel/table.work).put, region 1. -/
def p_table_work_put_1 : VPlan := .take 0 (.take 1 (.take 2 (.take 3 (.take 4 (.take 5 (.take 6 (.take 7 (.take 8 (.take 9 (.take 10 (.take 11 (.take 12 (.take 13 (.take 14 (.two 15 16 (.one 16 (.one 17 (.one 18 .done))) (.one 15 (.one 17 (.one 18 .done))))))))))))))))))
def g_table_work_put_1 : List Nat := [1, 2, 5]
/-- (*hazel/table.work).put, region 19. -/
def p_table_work_put_19 : VPlan := .take 0 (.take 1 (.take 2 (.take 3 (.take 4 (.take 5 (.take 6 (.take 7 (.take 8 (.take 9 .done)))))))))
def g_table_work_put_19 : List Nat := [1, 2, 3, 4, 5]
/-- (*hazel/table.work).put, region 20. -/
def p_table_work_put_20 : VPlan := .take 0 (.take 1 (.take 2 (.take 3 (.take 4 (.take 5 (.take 6 (.take 7 (.take 8 (.take 9 (.one 10 .done))))))))))
def g_table_work_put_20 : List Nat := [1, 2, 3, 4, 5]
/-- (*hazel/table.work).look, region 1. -/
def p_table_work_look_1 : VPlan := .take 0 (.take 1 (.take 2 (.take 3 (.take 4 (.take 5 (.take 6 (.take 7 (.take 8 (.take 9 (.take 10 (.one 11 (.one 12 .done))))))))))))
def g_table_work_look_1 : List Nat := [1, 2]
/-- (*hazel/table.work).cut, region 1. -/
def p_table_work_cut_1 : VPlan := .take 0 (.take 1 (.take 2 (.take 3 (.take 4 (.take 5 (.take 6 (.take 7 (.take 8 (.take 9 (.take 10 (.take 11 (.take 12 (.take 13 (.take 14 (.one 15 (.one 16 (.one 17 .done)))))))))))))))))
def g_table_work_cut_1 : List Nat := [1, 2, 5]
/-- (*hazel/table.work).cut, region 10. -/
def p_table_work_cut_10 : VPlan := .take 0 (.take 1 (.take 2 (.take 3 (.take 4 (.one 5 .done)))))
def g_table_work_cut_10 : List Nat := [1, 2, 4, 5]
/-- (*hazel/table.work).cut, region 17. -/
def p_table_work_cut_17 : VPlan := .take 0 (.take 1 (.take 2 (.take 3 (.take 4 (.one 5 (.one 6 .done))))))
def g_table_work_cut_17 : List Nat := [1, 4, 5]
/-- hazel/hazelref11.bucket, region 4. -/
def p_hazelref11_bucket_4 : VPlan := .take 0 (.take 1 (.take 2 (.take 3 (.take 4 (.two 5 10 (.two 6 10 (.reck 7 (.reck 8 (.reck 9 (.one 10 (.one 11 (.one 12 .done)))))) (.one 6 (.reck 7 (.reck 8 (.reck 9 (.one 11 (.one 12 .done))))))) (.one 5 (.one 6 (.reck 7 (.reck 8 (.reck 9 (.one 11 (.one 12 .done))))))))))))
def g_hazelref11_bucket_4 : List Nat := [3, 5, 6, 7, 10]
/-- hazel/hazelref11.bucket, region 13. -/
def p_hazelref11_bucket_13 : VPlan := .take 0 (.take 1 (.take 2 (.take 3 (.take 4 (.take 5 (.one 6 (.one 7 (.one 8 .done))))))))
def g_hazelref11_bucket_13 : List Nat := [3, 5, 7, 8, 10]
/-- hazel/hazelref11.bucket, region 18. -/
def p_hazelref11_bucket_18 : VPlan := .take 0 (.take 1 (.take 2 (.take 3 (.take 4 (.take 6 (.take 7 (.take 8 (.one 5 (.one 9 (.one 10 (.one 11 .done)))))))))))
def g_hazelref11_bucket_18 : List Nat := [3, 5, 7, 8, 10]
/-- hazel/hazelref11.bucket, region 25. -/
def p_hazelref11_bucket_25 : VPlan := .take 0 (.take 1 (.take 2 (.take 3 (.take 4 (.take 6 (.take 7 (.take 8 (.two 5 13 (.two 9 13 (.reck 10 (.reck 11 (.reck 12 (.one 13 (.one 14 (.one 15 .done)))))) (.one 9 (.reck 10 (.reck 11 (.reck 12 (.one 14 (.one 15 .done))))))) (.one 5 (.one 9 (.reck 10 (.reck 11 (.reck 12 (.one 14 (.one 15 .done)))))))))))))))
def g_hazelref11_bucket_25 : List Nat := [3, 5, 6, 7, 8]
/-- hazel/hazelref11.bucket, region 26. -/
def p_hazelref11_bucket_26 : VPlan := .take 0 (.take 1 (.take 3 (.take 4 (.take 5 (.take 6 (.one 2 (.one 7 (.one 8 .done))))))))
def g_hazelref11_bucket_26 : List Nat := [3, 5, 7, 8, 10]
/-- hazel/hazelref11.look, region 4. -/
def p_hazelref11_look_4 : VPlan := .take 0 (.take 1 (.take 2 (.take 3 (.take 4 (.take 5 (.take 6 (.take 7 (.take 8 (.take 9 (.take 10 (.take 11 (.take 12 (.take 13 (.one 14 (.one 15 .done)))))))))))))))
def g_hazelref11_look_4 : List Nat := [3, 5]
/-- hazel/pack.joined, region 5. -/
def p_pack_joined_5 : VPlan := .take 0 (.take 1 (.take 3 (.take 8 (.one 2 (.reck 4 (.reck 5 (.reck 6 (.reck 7 (.one 9 (.reck 10 (.reck 11 (.one 12 .done))))))))))))
def g_pack_joined_5 : List Nat := []
/-- hazel/pack.cut, region 1. -/
def p_pack_cut_1 : VPlan := .take 0 (.take 1 (.take 5 (.one 2 (.reck 3 (.one 4 (.reck 6 (.reck 7 (.reck 8 (.reck 9 (.one 10 .done))))))))))
def g_pack_cut_1 : List Nat := []
/-- hazel/scan.Step, region 2. -/
def p_scan_Step_2 : VPlan := .take 1 (.take 2 (.one 0 (.one 3 (.one 4 .done))))
def g_scan_Step_2 : List Nat := [2, 4, 5]
/-- (*hazel/msq.work).got, region 1. -/
def p_msq_work_got_1 : VPlan := .take 0 (.take 1 (.take 2 (.take 3 (.take 4 (.take 5 (.take 6 (.take 7 (.take 8 (.take 9 (.take 10 (.one 11 (.one 12 .done))))))))))))
def g_msq_work_got_1 : List Nat := [2]
/-- (*hazel/msq.work).got, region 3. -/
def p_msq_work_got_3 : VPlan := .take 0 (.take 1 (.take 2 (.take 3 (.take 4 (.take 5 (.take 6 (.take 7 (.take 8 (.take 9 (.one 10 (.one 11 .done)))))))))))
def g_msq_work_got_3 : List Nat := [3]
/-- (*hazel/msq.work).got, region 4. -/
def p_msq_work_got_4 : VPlan := .take 0 (.take 1 (.take 2 (.take 3 (.take 4 (.take 5 (.take 6 (.one 7 .done)))))))
def g_msq_work_got_4 : List Nat := [2, 3]
/-- (*hazel/msq.work).value, region 1. -/
def p_msq_work_value_1 : VPlan := .take 0 (.take 1 (.take 2 (.take 3 (.take 4 (.take 5 (.take 6 (.take 8 (.take 9 (.take 10 (.take 11 (.take 12 (.take 13 (.one 7 (.one 14 .done))))))))))))))
def g_msq_work_value_1 : List Nat := [2]
/-- (*hazel/msq.work).old, region 1. -/
def p_msq_work_old_1 : VPlan := .take 0 (.take 1 (.take 2 (.take 3 (.take 4 (.take 5 (.take 6 (.take 10 (.take 11 (.take 12 (.one 7 (.one 8 (.one 9 (.take 13 (.one 14 .done))))))))))))))
def g_msq_work_old_1 : List Nat := [2]
/-- (*hazel/msq.work).fresh, region 1. -/
def p_msq_work_fresh_1 : VPlan := .take 0 (.take 1 (.take 2 (.take 3 (.take 4 (.take 5 (.take 6 (.take 8 (.take 9 (.take 10 (.take 11 (.take 12 (.take 13 (.one 7 (.one 14 (.one 15 .done)))))))))))))))
def g_msq_work_fresh_1 : List Nat := [2]
/-- (*hazel/msq.work).seen, region 1. -/
def p_msq_work_seen_1 : VPlan := .take 0 (.take 1 (.take 2 (.take 3 (.take 4 (.take 6 (.take 7 (.take 8 (.take 13 (.take 14 (.take 15 (.two 5 9 (.one 9 (.reck 10 (.reck 11 (.one 12 (.take 16 (.one 17 .done)))))) (.one 5 (.reck 10 (.reck 11 (.one 12 (.take 16 (.one 17 .done)))))))))))))))))
def g_msq_work_seen_1 : List Nat := [2]
/-- (*hazel/msq.work).behind, region 1. -/
def p_msq_work_behind_1 : VPlan := .take 0 (.take 1 (.take 2 (.take 3 (.take 4 (.take 5 (.take 6 (.take 10 (.take 11 (.take 12 (.one 7 (.one 8 (.one 9 (.take 13 (.one 14 .done))))))))))))))
def g_msq_work_behind_1 : List Nat := [2]
/-- (*hazel/msq.work).help, region 1. -/
def p_msq_work_help_1 : VPlan := .take 0 (.take 1 (.take 2 (.take 3 (.take 4 (.take 5 (.take 6 (.take 9 (.take 10 (.take 11 (.take 12 (.take 13 (.take 14 (.take 15 (.take 16 (.take 17 (.take 18 (.take 19 (.take 20 (.one 7 (.reck 8 (.one 21 (.one 22 .done))))))))))))))))))))))
def g_msq_work_help_1 : List Nat := [2]
/-- (*hazel/msq.work).link, region 1. -/
def p_msq_work_link_1 : VPlan := .take 0 (.take 1 (.take 2 (.take 3 (.take 4 (.take 5 (.take 6 (.take 8 (.take 9 (.take 10 (.take 11 (.take 12 (.take 13 (.take 14 (.take 15 (.take 16 (.take 17 (.take 18 (.take 19 (.one 7 (.one 20 (.reck 21 .done)))))))))))))))))))))
def g_msq_work_link_1 : List Nat := [2]
/-- (*hazel/msq.work).link, region 3. -/
def p_msq_work_link_3 : VPlan := .take 0 (.take 1 (.take 2 (.take 3 (.take 5 (.take 6 (.take 7 (.take 9 (.take 10 (.take 11 (.take 12 (.take 13 (.take 15 (.take 16 (.take 17 (.take 18 (.take 19 .done /- 4 ready: [4, 8, 14, 20] -/))))))))))))))))
def g_msq_work_link_3 : List Nat := [2]
/-- (*hazel/msq.work).swing, region 1. -/
def p_msq_work_swing_1 : VPlan := .take 0 (.take 1 (.take 2 (.take 3 (.take 4 (.take 5 (.take 6 (.take 9 (.take 10 (.take 11 (.take 12 (.take 13 (.take 14 (.take 15 (.take 16 (.take 17 (.take 18 (.take 19 (.take 20 (.one 7 (.reck 8 (.one 21 .done)))))))))))))))))))))
def g_msq_work_swing_1 : List Nat := [2]
/-- (*hazel/msq.work).ended, region 2. -/
def p_msq_work_ended_2 : VPlan := .take 0 (.take 1 (.take 2 (.take 3 (.take 4 (.take 5 (.take 6 (.take 7 (.one 8 (.one 9 .done)))))))))
def g_msq_work_ended_2 : List Nat := []
/-- (*hazel/msq.work).held, region 1. -/
def p_msq_work_held_1 : VPlan := .take 0 (.take 1 (.take 2 (.take 3 (.take 4 (.take 6 (.take 7 (.take 8 (.take 13 (.take 14 (.take 15 (.two 5 9 (.one 9 (.reck 10 (.reck 11 (.one 12 (.take 16 (.one 17 .done)))))) (.one 5 (.reck 10 (.reck 11 (.one 12 (.take 16 (.one 17 .done)))))))))))))))))
def g_msq_work_held_1 : List Nat := [2]
/-- (*hazel/msq.work).tail, region 1. -/
def p_msq_work_tail_1 : VPlan := .take 0 (.take 1 (.take 2 (.take 3 (.take 4 (.take 5 (.take 6 (.take 11 (.take 12 (.take 13 (.one 7 (.one 8 (.reck 9 (.one 10 (.take 14 (.one 15 .done)))))))))))))))
def g_msq_work_tail_1 : List Nat := [2]
/-- (*hazel/msq.work).next, region 1. -/
def p_msq_work_next_1 : VPlan := .take 0 (.take 1 (.take 2 (.take 3 (.take 4 (.take 5 (.take 6 (.take 10 (.take 11 (.take 12 (.one 7 (.one 8 (.one 9 (.take 13 (.one 14 .done))))))))))))))
def g_msq_work_next_1 : List Nat := [2]
/-- (*hazel/msq.work).next, region 3. -/
def p_msq_work_next_3 : VPlan := .take 0 (.take 1 (.take 2 (.take 3 (.take 4 (.take 5 (.take 6 (.take 8 (.take 9 (.take 10 (.take 11 (.take 12 (.take 13 (.one 7 (.one 14 (.reck 15 (.one 16 (.one 17 .done)))))))))))))))))
def g_msq_work_next_3 : List Nat := []
/-- (*hazel/msq.work).next, region 4. -/
def p_msq_work_next_4 : VPlan := .take 0 (.take 1 (.take 2 (.take 3 (.take 5 (.take 6 (.take 7 (.take 9 (.take 10 (.take 11 (.take 12 (.take 13 (.three 4 8 14 (.two 8 14 (.one 14 (.one 15 (.take 16 (.take 17 (.one 18 .done))))) (.one 8 (.one 15 (.take 16 (.take 17 (.one 18 .done)))))) (.two 4 14 (.one 14 (.one 15 (.take 16 (.take 17 (.one 18 .done))))) (.one 4 (.one 15 (.take 16 (.take 17 (.one 18 .done)))))) (.two 4 8 (.one 8 (.one 15 (.take 16 (.take 17 (.one 18 .done))))) (.one 4 (.one 15 (.take 16 (.take 17 (.one 18 .done))))))))))))))))))
def g_msq_work_next_4 : List Nat := [2]
/-- (*hazel/msq.work).next, region 5. -/
def p_msq_work_next_5 : VPlan := .take 0 (.take 1 (.take 2 (.take 3 (.take 4 (.take 5 (.take 7 (.take 8 (.take 9 (.one 6 (.take 10 (.one 11 .done)))))))))))
def g_msq_work_next_5 : List Nat := [2]
/-- (*hazel/msq.work).lags, region 1. -/
def p_msq_work_lags_1 : VPlan := .take 0 (.take 1 (.take 2 (.take 3 (.take 4 (.take 5 (.take 6 (.take 9 (.take 10 (.take 11 (.take 12 (.take 13 (.take 14 (.take 15 (.take 16 (.take 17 (.take 18 (.take 19 (.take 20 (.one 7 (.reck 8 (.one 21 (.one 22 .done))))))))))))))))))))))
def g_msq_work_lags_1 : List Nat := [2]
/-- (*hazel/msq.work).name, region 1. -/
def p_msq_work_name_1 : VPlan := .take 0 (.take 1 (.take 2 (.take 3 (.take 4 (.take 6 (.take 7 (.take 8 (.take 9 (.take 10 (.take 11 (.one 5 (.one 12 (.one 13 .done)))))))))))))
def g_msq_work_name_1 : List Nat := [2]
/-- (*hazel/msq.work).still, region 1. -/
def p_msq_work_still_1 : VPlan := .take 0 (.take 1 (.take 2 (.take 3 (.take 4 (.take 5 (.take 6 (.take 7 (.take 10 (.take 11 (.take 12 (.take 13 (.take 14 (.take 15 (.one 8 (.one 9 (.reck 16 (.one 17 (.one 18 .done))))))))))))))))))
def g_msq_work_still_1 : List Nat := []
/-- (*hazel/msq.work).told, region 1. -/
def p_msq_work_told_1 : VPlan := .take 0 (.take 1 (.take 2 (.take 3 (.take 4 (.take 5 (.take 6 (.take 10 (.take 11 (.take 12 (.one 7 (.one 8 (.one 9 (.take 13 (.one 14 .done))))))))))))))
def g_msq_work_told_1 : List Nat := [2]
/-- (*hazel/msq.work).move, region 1. -/
def p_msq_work_move_1 : VPlan := .take 0 (.take 1 (.take 2 (.take 3 (.take 4 (.take 5 (.take 6 (.take 8 (.take 9 (.take 10 (.take 11 (.take 12 (.take 13 (.take 14 (.take 15 (.take 16 (.take 17 (.take 18 (.take 19 (.one 7 (.one 20 (.one 21 (.reck 22 .done))))))))))))))))))))))
def g_msq_work_move_1 : List Nat := [2, 65]
/-- (*hazel/msq.work).move, region 3. -/
def p_msq_work_move_3 : VPlan := .take 0 (.take 1 (.take 2 (.take 3 (.take 5 (.take 6 (.take 7 (.take 9 (.take 10 (.take 11 (.take 12 (.take 13 (.take 15 (.take 16 (.take 17 (.take 18 (.take 19 .done /- 4 ready: [4, 8, 14, 20] -/))))))))))))))))
def g_msq_work_move_3 : List Nat := [2]
/-- (*hazel/msq.work).done, region 2. -/
def p_msq_work_done_2 : VPlan := .take 0 (.take 1 (.take 2 (.take 3 (.take 4 (.take 5 (.take 6 (.take 7 (.take 8 (.take 9 (.take 10 (.take 11 (.take 12 (.take 13 (.take 14 (.take 15 (.take 16 (.take 17 (.take 18 (.take 19 (.one 20 (.one 21 .done)))))))))))))))))))))
def g_msq_work_done_2 : List Nat := []
/-- hazel/hazelref03.Log, region 4. -/
def p_hazelref03_Log_4 : VPlan := .take 0 (.take 1 (.take 2 (.take 3 (.take 5 (.take 6 (.take 8 (.two 4 9 (.two 7 9 (.one 9 (.one 10 (.reck 11 (.one 12 .done)))) (.one 7 (.one 10 (.reck 11 (.one 12 .done))))) (.one 4 (.one 7 (.one 10 (.reck 11 (.one 12 .done))))))))))))
def g_hazelref03_Log_4 : List Nat := [3, 5]
/-- (*hazel/list.work).on, region 2. -/
def p_list_work_on_2 : VPlan := .take 0 (.take 1 (.take 2 (.take 3 (.take 4 (.take 5 (.take 6 (.take 7 (.take 8 (.take 9 (.take 10 (.take 11 (.one 12 (.one 13 .done)))))))))))))
def g_list_work_on_2 : List Nat := []
/-- (*hazel/list.work).cas, region 1. -/
def p_list_work_cas_1 : VPlan := .take 0 (.take 1 (.take 2 (.take 3 (.take 4 (.take 5 (.take 6 (.take 7 (.take 8 (.take 9 (.two 10 15 (.two 11 15 (.reck 12 (.reck 13 (.reck 14 (.one 15 (.one 16 (.one 17 .done)))))) (.one 11 (.reck 12 (.reck 13 (.reck 14 (.one 16 (.one 17 .done))))))) (.one 10 (.one 11 (.reck 12 (.reck 13 (.reck 14 (.one 16 (.one 17 .done)))))))))))))))))
def g_list_work_cas_1 : List Nat := []
/-- (*hazel/list.work).then, region 1. -/
def p_list_work_then_1 : VPlan := .take 0 (.take 1 (.take 3 (.take 4 (.take 5 (.take 6 (.take 7 (.take 8 (.one 2 (.one 9 (.one 10 .done))))))))))
def g_list_work_then_1 : List Nat := []
/-- (*hazel/list.work).ends, region 12. -/
def p_list_work_ends_12 : VPlan := .take 0 (.take 1 (.take 2 (.take 3 (.take 4 (.take 5 (.take 6 (.take 7 (.take 8 (.take 9 (.take 10 (.take 11 (.take 12 (.take 13 (.take 14 (.take 15 (.take 16 (.take 17 (.one 18 .done))))))))))))))))))
def g_list_work_ends_12 : List Nat := [4]
/-- (*hazel/list.work).ends, region 13. -/
def p_list_work_ends_13 : VPlan := .take 0 (.take 1 (.take 2 (.take 3 (.take 4 (.take 5 (.take 6 (.take 7 (.take 8 (.one 9 (.one 10 .done))))))))))
def g_list_work_ends_13 : List Nat := [66]
/-- (*hazel/list.work).clear, region 4. -/
def p_list_work_clear_4 : VPlan := .take 0 (.take 1 (.take 2 (.take 3 (.take 4 (.take 5 (.take 6 (.take 7 (.take 8 (.take 9 (.one 10 (.one 11 .done)))))))))))
def g_list_work_clear_4 : List Nat := []
/-- (*hazel/list.work).tell, region 1. -/
def p_list_work_tell_1 : VPlan := .take 0 (.take 1 (.take 2 (.take 3 (.take 5 (.take 6 (.take 7 (.take 9 (.take 10 (.take 11 (.take 12 (.take 13 (.take 14 (.take 16 (.three 4 8 15 (.two 8 15 (.one 15 (.one 17 (.take 18 (.take 19 (.one 20 .done))))) (.one 8 (.one 17 (.take 18 (.take 19 (.one 20 .done)))))) (.two 4 15 (.one 15 (.one 17 (.take 18 (.take 19 (.one 20 .done))))) (.one 4 (.one 17 (.take 18 (.take 19 (.one 20 .done)))))) (.two 4 8 (.one 8 (.one 17 (.take 18 (.take 19 (.one 20 .done))))) (.one 4 (.one 17 (.take 18 (.take 19 (.one 20 .done))))))))))))))))))))
def g_list_work_tell_1 : List Nat := []
/-- hazel/hazelref09.goes, region 4. -/
def p_hazelref09_goes_4 : VPlan := .take 0 (.take 1 (.take 3 (.take 4 (.one 2 (.one 5 (.one 6 .done))))))
def g_hazelref09_goes_4 : List Nat := [4, 6, 7]
/-- hazel/hazelref09.clear, region 1. -/
def p_hazelref09_clear_1 : VPlan := .take 0 (.take 1 (.take 2 (.take 3 (.two 4 6 (.two 5 6 (.one 6 (.one 7 .done)) (.one 5 (.one 7 .done))) (.one 4 (.one 5 (.one 7 .done)))))))
def g_hazelref09_clear_1 : List Nat := [6, 8, 12]
/-- hazel/core.Back$1, region 0. -/
def p_core_Back_1_0 : VPlan := .take 0 (.take 1 (.take 2 (.take 3 (.take 4 (.take 5 (.take 7 (.take 8 (.take 9 (.take 14 (.take 15 (.two 6 10 (.one 10 (.reck 11 (.reck 12 (.reck 13 (.take 16 (.take 17 (.one 18 (.take 19 (.take 20 (.one 21 (.take 22 (.take 23 (.one 24 .done))))))))))))) (.reck 11 (.reck 12 (.one 6 (.reck 13 (.take 16 (.take 17 (.one 18 (.take 19 (.take 20 (.one 21 (.take 22 (.take 23 (.one 24 .done))))))))))))))))))))))))
def g_core_Back_1_0 : List Nat := []
/-- hazel/core.Set$1, region 1. -/
def p_core_Set_1_1 : VPlan := .take 0 (.take 1 (.take 2 (.take 3 (.take 4 (.take 5 (.take 6 (.take 7 (.take 8 (.take 9 (.take 10 (.take 11 (.one 12 .done))))))))))))
def g_core_Set_1_1 : List Nat := []
/-- hazel/hazelref02.New, region 3. -/
def p_hazelref02_New_3 : VPlan := .take 0 (.take 1 (.take 2 (.take 4 (.take 5 (.two 3 6 (.one 6 (.reck 7 (.one 8 (.one 9 .done)))) (.one 3 (.reck 7 (.one 8 (.one 9 .done)))))))))
def g_hazelref02_New_3 : List Nat := [14, 17]
/-- (*hazel/table.work).ends, region 1. -/
def p_table_work_ends_1 : VPlan := .take 0 (.take 1 (.take 2 (.take 3 (.take 4 (.take 5 (.take 6 (.take 7 (.take 8 (.take 9 (.one 10 (.one 11 .done)))))))))))
def g_table_work_ends_1 : List Nat := []
/-- (*hazel/table.work).on, region 2. -/
def p_table_work_on_2 : VPlan := .take 0 (.take 1 (.take 2 (.take 3 (.take 4 (.take 5 (.take 6 (.take 7 (.take 8 (.take 9 (.take 10 (.take 11 (.one 12 (.one 13 .done)))))))))))))
def g_table_work_on_2 : List Nat := []
/-- (*hazel/table.work).then, region 1. -/
def p_table_work_then_1 : VPlan := .take 0 (.take 1 (.take 2 (.take 3 (.take 4 (.take 5 (.take 6 (.take 8 (.take 9 (.take 10 (.take 11 (.take 12 (.take 13 (.one 7 (.one 14 (.one 15 .done)))))))))))))))
def g_table_work_then_1 : List Nat := []
/-- (*hazel/table.work).listed, region 1. -/
def p_table_work_listed_1 : VPlan := .take 0 (.take 1 (.take 2 (.take 3 (.take 4 (.take 5 (.take 6 (.take 7 (.take 8 (.take 9 (.take 10 (.take 11 (.take 12 (.take 13 (.take 14 (.one 15 (.one 16 (.one 17 .done)))))))))))))))))
def g_table_work_listed_1 : List Nat := [4, 48]
/-- (*hazel/table.work).listed, region 4. -/
def p_table_work_listed_4 : VPlan := .take 0 (.take 1 (.take 3 (.one 2 (.take 4 (.one 5 .done)))))
def g_table_work_listed_4 : List Nat := [4, 6]
/-- (*hazel/table.work).listed, region 7. -/
def p_table_work_listed_7 : VPlan := .take 0 (.take 1 (.take 2 (.take 3 (.take 4 (.take 5 (.take 6 (.take 7 (.take 8 (.one 9 (.one 10 (.one 11 (.one 12 .done))))))))))))
def g_table_work_listed_7 : List Nat := [6, 48]
/-- (*hazel/table.work).listed, region 10. -/
def p_table_work_listed_10 : VPlan := .take 0 (.take 1 (.take 2 (.take 4 (.take 5 (.take 6 (.take 7 (.one 3 (.one 8 (.one 9 (.one 10 .done))))))))))
def g_table_work_listed_10 : List Nat := [6, 48]
/-- (*hazel/table.work).put$1, region 1. -/
def p_table_work_put_1_1 : VPlan := .take 0 (.take 1 (.take 2 (.take 3 (.take 4 (.take 5 (.take 6 (.one 7 (.one 8 (.one 9 .done)))))))))
def g_table_work_put_1_1 : List Nat := [14]
/-- (*hazel/table.work).counted, region 3. -/
def p_table_work_counted_3 : VPlan := .take 0 (.take 1 (.take 3 (.one 2 (.take 4 (.one 5 .done)))))
def g_table_work_counted_3 : List Nat := [4]
/-- (*hazel/table.work).counted, region 5. -/
def p_table_work_counted_5 : VPlan := .take 0 (.take 1 (.take 2 (.take 3 (.take 4 (.take 5 (.take 6 (.take 7 (.take 8 (.take 9 (.take 10 (.one 11 (.reck 12 .done))))))))))))
def g_table_work_counted_5 : List Nat := [4]
/-- hazel/hazelref11.named, region 7. -/
def p_hazelref11_named_7 : VPlan := .take 0 (.take 1 (.take 2 (.take 3 (.take 4 (.take 5 (.take 6 (.take 7 (.take 8 (.one 9 (.one 10 (.one 11 .done)))))))))))
def g_hazelref11_named_7 : List Nat := [5, 7, 11, 12]
/-- hazel/hazelref11.named, region 10. -/
def p_hazelref11_named_10 : VPlan := .take 0 (.take 1 (.take 2 (.take 3 (.take 4 (.take 5 (.take 7 (.take 8 (.take 9 (.take 11 (.one 6 (.one 10 (.one 12 (.one 13 .done)))))))))))))
def g_hazelref11_named_10 : List Nat := [5, 7, 11, 12]
/-- hazel/hazelref11.count, region 9. -/
def p_hazelref11_count_9 : VPlan := .take 0 (.take 1 (.take 3 (.take 4 (.take 5 (.take 6 (.one 2 (.one 7 (.one 8 .done))))))))
def g_hazelref11_count_9 : List Nat := [5, 7, 11, 13]
/-- (*hazel/msq.work).then, region 1. -/
def p_msq_work_then_1 : VPlan := .take 0 (.take 1 (.take 3 (.take 4 (.take 5 (.take 6 (.take 7 (.take 8 (.one 2 (.one 9 (.one 10 .done))))))))))
def g_msq_work_then_1 : List Nat := []
/-- (*hazel/msq.work).on, region 2. -/
def p_msq_work_on_2 : VPlan := .take 0 (.take 1 (.take 2 (.take 3 (.take 4 (.take 5 (.take 6 (.take 7 (.take 8 (.take 9 (.take 10 (.take 11 (.one 12 (.one 13 .done)))))))))))))
def g_msq_work_on_2 : List Nat := []
/-- (*hazel/msq.work).cas, region 1. -/
def p_msq_work_cas_1 : VPlan := .take 0 (.take 1 (.take 2 (.take 3 (.take 4 (.take 5 (.take 6 (.take 7 (.take 8 (.two 9 14 (.two 10 14 (.reck 11 (.reck 12 (.reck 13 (.one 14 (.one 15 (.one 16 .done)))))) (.one 10 (.reck 11 (.reck 12 (.reck 13 (.one 15 (.one 16 .done))))))) (.one 9 (.one 10 (.reck 11 (.reck 12 (.reck 13 (.one 15 (.one 16 .done))))))))))))))))
def g_msq_work_cas_1 : List Nat := []
/-- hazel/hazelref06.retire, region 8. -/
def p_hazelref06_retire_8 : VPlan := .take 1 (.take 3 (.take 5 (.take 6 (.take 7 (.three 0 2 8 (.two 2 8 (.two 4 8 (.one 8 (.one 9 (.one 10 (.one 11 .done)))) (.one 4 (.one 9 (.one 10 (.one 11 .done))))) (.one 2 (.one 4 (.one 9 (.one 10 (.one 11 .done)))))) (.three 0 4 8 (.two 4 8 (.one 8 (.one 9 (.one 10 (.one 11 .done)))) (.one 4 (.one 9 (.one 10 (.one 11 .done))))) (.two 0 8 (.one 8 (.one 9 (.one 10 (.one 11 .done)))) (.two 0 9 (.one 9 (.one 10 (.one 11 .done))) (.one 0 (.one 10 (.one 11 .done))))) (.two 0 4 (.one 4 (.one 9 (.one 10 (.one 11 .done)))) (.two 0 9 (.one 9 (.one 10 (.one 11 .done))) (.one 0 (.one 10 (.one 11 .done)))))) (.two 0 2 (.one 2 (.one 4 (.one 9 (.one 10 (.one 11 .done))))) (.two 0 4 (.one 4 (.one 9 (.one 10 (.one 11 .done)))) (.two 0 9 (.one 9 (.one 10 (.one 11 .done))) (.one 0 (.one 10 (.one 11 .done)))))))))))
def g_hazelref06_retire_8 : List Nat := [5, 6]
/-- hazel/hazelref06.retire, region 9. -/
def p_hazelref06_retire_9 : VPlan := .take 1 (.take 3 (.take 4 (.take 5 (.two 0 2 (.one 2 (.one 6 (.one 7 (.one 8 .done)))) (.two 0 6 (.one 6 (.one 7 (.one 8 .done))) (.one 0 (.one 7 (.one 8 .done))))))))
def g_hazelref06_retire_9 : List Nat := [5, 6, 35, 37, 41, 42]
/-- hazel/hazelref06.scan, region 8. -/
def p_hazelref06_scan_8 : VPlan := .take 0 (.take 1 (.take 3 (.take 4 (.one 2 (.one 5 (.one 6 .done))))))
def g_hazelref06_scan_8 : List Nat := [3, 5, 7, 33, 36, 38, 39, 110, 113, 114, 118, 119]
/-- hazel/hazelref06.scan, region 13. -/
def p_hazelref06_scan_13 : VPlan := .take 0 (.take 1 (.take 2 (.take 3 (.take 4 (.take 5 (.take 6 (.take 7 (.take 8 (.take 9 (.take 10 (.take 11 (.take 12 (.take 13 (.take 14 (.one 15 (.reck 16 .done))))))))))))))))
def g_hazelref06_scan_13 : List Nat := [3, 5, 6, 7, 33, 36, 38, 39, 110, 113, 114, 118, 119]
/-- hazel/hazelref06.scan, region 18. -/
def p_hazelref06_scan_18 : VPlan := .take 1 (.take 2 (.take 3 (.take 5 (.take 6 (.take 7 (.take 8 (.one 0 (.one 4 (.one 9 (.one 10 .done))))))))))
def g_hazelref06_scan_18 : List Nat := [3, 5, 6, 7]
/-- hazel/hazelref06.scan, region 19. -/
def p_hazelref06_scan_19 : VPlan := .take 0 (.take 1 (.take 2 (.take 4 (.take 5 (.take 7 (.take 8 (.take 9 (.take 10 (.take 11 (.one 3 (.one 6 (.one 12 (.one 13 .done)))))))))))))
def g_hazelref06_scan_19 : List Nat := [3, 5, 7, 33, 36, 38, 39, 110, 113, 114, 118, 119]
/-- hazel/hazelref05.Step, region 6. -/
def p_hazelref05_Step_6 : VPlan := .take 0 (.take 1 (.take 2 (.take 3 (.take 4 (.two 5 7 (.two 6 7 (.one 7 (.one 8 .done)) (.one 6 (.one 8 .done))) (.one 5 (.one 6 (.one 8 .done))))))))
def g_hazelref05_Step_6 : List Nat := [2, 4, 5]
/-- hazel/scan.retire, region 8. -/
def p_scan_retire_8 : VPlan := .take 1 (.take 2 (.take 4 (.take 5 (.take 6 (.three 0 3 7 (.two 3 7 (.one 7 (.one 8 (.one 9 (.one 10 .done)))) (.one 3 (.one 8 (.one 9 (.one 10 .done))))) (.two 0 7 (.one 7 (.one 8 (.one 9 (.one 10 .done)))) (.two 0 8 (.one 8 (.one 9 (.one 10 .done))) (.one 0 (.one 9 (.one 10 .done))))) (.two 0 3 (.one 3 (.one 8 (.one 9 (.one 10 .done)))) (.two 0 8 (.one 8 (.one 9 (.one 10 .done))) (.one 0 (.one 9 (.one 10 .done))))))))))
def g_scan_retire_8 : List Nat := [5, 6]
/-- hazel/scan.look, region 16. -/
def p_scan_look_16 : VPlan := .take 0 (.take 1 (.take 2 (.take 3 (.take 4 (.take 5 (.one 6 .done))))))
def g_scan_look_16 : List Nat := [3, 5, 6, 7, 39, 40, 100, 104, 105, 117]
/-- hazel/scan.look, region 18. -/
def p_scan_look_18 : VPlan := .take 1 (.take 2 (.take 3 (.take 4 (.take 5 (.take 6 (.take 7 (.take 8 (.take 9 (.two 0 10 (.one 10 (.one 11 (.one 12 (.one 13 .done)))) (.two 0 11 (.one 11 (.one 12 (.one 13 .done))) (.one 0 (.one 12 (.one 13 .done)))))))))))))
def g_scan_look_18 : List Nat := [5, 6, 7, 39, 40, 100, 104, 105, 117]
/-- hazel/scan.look, region 19. -/
def p_scan_look_19 : VPlan := .take 0 (.take 1 (.take 2 (.take 4 (.take 5 (.take 6 (.take 7 (.take 8 (.two 3 9 (.one 9 (.one 10 (.one 11 .done))) (.one 3 (.one 10 (.one 11 .done)))))))))))
def g_scan_look_19 : List Nat := [3, 5, 7, 39, 40, 100, 104, 105, 117]
/-- hazel/haz.Step, region 5. -/
def p_haz_Step_5 : VPlan := .take 0 (.take 2 (.take 3 (.take 4 (.two 1 5 (.one 5 (.one 6 (.take 7 (.one 8 .done)))) (.one 1 (.one 6 (.take 7 (.one 8 .done))))))))
def g_haz_Step_5 : List Nat := [4, 5]
/-- hazel/core.Call$1, region 0. -/
def p_core_Call_1_0 : VPlan := .take 0 (.take 1 (.take 2 (.take 3 (.take 6 (.two 4 7 (.two 5 7 (.one 7 (.one 8 (.take 9 (.take 10 (.one 11 .done))))) (.one 5 (.one 8 (.take 9 (.take 10 (.one 11 .done)))))) (.one 4 (.one 5 (.one 8 (.take 9 (.take 10 (.one 11 .done)))))))))))
def g_core_Call_1_0 : List Nat := []
/-- hazel/hazelref05.prot, region 2. -/
def p_hazelref05_prot_2 : VPlan := .take 0 (.take 1 (.take 2 (.take 3 (.take 4 (.take 5 (.take 7 (.take 8 (.take 9 (.two 6 12 (.two 10 12 (.two 11 12 (.one 12 (.one 13 .done)) (.one 11 (.one 13 .done))) (.one 10 (.one 11 (.one 13 .done)))) (.one 6 (.one 10 (.one 11 (.one 13 .done)))))))))))))
def g_hazelref05_prot_2 : List Nat := [3, 5, 6, 8]
/-- hazel/hazelref04.pop, region 10. -/
def p_hazelref04_pop_10 : VPlan := .take 0 (.take 1 (.take 2 (.two 3 8 (.two 4 8 (.reck 5 (.reck 6 (.reck 7 (.one 8 (.one 9 (.one 10 .done)))))) (.one 4 (.reck 5 (.reck 6 (.reck 7 (.one 9 (.one 10 .done))))))) (.one 3 (.one 4 (.reck 5 (.reck 6 (.reck 7 (.one 9 (.one 10 .done))))))))))
def g_hazelref04_pop_10 : List Nat := [3, 5, 6, 7, 9, 13]
/-- hazel/hazelref04.pop, region 15. -/
def p_hazelref04_pop_15 : VPlan := .take 0 (.take 1 (.take 2 (.take 3 (.take 4 (.take 5 (.take 6 (.take 7 (.take 8 (.take 9 (.take 10 (.two 11 16 (.two 12 16 (.reck 13 (.reck 14 (.reck 15 (.one 16 (.one 17 (.one 18 .done)))))) (.one 12 (.reck 13 (.reck 14 (.reck 15 (.one 17 (.one 18 .done))))))) (.one 11 (.one 12 (.reck 13 (.reck 14 (.reck 15 (.one 17 (.one 18 .done))))))))))))))))))
def g_hazelref04_pop_15 : List Nat := [3, 5, 6, 7, 9, 11]
/-- hazel/hazelref04.pop, region 18. -/
def p_hazelref04_pop_18 : VPlan := .take 0 (.take 1 (.take 2 (.take 5 (.take 6 (.one 3 (.one 4 (.one 7 (.one 8 .done))))))))
def g_hazelref04_pop_18 : List Nat := [3, 5, 7, 9, 11, 13]
/-- hazel/hazelref04.push, region 6. -/
def p_hazelref04_push_6 : VPlan := .take 0 (.take 1 (.take 2 (.take 3 (.take 4 (.take 6 (.take 7 (.take 8 (.two 5 11 (.two 9 11 (.two 10 11 (.one 11 (.one 12 .done)) (.one 10 (.one 12 .done))) (.one 9 (.one 10 (.one 12 .done)))) (.one 5 (.one 9 (.one 10 (.one 12 .done))))))))))))
def g_hazelref04_push_6 : List Nat := [3, 5, 6, 7, 10]
/-- hazel/hazelref04.push, region 10. -/
def p_hazelref04_push_10 : VPlan := .take 0 (.take 1 (.take 2 (.take 3 (.take 4 (.take 5 (.take 6 (.take 7 (.take 8 (.take 9 (.take 10 (.two 11 16 (.two 12 16 (.reck 13 (.reck 14 (.reck 15 (.one 16 (.one 17 (.one 18 .done)))))) (.one 12 (.reck 13 (.reck 14 (.reck 15 (.one 17 (.one 18 .done))))))) (.one 11 (.one 12 (.reck 13 (.reck 14 (.reck 15 (.one 17 (.one 18 .done))))))))))))))))))
def g_hazelref04_push_10 : List Nat := [3, 5, 6, 7, 9]
/-- hazel/hazelref04.push, region 13. -/
def p_hazelref04_push_13 : VPlan := .take 0 (.take 1 (.take 2 (.take 3 (.take 4 (.take 7 (.take 8 (.take 9 (.take 10 (.one 5 (.one 6 (.one 11 (.one 12 .done))))))))))))
def g_hazelref04_push_13 : List Nat := [3, 5, 7, 9, 10]
/-- hazel/stack.pop, region 8. -/
def p_stack_pop_8 : VPlan := .take 0 (.take 2 (.take 3 (.take 13 (.two 1 4 (.one 4 (.one 5 (.one 6 (.one 7 (.reck 8 (.reck 9 (.reck 10 (.take 11 (.one 12 (.take 14 (.one 15 .done))))))))))) (.two 1 5 (.one 5 (.one 6 (.one 7 (.reck 8 (.reck 9 (.reck 10 (.take 11 (.one 12 (.take 14 (.one 15 .done)))))))))) (.two 1 6 (.one 6 (.one 7 (.reck 8 (.reck 9 (.reck 10 (.take 11 (.one 12 (.take 14 (.one 15 .done))))))))) (.one 1 (.one 7 (.reck 8 (.reck 9 (.reck 10 (.take 11 (.one 12 (.take 14 (.one 15 .done)))))))))))))))
def g_stack_pop_8 : List Nat := [6, 7]
/-- hazel/stack.pop, region 11. -/
def p_stack_pop_11 : VPlan := .take 0 (.take 1 (.take 2 (.take 3 (.take 4 (.take 5 (.take 6 (.take 7 (.take 8 (.take 9 (.take 10 (.two 11 16 (.two 12 16 (.reck 13 (.reck 14 (.reck 15 (.one 16 (.one 17 (.one 18 .done)))))) (.one 12 (.reck 13 (.reck 14 (.reck 15 (.one 17 (.one 18 .done))))))) (.one 11 (.one 12 (.reck 13 (.reck 14 (.reck 15 (.one 17 (.one 18 .done))))))))))))))))))
def g_stack_pop_11 : List Nat := [3, 5, 6]
/-- hazel/stack.push, region 6. -/
def p_stack_push_6 : VPlan := .take 0 (.take 2 (.take 3 (.take 4 (.take 6 (.take 7 (.take 8 (.two 1 5 (.one 5 (.one 9 (.one 10 (.take 11 (.one 12 .done))))) (.two 1 9 (.one 9 (.one 10 (.take 11 (.one 12 .done)))) (.one 1 (.one 10 (.take 11 (.one 12 .done))))))))))))
def g_stack_push_6 : List Nat := [5, 6, 7]
/-- hazel/stack.push, region 9. -/
def p_stack_push_9 : VPlan := .take 0 (.take 1 (.take 2 (.take 3 (.take 4 (.take 5 (.take 6 (.take 7 (.take 8 (.take 9 (.take 10 (.two 11 16 (.two 12 16 (.reck 13 (.reck 14 (.reck 15 (.one 16 (.one 17 (.one 18 .done)))))) (.one 12 (.reck 13 (.reck 14 (.reck 15 (.one 17 (.one 18 .done))))))) (.one 11 (.one 12 (.reck 13 (.reck 14 (.reck 15 (.one 17 (.one 18 .done))))))))))))))))))
def g_stack_push_9 : List Nat := [3, 5, 6]
/-- hazel/haz.prot, region 8. -/
def p_haz_prot_8 : VPlan := .take 0 (.take 2 (.take 3 (.take 4 (.take 5 (.take 7 (.take 8 (.take 9 (.two 1 6 (.one 6 (.one 10 (.one 11 (.take 12 (.one 13 .done))))) (.two 1 10 (.one 10 (.one 11 (.take 12 (.one 13 .done)))) (.one 1 (.one 11 (.take 12 (.one 13 .done)))))))))))))
def g_haz_prot_8 : List Nat := [5, 6]
end Go.Proofs.YtlcjkogdbleboaaGreat.V
