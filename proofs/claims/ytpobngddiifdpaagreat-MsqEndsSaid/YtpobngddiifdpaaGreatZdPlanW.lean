/- Plans of the queues' methods: what they are handed pointers into may be changed. -/
import Derived.Test.YtpobngddiifdpaaGreatZdVPlans
set_option linter.unusedSimpArgs false
set_option linter.unusedVariables false
namespace Go.Proofs.YtpobngddiifdpaaGreat.V
def pw_msq_Step_10 : VPlan := .take 0 (.take 1 (.take 2 (.take 3 (.take 4 (.take 5 (.take 6 (.take 7 (.take 8 (.one 9 (.one 10 (.one 11 .done)))))))))))
def gw_msq_Step_10 : List Nat := [2, 5, 7, 8, 33, 37]
def pw_msq_work_got_1 : VPlan := .take 0 (.take 1 (.take 2 (.take 3 (.take 4 (.take 5 (.take 6 (.take 7 (.take 8 (.take 9 (.take 10 (.one 11 (.one 12 .done))))))))))))
def pw_msq_work_got_3 : VPlan := .take 0 (.take 1 (.take 2 (.take 3 (.take 4 (.take 5 (.take 6 (.take 7 (.take 8 (.take 9 (.one 10 (.one 11 .done)))))))))))
def pw_msq_work_got_4 : VPlan := .take 0 (.take 1 (.take 2 (.take 3 (.take 4 (.take 5 (.take 6 (.one 7 .done)))))))
def pw_msq_work_value_1 : VPlan := .take 0 (.take 1 (.take 2 (.take 3 (.take 4 (.take 5 (.take 6 (.take 8 (.take 9 (.take 10 (.take 11 (.take 12 (.take 13 (.one 7 (.late (.one 14 .done)))))))))))))))
def pw_msq_work_old_1 : VPlan := .take 0 (.take 1 (.take 2 (.take 3 (.take 4 (.take 5 (.take 6 (.take 10 (.take 11 (.take 12 (.one 7 (.one 8 (.one 9 (.take 13 (.one 14 .done))))))))))))))
def pw_msq_work_fresh_1 : VPlan := .take 0 (.take 1 (.take 2 (.take 3 (.take 4 (.take 5 (.take 6 (.take 8 (.take 9 (.take 10 (.take 11 (.take 12 (.take 13 (.one 7 (.one 14 (.late (.one 15 .done))))))))))))))))
def pw_msq_work_seen_1 : VPlan := .take 0 (.take 1 (.take 2 (.take 3 (.take 4 (.take 5 (.take 6 (.take 7 (.take 8 (.take 9 (.take 10 (.take 11 (.take 12 (.take 13 (.take 14 (.take 15 (.take 16 (.late (.one 17 .done))))))))))))))))))
def pw_msq_work_behind_1 : VPlan := .take 0 (.take 1 (.take 2 (.take 3 (.take 4 (.take 5 (.take 6 (.take 10 (.take 11 (.take 12 (.one 7 (.one 8 (.one 9 (.take 13 (.one 14 .done))))))))))))))
def pw_msq_work_help_1 : VPlan := .take 0 (.take 1 (.take 2 (.take 3 (.take 4 (.take 5 (.take 6 (.take 9 (.take 10 (.take 11 (.take 12 (.take 13 (.take 14 (.take 15 (.take 16 (.take 17 (.take 18 (.take 19 (.take 20 (.one 7 (.reck 8 (.one 21 (.late (.one 22 .done)))))))))))))))))))))))
def pw_msq_work_link_1 : VPlan := .take 0 (.take 1 (.take 2 (.take 3 (.take 4 (.take 5 (.take 6 (.take 8 (.take 9 (.take 10 (.take 11 (.take 12 (.take 13 (.take 14 (.take 15 (.take 16 (.take 17 (.take 18 (.take 19 (.one 7 (.late (.one 20 (.reck 21 .done))))))))))))))))))))))
def pw_msq_work_link_3 : VPlan := .take 0 (.take 1 (.take 2 (.take 3 (.take 4 (.take 5 (.take 6 (.take 7 (.take 8 (.take 9 (.take 10 (.take 11 (.take 12 (.take 13 (.take 14 (.take 15 (.take 16 (.take 17 (.take 18 (.take 19 (.take 20 (.one 21 (.take 22 (.take 23 (.late (.one 24 .done)))))))))))))))))))))))))
def pw_msq_work_swing_1 : VPlan := .take 0 (.take 1 (.take 2 (.take 3 (.take 4 (.take 5 (.take 6 (.take 9 (.take 10 (.take 11 (.take 12 (.take 13 (.take 14 (.take 15 (.take 16 (.take 17 (.take 18 (.take 19 (.take 20 (.one 7 (.reck 8 (.late (.one 21 .done))))))))))))))))))))))
def pw_msq_work_ended_2 : VPlan := .take 0 (.take 1 (.take 2 (.take 3 (.take 4 (.take 5 (.take 6 (.take 7 (.one 8 (.one 9 .done)))))))))
def pw_msq_work_held_1 : VPlan := .take 0 (.take 1 (.take 2 (.take 3 (.take 4 (.take 5 (.take 6 (.take 7 (.take 8 (.take 9 (.take 10 (.take 11 (.take 12 (.take 13 (.take 14 (.take 15 (.take 16 (.late (.one 17 .done))))))))))))))))))
def pw_msq_work_tail_1 : VPlan := .take 0 (.take 1 (.take 2 (.take 3 (.take 4 (.take 5 (.take 6 (.take 11 (.take 12 (.take 13 (.one 7 (.one 8 (.reck 9 (.one 10 (.take 14 (.one 15 .done)))))))))))))))
def pw_msq_work_next_1 : VPlan := .take 0 (.take 1 (.take 2 (.take 3 (.take 4 (.take 5 (.take 6 (.take 10 (.take 11 (.take 12 (.one 7 (.one 8 (.one 9 (.take 13 (.one 14 .done))))))))))))))
def pw_msq_work_next_3 : VPlan := .take 0 (.take 1 (.take 2 (.take 3 (.take 4 (.take 5 (.take 6 (.take 8 (.take 9 (.take 10 (.take 11 (.take 12 (.take 13 (.one 7 (.one 14 (.reck 15 (.late (.one 16 (.one 17 .done))))))))))))))))))
def pw_msq_work_next_4 : VPlan := .take 0 (.take 1 (.take 2 (.take 3 (.take 4 (.take 5 (.take 6 (.take 7 (.take 8 (.take 9 (.take 10 (.take 11 (.take 12 (.take 13 (.take 14 (.one 15 (.take 16 (.take 17 (.late (.one 18 .done)))))))))))))))))))
def pw_msq_work_next_5 : VPlan := .take 0 (.take 1 (.take 2 (.take 3 (.take 4 (.take 5 (.take 7 (.take 8 (.take 9 (.one 6 (.take 10 (.one 11 .done)))))))))))
def pw_msq_work_lags_1 : VPlan := .take 0 (.take 1 (.take 2 (.take 3 (.take 4 (.take 5 (.take 6 (.take 9 (.take 10 (.take 11 (.take 12 (.take 13 (.take 14 (.take 15 (.take 16 (.take 17 (.take 18 (.take 19 (.take 20 (.one 7 (.reck 8 (.one 21 (.late (.one 22 .done)))))))))))))))))))))))
def pw_msq_work_name_1 : VPlan := .take 0 (.take 1 (.take 2 (.take 3 (.take 4 (.take 6 (.take 7 (.take 8 (.take 9 (.take 10 (.take 11 (.one 5 (.one 12 (.late (.one 13 .done))))))))))))))
def pw_msq_work_still_1 : VPlan := .take 0 (.take 1 (.take 2 (.take 3 (.take 4 (.take 5 (.take 6 (.take 10 (.take 11 (.take 12 (.take 13 (.take 14 (.two 7 15 (.two 8 15 (.two 9 15 (.one 15 (.reck 16 (.one 17 (.one 18 .done)))) (.one 9 (.reck 16 (.one 17 (.one 18 .done))))) (.one 8 (.one 9 (.reck 16 (.one 17 (.one 18 .done)))))) (.one 7 (.one 8 (.one 9 (.reck 16 (.one 17 (.one 18 .done))))))))))))))))))
def pw_msq_work_told_1 : VPlan := .take 0 (.take 1 (.take 2 (.take 3 (.take 4 (.take 5 (.take 6 (.take 10 (.take 11 (.take 12 (.one 7 (.one 8 (.one 9 (.take 13 (.one 14 .done))))))))))))))
def pw_msq_work_move_1 : VPlan := .take 0 (.take 1 (.take 2 (.take 3 (.take 4 (.take 5 (.take 6 (.take 8 (.take 9 (.take 10 (.take 11 (.take 12 (.take 13 (.take 14 (.take 15 (.take 16 (.take 17 (.take 18 (.take 19 (.one 7 (.one 20 (.late (.one 21 (.reck 22 .done)))))))))))))))))))))))
def pw_msq_work_move_3 : VPlan := .take 0 (.take 1 (.take 2 (.take 3 (.take 4 (.take 5 (.take 6 (.take 7 (.take 8 (.take 9 (.take 10 (.take 11 (.take 12 (.take 13 (.take 14 (.take 15 (.take 16 (.take 17 (.take 18 (.take 19 (.take 20 (.one 21 (.take 22 (.take 23 (.late (.one 24 .done)))))))))))))))))))))))))
def pw_msq_work_done_2 : VPlan := .take 0 (.take 1 (.take 2 (.take 3 (.take 4 (.take 5 (.take 6 (.take 7 (.take 8 (.take 9 (.take 10 (.take 11 (.take 12 (.take 13 (.take 14 (.take 15 (.take 16 (.take 17 (.take 18 (.take 19 (.one 20 (.one 21 .done)))))))))))))))))))))
def pw_msq_work_then_1 : VPlan := .take 0 (.take 1 (.take 3 (.take 4 (.take 5 (.take 7 (.take 8 (.two 2 6 (.one 6 (.one 9 (.one 10 .done))) (.one 2 (.one 9 (.one 10 .done))))))))))
def pw_msq_work_on_2 : VPlan := .take 0 (.take 1 (.take 2 (.take 3 (.take 4 (.take 5 (.take 6 (.take 7 (.take 8 (.take 9 (.take 10 (.take 11 (.one 12 (.one 13 .done)))))))))))))
def pw_msq_work_cas_1 : VPlan := .take 0 (.take 1 (.take 2 (.take 3 (.take 4 (.take 5 (.take 6 (.take 7 (.take 8 (.two 9 14 (.two 10 14 (.reck 11 (.reck 12 (.reck 13 (.one 14 (.one 15 (.one 16 .done)))))) (.one 10 (.reck 11 (.reck 12 (.reck 13 (.one 15 (.one 16 .done))))))) (.one 9 (.one 10 (.reck 11 (.reck 12 (.reck 13 (.one 15 (.one 16 .done))))))))))))))))
end Go.Proofs.YtpobngddiifdpaaGreat.V
