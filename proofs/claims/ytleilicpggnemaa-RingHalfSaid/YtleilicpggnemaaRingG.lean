import Derived.Test.YtleilicpggnemaaMachF
import Derived.Test.YtleilicpggnemaaProg
import Derived.KernelRfl
namespace Go.Ab
open Go Go.Proofs
/-- shuttlecock/ring.slot -/
def b17 : C :=
    .seq (
      .fgt false [1, 2] [100] <| .reg [100] [
        ⟨(some 2), .box (.t 0) 100, none⟩,
        ⟨(some 4), .mv (.k (.int .i64 0)), none⟩]) (
      .seq (
        .fgt false [4] [] <| .reg [] [
          ⟨(some 5), .faddr 8 (.t 2), none⟩,
          ⟨(some 6), .load false 1 (.t 5), none⟩,
          ⟨(some 7), .mv (.t 1), none⟩,
          ⟨(some 8), .bin .add (.t 6) (.t 7), none⟩,
          ⟨(some 9), .bin .rem (.t 8) (.k (.int .i64 8)), none⟩,
          ⟨(some 4), .mv (.t 9), none⟩]) (
        .ret))
def t17 : FnT := ⟨2, [], [], [.t 4], b17⟩

/-- shuttlecock/ring.May -/
def b12 : C :=
    .seq (
      .fgt false [1] [100] <| .reg [100] [
        ⟨(some 1), .box (.t 0) 100, none⟩,
        ⟨(some 2), .mv (.k (.bool false)), none⟩]) (
      .seq (
        .seq (
          .fgt false [1, 22] [100] <| .reg [] [
            ⟨(some 5), .faddr 8 (.t 1), none⟩,
            ⟨(some 6), .load false 1 (.t 5), none⟩,
            ⟨(some 7), .bin .lss (.t 6) (.k (.int .i64 0)), none⟩,
            ⟨(some 8), .mv (.t 7), none⟩,
            ⟨(some 9), .faddr 8 (.t 1), (some (8, false))⟩,
            ⟨(some 10), .load false 1 (.t 9), (some (8, false))⟩,
            ⟨(some 11), .bin .geq (.t 10) (.k (.int .i64 8)), (some (8, false))⟩,
            ⟨(some 12), .pick (.t 8) (.k (.bool true)) (.t 11), none⟩,
            ⟨(some 13), .mv (.t 12), none⟩,
            ⟨(some 14), .faddr 9 (.t 1), (some (13, false))⟩,
            ⟨(some 15), .load false 1 (.t 14), (some (13, false))⟩,
            ⟨(some 16), .bin .lss (.t 15) (.k (.int .i64 0)), (some (13, false))⟩,
            ⟨(some 17), .pick (.t 13) (.k (.bool true)) (.t 16), none⟩,
            ⟨(some 18), .mv (.t 17), none⟩,
            ⟨(some 19), .faddr 9 (.t 1), (some (18, false))⟩,
            ⟨(some 20), .load false 1 (.t 19), (some (18, false))⟩,
            ⟨(some 21), .bin .gtr (.t 20) (.k (.int .i64 8)), (some (18, false))⟩,
            ⟨(some 22), .pick (.t 18) (.k (.bool true)) (.t 21), none⟩]) (
          .cond (.t 22) (
            .seq (
              .fgt false [2] [] <| .reg [] [
                ⟨(some 2), .mv (.k (.bool false)), none⟩]) (
              .ret)) (
            .skip))) (
        .seq (
          .seq (
            .fgt false [1, 23] [100] <| .reg [] [
              ⟨(some 23), .mv (.k (.int .i64 0)), none⟩]) (
            .blk 0 (
              .loop [1, 23] [100] (
                .seq (
                  .fgt false [1, 23, 24] [100] <| .reg [] [
                    ⟨(some 24), .bin .lss (.t 23) (.k (.int .i64 8)), none⟩]) (
                  .seq (
                    .cond (.t 24) (
                      .skip) (
                      .exit 0)) (
                    .seq (
                      .blk 1 (
                        .seq (
                          .fgt false [1, 3, 23] [100] <| .reg [] [
                            ⟨(some 25), .mv (.t 23), none⟩,
                            ⟨(some 3), .mv (.t 25), none⟩]) (
                          .seq (
                            .fgt false [1, 3, 4, 23] [100] <| .reg [] [
                              ⟨(some 26), .load true 10 (.t 1), none⟩,
                              ⟨(some 27), .mv (.t 3), none⟩,
                              ⟨(some 28), .call 17 [.ro (.t 26), .ro (.t 27)] [], none⟩,
                              ⟨(some 29), .faddr 0 (.t 1), none⟩,
                              ⟨(some 30), .iaddr 1 (some 8) (.t 29) (.t 28), none⟩,
                              ⟨(some 31), .load false 1 (.t 30), none⟩,
                              ⟨(some 4), .mv (.t 31), none⟩]) (
                            .seq (
                              .fgt false [1, 23, 49] [100] <| .reg [] [
                                ⟨(some 32), .mv (.t 3), none⟩,
                                ⟨(some 33), .faddr 9 (.t 1), none⟩,
                                ⟨(some 34), .load false 1 (.t 33), none⟩,
                                ⟨(some 35), .bin .lss (.t 32) (.t 34), none⟩,
                                ⟨(some 36), .mv (.t 35), none⟩,
                                ⟨(some 37), .mv (.t 4), (some (36, true))⟩,
                                ⟨(some 38), .bin .lss (.t 37) (.k (.int .i64 1)), (some (36, true))⟩,
                                ⟨(some 39), .pick (.t 36) (.t 38) (.k (.bool false)), none⟩,
                                ⟨(some 40), .mv (.t 39), none⟩,
                                ⟨(some 41), .mv (.t 3), (some (40, false))⟩,
                                ⟨(some 42), .faddr 9 (.t 1), (some (40, false))⟩,
                                ⟨(some 43), .load false 1 (.t 42), (some (40, false))⟩,
                                ⟨(some 44), .bin .geq (.t 41) (.t 43), (some (40, false))⟩,
                                ⟨(some 45), .mv (.t 44), (some (40, false))⟩,
                                ⟨(some 46), .mv (.t 4), (some (45, true))⟩,
                                ⟨(some 47), .bin .neq (.t 46) (.k (.int .i64 0)), (some (45, true))⟩,
                                ⟨(some 48), .pick (.t 45) (.t 47) (.k (.bool false)), (some (40, false))⟩,
                                ⟨(some 49), .pick (.t 40) (.k (.bool true)) (.t 48), none⟩]) (
                              .cond (.t 49) (
                                .seq (
                                  .fgt false [2] [] <| .reg [] [
                                    ⟨(some 2), .mv (.k (.bool false)), none⟩]) (
                                  .ret)) (
                                .skip)))))) (
                      .fgt false [1, 23] [100] <| .reg [] [
                        ⟨(some 50), .bin .add (.t 23) (.k (.int .i64 1)), none⟩,
                        ⟨(some 23), .mv (.t 50), none⟩]))))))) (
          .seq (
            .fgt false [2] [] <| .reg [] [
              ⟨(some 2), .mv (.k (.bool true)), none⟩]) (
            .ret))))
def t12 : FnT := ⟨1, [], [], [.t 2], b12⟩

/-- shuttlecock/shuttlecockref09.May -/
def b8 : C :=
    .seq (
      .fgt false [1] [100] <| .reg [100] [
        ⟨(some 1), .box (.t 0) 100, none⟩,
        ⟨(some 2), .mv (.k (.bool false)), none⟩]) (
      .seq (
        .seq (
          .fgt false [1, 22] [100] <| .reg [] [
            ⟨(some 5), .faddr 8 (.t 1), none⟩,
            ⟨(some 6), .load false 1 (.t 5), none⟩,
            ⟨(some 7), .bin .lss (.t 6) (.k (.int .i64 0)), none⟩,
            ⟨(some 8), .mv (.t 7), none⟩,
            ⟨(some 9), .faddr 8 (.t 1), (some (8, false))⟩,
            ⟨(some 10), .load false 1 (.t 9), (some (8, false))⟩,
            ⟨(some 11), .bin .gtr (.t 10) (.k (.int .i64 7)), (some (8, false))⟩,
            ⟨(some 12), .pick (.t 8) (.k (.bool true)) (.t 11), none⟩,
            ⟨(some 13), .mv (.t 12), none⟩,
            ⟨(some 14), .faddr 9 (.t 1), (some (13, false))⟩,
            ⟨(some 15), .load false 1 (.t 14), (some (13, false))⟩,
            ⟨(some 16), .bin .lss (.t 15) (.k (.int .i64 0)), (some (13, false))⟩,
            ⟨(some 17), .pick (.t 13) (.k (.bool true)) (.t 16), none⟩,
            ⟨(some 18), .mv (.t 17), none⟩,
            ⟨(some 19), .faddr 9 (.t 1), (some (18, false))⟩,
            ⟨(some 20), .load false 1 (.t 19), (some (18, false))⟩,
            ⟨(some 21), .bin .gtr (.t 20) (.k (.int .i64 8)), (some (18, false))⟩,
            ⟨(some 22), .pick (.t 18) (.k (.bool true)) (.t 21), none⟩]) (
          .cond (.t 22) (
            .seq (
              .fgt false [2] [] <| .reg [] [
                ⟨(some 2), .mv (.k (.bool false)), none⟩]) (
              .ret)) (
            .skip))) (
        .seq (
          .seq (
            .fgt false [1, 3] [100] <| .reg [] [
              ⟨(some 3), .mv (.k (.int .i64 0)), none⟩]) (
            .blk 0 (
              .loop [1, 3] [100] (
                .seq (
                  .seq (
                    .fgt false [1, 3, 24] [100] <| .reg [] [
                      ⟨(some 23), .mv (.t 3), none⟩,
                      ⟨(some 24), .bin .lss (.t 23) (.k (.int .i64 8)), none⟩]) (
                    .cond (.t 24) (
                      .skip) (
                      .exit 0))) (
                  .seq (
                    .blk 1 (
                      .seq (
                        .fgt false [1, 3, 4] [100] <| .reg [] [
                          ⟨(some 27), .mv (.t 3), none⟩,
                          ⟨(some 28), .faddr 8 (.t 1), none⟩,
                          ⟨(some 29), .load false 1 (.t 28), none⟩,
                          ⟨(some 30), .bin .sub (.t 27) (.t 29), none⟩,
                          ⟨(some 31), .bin .add (.t 30) (.k (.int .i64 8)), none⟩,
                          ⟨(some 32), .bin .rem (.t 31) (.k (.int .i64 8)), none⟩,
                          ⟨(some 33), .faddr 9 (.t 1), none⟩,
                          ⟨(some 34), .load false 1 (.t 33), none⟩,
                          ⟨(some 35), .bin .lss (.t 32) (.t 34), none⟩,
                          ⟨(some 4), .mv (.t 35), none⟩]) (
                        .seq (
                          .fgt false [1, 3, 54] [100] <| .reg [] [
                            ⟨(some 36), .mv (.t 4), none⟩,
                            ⟨(some 37), .mv (.t 36), none⟩,
                            ⟨(some 38), .mv (.t 3), (some (37, true))⟩,
                            ⟨(some 39), .faddr 0 (.t 1), (some (37, true))⟩,
                            ⟨(some 40), .iaddr 1 (some 8) (.t 39) (.t 38), (some (37, true))⟩,
                            ⟨(some 41), .load false 1 (.t 40), (some (37, true))⟩,
                            ⟨(some 42), .bin .lss (.t 41) (.k (.int .i64 1)), (some (37, true))⟩,
                            ⟨(some 43), .pick (.t 37) (.t 42) (.k (.bool false)), none⟩,
                            ⟨(some 44), .mv (.t 43), none⟩,
                            ⟨(some 45), .mv (.t 4), (some (44, false))⟩,
                            ⟨(some 46), .not (.t 45), (some (44, false))⟩,
                            ⟨(some 47), .mv (.t 46), (some (44, false))⟩,
                            ⟨(some 48), .mv (.t 3), (some (47, true))⟩,
                            ⟨(some 49), .faddr 0 (.t 1), (some (47, true))⟩,
                            ⟨(some 50), .iaddr 1 (some 8) (.t 49) (.t 48), (some (47, true))⟩,
                            ⟨(some 51), .load false 1 (.t 50), (some (47, true))⟩,
                            ⟨(some 52), .bin .neq (.t 51) (.k (.int .i64 0)), (some (47, true))⟩,
                            ⟨(some 53), .pick (.t 47) (.t 52) (.k (.bool false)), (some (44, false))⟩,
                            ⟨(some 54), .pick (.t 44) (.k (.bool true)) (.t 53), none⟩]) (
                          .cond (.t 54) (
                            .seq (
                              .fgt false [2] [] <| .reg [] [
                                ⟨(some 2), .mv (.k (.bool false)), none⟩]) (
                              .ret)) (
                            .skip))))) (
                    .fgt false [1, 3] [100] <| .reg [] [
                      ⟨(some 25), .mv (.t 3), none⟩,
                      ⟨(some 26), .bin .add (.t 25) (.k (.int .i64 1)), none⟩,
                      ⟨(some 3), .mv (.t 26), none⟩])))))) (
          .seq (
            .fgt false [2] [] <| .reg [] [
              ⟨(some 2), .mv (.k (.bool true)), none⟩]) (
            .ret))))
def t8 : FnT := ⟨1, [], [], [.t 2], b8⟩

/-- shuttlecock/ring.Push -/
def b10 : C :=
    .seq (
      .fgt false [1, 2, 4] [100, 101] <| .reg [100, 101] [
        ⟨(some 2), .box (.t 0) 100, none⟩,
        ⟨(some 4), .alloc [.int .i64 0, .int .i64 0, .int .i64 0, .int .i64 0, .int .i64 0, .int .i64 0, .int .i64 0, .int .i64 0, .int .i64 0, .int .i64 0] 101 [], none⟩,
        ⟨(some 5), .mv (.k (.bool false)), none⟩]) (
      .seq (
        .seq (
          .fgt false [1, 2, 4, 17] [100, 101] <| .reg [] [
            ⟨(some 6), .load true 10 (.t 2), none⟩,
            ⟨(some 7), .call 12 [.ro (.t 6)] [], none⟩,
            ⟨(some 8), .not (.t 7), none⟩,
            ⟨(some 9), .mv (.t 8), none⟩,
            ⟨(some 10), .faddr 9 (.t 2), (some (9, false))⟩,
            ⟨(some 11), .load false 1 (.t 10), (some (9, false))⟩,
            ⟨(some 12), .bin .eql (.t 11) (.k (.int .i64 8)), (some (9, false))⟩,
            ⟨(some 13), .pick (.t 9) (.k (.bool true)) (.t 12), none⟩,
            ⟨(some 14), .mv (.t 13), none⟩,
            ⟨(some 15), .mv (.t 1), (some (14, false))⟩,
            ⟨(some 16), .bin .lss (.t 15) (.k (.int .i64 1)), (some (14, false))⟩,
            ⟨(some 17), .pick (.t 14) (.k (.bool true)) (.t 16), none⟩]) (
          .cond (.t 17) (
            .seq (
              .fgt false [4, 5] [101] <| .reg [] [
                ⟨(some 18), .build [.int .i64 0, .int .i64 0, .int .i64 0, .int .i64 0, .int .i64 0, .int .i64 0, .int .i64 0, .int .i64 0, .int .i64 0, .int .i64 0] [], none⟩,
                ⟨none, .store 10 (.t 4) (.t 18), none⟩,
                ⟨(some 5), .mv (.k (.bool false)), none⟩]) (
              .ret)) (
            .skip))) (
        .seq (
          .fgt false [2, 4] [100, 101] <| .reg [] [
            ⟨(some 19), .load true 10 (.t 2), none⟩,
            ⟨(some 20), .faddr 9 (.t 2), none⟩,
            ⟨(some 21), .load false 1 (.t 20), none⟩,
            ⟨(some 22), .call 17 [.ro (.t 19), .ro (.t 21)] [], none⟩,
            ⟨(some 23), .mv (.t 1), none⟩,
            ⟨(some 24), .faddr 0 (.t 2), none⟩,
            ⟨(some 25), .iaddr 1 (some 8) (.t 24) (.t 22), none⟩,
            ⟨none, .store 1 (.t 25) (.t 23), none⟩]) (
          .seq (
            .fgt false [2, 4] [100, 101] <| .reg [] [
              ⟨(some 26), .faddr 9 (.t 2), none⟩,
              ⟨(some 27), .load false 1 (.t 26), none⟩,
              ⟨(some 28), .bin .add (.t 27) (.k (.int .i64 1)), none⟩,
              ⟨(some 29), .faddr 9 (.t 2), none⟩,
              ⟨none, .store 1 (.t 29) (.t 28), none⟩]) (
            .seq (
              .fgt false [4, 5] [101] <| .reg [] [
                ⟨(some 30), .load true 10 (.t 2), none⟩,
                ⟨none, .store 10 (.t 4) (.t 30), none⟩,
                ⟨(some 5), .mv (.k (.bool true)), none⟩]) (
              .ret)))))
def t10 : FnT := ⟨2, [], [], [.c true 10 4, .t 5], b10⟩

/-- shuttlecock/ring.Pop -/
def b11 : C :=
    .seq (
      .fgt false [1, 2] [100, 101] <| .reg [100, 101] [
        ⟨(some 1), .box (.t 0) 100, none⟩,
        ⟨(some 2), .alloc [.int .i64 0, .int .i64 0, .int .i64 0, .int .i64 0, .int .i64 0, .int .i64 0, .int .i64 0, .int .i64 0, .int .i64 0, .int .i64 0] 101 [], none⟩,
        ⟨(some 3), .mv (.k (.int .i64 0)), none⟩,
        ⟨(some 4), .mv (.k (.bool false)), none⟩]) (
      .seq (
        .blk 0 (
          .seq (
            .fgt false [1, 2, 6] [100, 101] <| .reg [] [
              ⟨(some 7), .load true 10 (.t 1), none⟩,
              ⟨(some 8), .call 12 [.ro (.t 7)] [], none⟩,
              ⟨(some 9), .not (.t 8), none⟩,
              ⟨(some 6), .mv (.t 9), none⟩]) (
            .cond (.t 6) (
              .seq (
                .fgt false [2, 3, 4] [101] <| .reg [] [
                  ⟨(some 10), .build [.int .i64 0, .int .i64 0, .int .i64 0, .int .i64 0, .int .i64 0, .int .i64 0, .int .i64 0, .int .i64 0, .int .i64 0, .int .i64 0] [], none⟩,
                  ⟨none, .store 10 (.t 2) (.t 10), none⟩,
                  ⟨(some 3), .mv (.k (.int .i64 0)), none⟩,
                  ⟨(some 4), .mv (.k (.bool false)), none⟩]) (
                .ret)) (
              .seq (
                .fgt false [1, 2, 11] [100, 101] <| .reg [] [
                  ⟨(some 12), .faddr 9 (.t 1), none⟩,
                  ⟨(some 13), .load false 1 (.t 12), none⟩,
                  ⟨(some 14), .bin .eql (.t 13) (.k (.int .i64 0)), none⟩,
                  ⟨(some 11), .mv (.t 14), none⟩]) (
                .cond (.t 11) (
                  .seq (
                    .fgt false [2, 3, 4] [101] <| .reg [] [
                      ⟨(some 15), .load true 10 (.t 1), none⟩,
                      ⟨none, .store 10 (.t 2) (.t 15), none⟩,
                      ⟨(some 3), .mv (.k (.int .i64 0)), none⟩,
                      ⟨(some 4), .mv (.k (.bool false)), none⟩]) (
                    .ret)) (
                  .skip)))))) (
        .seq (
          .fgt false [1, 2, 5] [100, 101] <| .reg [] [
            ⟨(some 16), .faddr 8 (.t 1), none⟩,
            ⟨(some 17), .load false 1 (.t 16), none⟩,
            ⟨(some 18), .faddr 0 (.t 1), none⟩,
            ⟨(some 19), .iaddr 1 (some 8) (.t 18) (.t 17), none⟩,
            ⟨(some 20), .load false 1 (.t 19), none⟩,
            ⟨(some 5), .mv (.t 20), none⟩]) (
          .seq (
            .fgt false [1, 2, 5] [100, 101] <| .reg [] [
              ⟨(some 21), .faddr 8 (.t 1), none⟩,
              ⟨(some 22), .load false 1 (.t 21), none⟩,
              ⟨(some 23), .faddr 0 (.t 1), none⟩,
              ⟨(some 24), .iaddr 1 (some 8) (.t 23) (.t 22), none⟩,
              ⟨none, .store 1 (.t 24) (.k (.int .i64 0)), none⟩]) (
            .seq (
              .fgt false [1, 2, 5] [100, 101] <| .reg [] [
                ⟨(some 25), .load true 10 (.t 1), none⟩,
                ⟨(some 26), .call 17 [.ro (.t 25), .ro (.k (.int .i64 1))] [], none⟩,
                ⟨(some 27), .faddr 8 (.t 1), none⟩,
                ⟨none, .store 1 (.t 27) (.t 26), none⟩]) (
              .seq (
                .fgt false [1, 2, 5] [100, 101] <| .reg [] [
                  ⟨(some 28), .faddr 9 (.t 1), none⟩,
                  ⟨(some 29), .load false 1 (.t 28), none⟩,
                  ⟨(some 30), .bin .sub (.t 29) (.k (.int .i64 1)), none⟩,
                  ⟨(some 31), .faddr 9 (.t 1), none⟩,
                  ⟨none, .store 1 (.t 31) (.t 30), none⟩]) (
                .seq (
                  .fgt false [2, 3, 4] [101] <| .reg [] [
                    ⟨(some 32), .load true 10 (.t 1), none⟩,
                    ⟨(some 33), .mv (.t 5), none⟩,
                    ⟨none, .store 10 (.t 2) (.t 32), none⟩,
                    ⟨(some 3), .mv (.t 33), none⟩,
                    ⟨(some 4), .mv (.k (.bool true)), none⟩]) (
                  .ret)))))))
def t11 : FnT := ⟨1, [], [], [.c true 10 2, .t 3, .t 4], b11⟩

/-- shuttlecock/shuttlecockref01.Ints -/
def b13 : C :=
    .seq (
      .fgt false [0, 1] [] <| .reg [] [
        ⟨(some 4), .mv (.k (.bool false)), none⟩]) (
      .seq (
        .seq (
          .fgt false [0, 1, 10] [] <| .reg [] [
            ⟨(some 6), .mv (.t 0), none⟩,
            ⟨(some 7), .len (.t 6), none⟩,
            ⟨(some 8), .mv (.t 1), none⟩,
            ⟨(some 9), .len (.t 8), none⟩,
            ⟨(some 10), .bin .neq (.t 7) (.t 9), none⟩]) (
          .cond (.t 10) (
            .seq (
              .fgt false [4] [] <| .reg [] [
                ⟨(some 4), .mv (.k (.bool false)), none⟩]) (
              .ret)) (
            .skip))) (
        .seq (
          .seq (
            .fgt false [0, 1, 5] [] <| .reg [] [
              ⟨(some 5), .mv (.k (.int .i64 0)), none⟩]) (
            .blk 0 (
              .loop [0, 1, 5] [] (
                .seq (
                  .seq (
                    .fgt false [0, 1, 5, 14] [] <| .reg [] [
                      ⟨(some 11), .mv (.t 5), none⟩,
                      ⟨(some 12), .mv (.t 0), none⟩,
                      ⟨(some 13), .len (.t 12), none⟩,
                      ⟨(some 14), .bin .lss (.t 11) (.t 13), none⟩]) (
                    .cond (.t 14) (
                      .skip) (
                      .exit 0))) (
                  .seq (
                    .blk 1 (
                      .seq (
                        .fgt false [0, 1, 5, 25] [] <| .regd [] [
                          (⟨(some 17), .mv (.t 0), none⟩, 0),
                          (⟨(some 18), .mv (.t 5), none⟩, 0),
                          (⟨(some 19), .iaddr 1 none (.t 17) (.t 18), none⟩, 1),
                          (⟨(some 20), .load false 1 (.t 19), none⟩, 1),
                          (⟨(some 21), .mv (.t 1), none⟩, 0),
                          (⟨(some 22), .mv (.t 5), none⟩, 0),
                          (⟨(some 23), .iaddr 1 none (.t 21) (.t 22), none⟩, 1),
                          (⟨(some 24), .load false 1 (.t 23), none⟩, 1),
                          (⟨(some 25), .bin .neq (.t 20) (.t 24), none⟩, 0)]) (
                        .cond (.t 25) (
                          .seq (
                            .fgt false [4] [] <| .reg [] [
                              ⟨(some 4), .mv (.k (.bool false)), none⟩]) (
                            .ret)) (
                          .skip)))) (
                    .fgt false [0, 1, 5] [] <| .reg [] [
                      ⟨(some 15), .mv (.t 5), none⟩,
                      ⟨(some 16), .bin .add (.t 15) (.k (.int .i64 1)), none⟩,
                      ⟨(some 5), .mv (.t 16), none⟩])))))) (
          .seq (
            .fgt false [4] [] <| .reg [] [
              ⟨(some 4), .mv (.k (.bool true)), none⟩]) (
            .ret))))
def t13 : FnT := ⟨2, [], [], [.t 4], b13⟩

/-- shuttlecock/shuttlecockref09.List -/
def b9 : C :=
    .seq (
      .fgt false [1] [100, 110] <| .reg [100] [
        ⟨(some 1), .box (.t 0) 100, none⟩,
        ⟨(some 2), .mv (.k (.nils 1)), none⟩]) (
      .seq (
        .fgt false [1, 3] [100, 110] <| .reg [110] [
          ⟨(some 5), .bsl 1 [] (some 110), none⟩,
          ⟨(some 3), .mv (.t 5), none⟩]) (
        .seq (
          .seq (
            .fgt false [1, 3, 4] [100, 110] <| .reg [] [
              ⟨(some 4), .mv (.k (.int .i64 0)), none⟩]) (
            .blk 0 (
              .loop [1, 3, 4] [100, 110] (
                .seq (
                  .seq (
                    .fgt false [1, 3, 4, 13] [100, 110] <| .reg [] [
                      ⟨(some 6), .load true 10 (.t 1), none⟩,
                      ⟨(some 7), .call 8 [.ro (.t 6)] [], none⟩,
                      ⟨(some 8), .mv (.t 7), none⟩,
                      ⟨(some 9), .mv (.t 4), (some (8, true))⟩,
                      ⟨(some 10), .faddr 9 (.t 1), (some (8, true))⟩,
                      ⟨(some 11), .load false 1 (.t 10), (some (8, true))⟩,
                      ⟨(some 12), .bin .lss (.t 9) (.t 11), (some (8, true))⟩,
                      ⟨(some 13), .pick (.t 8) (.t 12) (.k (.bool false)), none⟩]) (
                    .cond (.t 13) (
                      .skip) (
                      .exit 0))) (
                  .seq (
                    .blk 1 (
                      .fgt false [1, 3, 4] [100, 110] <| .reg [] [
                        ⟨(some 16), .mv (.t 3), none⟩,
                        ⟨(some 17), .faddr 8 (.t 1), none⟩,
                        ⟨(some 18), .load false 1 (.t 17), none⟩,
                        ⟨(some 19), .mv (.t 4), none⟩,
                        ⟨(some 20), .bin .add (.t 18) (.t 19), none⟩,
                        ⟨(some 21), .bin .rem (.t 20) (.k (.int .i64 8)), none⟩,
                        ⟨(some 22), .faddr 0 (.t 1), none⟩,
                        ⟨(some 23), .iaddr 1 (some 8) (.t 22) (.t 21), none⟩,
                        ⟨(some 24), .load false 1 (.t 23), none⟩,
                        ⟨(some 25), .bsl 1 [(.t 24)] none, none⟩,
                        ⟨(some 26), .app 1 8 (.t 16) (.t 25) (some 110), none⟩,
                        ⟨(some 3), .mv (.t 26), none⟩])) (
                    .fgt false [1, 3, 4] [100, 110] <| .reg [] [
                      ⟨(some 14), .mv (.t 4), none⟩,
                      ⟨(some 15), .bin .add (.t 14) (.k (.int .i64 1)), none⟩,
                      ⟨(some 4), .mv (.t 15), none⟩])))))) (
          .seq (
            .fgt false [2] [110] <| .reg [] [
              ⟨(some 27), .mv (.t 3), none⟩,
              ⟨(some 2), .mv (.t 27), none⟩]) (
            .ret))))
def t9 : FnT := ⟨1, [], [], [.t 2], b9⟩

/-- shuttlecock/ring.Half -/
def b15 : C :=
    .seq (
      .fgt false [1, 2] [100, 101, 110] <| .reg [100, 101] [
        ⟨(some 1), .box (.t 0) 100, none⟩,
        ⟨(some 2), .alloc [.int .i64 0, .int .i64 0, .int .i64 0, .int .i64 0, .int .i64 0, .int .i64 0, .int .i64 0, .int .i64 0, .int .i64 0, .int .i64 0] 101 [], none⟩,
        ⟨(some 3), .mv (.k (.nils 1)), none⟩]) (
      .seq (
        .seq (
          .fgt false [1, 2, 10] [100, 101, 110] <| .reg [] [
            ⟨(some 8), .load true 10 (.t 1), none⟩,
            ⟨(some 9), .call 12 [.ro (.t 8)] [], none⟩,
            ⟨(some 10), .not (.t 9), none⟩]) (
          .cond (.t 10) (
            .seq (
              .fgt false [2, 3] [101, 110] <| .reg [] [
                ⟨(some 11), .build [.int .i64 0, .int .i64 0, .int .i64 0, .int .i64 0, .int .i64 0, .int .i64 0, .int .i64 0, .int .i64 0, .int .i64 0, .int .i64 0] [], none⟩,
                ⟨none, .store 10 (.t 2) (.t 11), none⟩,
                ⟨(some 3), .mv (.k (.nils 1)), none⟩]) (
              .ret)) (
            .skip))) (
        .seq (
          .fgt false [1, 2, 4] [100, 101, 110] <| .reg [110] [
            ⟨(some 4), .nil 1 110, none⟩]) (
          .seq (
            .seq (
              .fgt false [1, 2, 4, 17, 18] [100, 101, 110] <| .reg [] [
                ⟨(some 12), .faddr 9 (.t 1), none⟩,
                ⟨(some 13), .load false 1 (.t 12), none⟩,
                ⟨(some 14), .faddr 9 (.t 1), none⟩,
                ⟨(some 15), .load false 1 (.t 14), none⟩,
                ⟨(some 16), .bin .quo (.t 15) (.k (.int .i64 2)), none⟩,
                ⟨(some 17), .bin .sub (.t 13) (.t 16), none⟩,
                ⟨(some 18), .mv (.k (.int .i64 0)), none⟩]) (
              .blk 0 (
                .loop [1, 2, 4, 17, 18] [100, 101, 110] (
                  .seq (
                    .fgt false [1, 2, 4, 17, 18, 19] [100, 101, 110] <| .reg [] [
                      ⟨(some 19), .bin .lss (.t 18) (.t 17), none⟩]) (
                    .seq (
                      .cond (.t 19) (
                        .skip) (
                        .exit 0)) (
                      .seq (
                        .blk 1 (
                          .seq (
                            .fgt false [1, 2, 4, 5, 6, 17, 18] [100, 101, 102, 110] <| .reg [102] [
                              ⟨(some 21), .load true 10 (.t 1), none⟩,
                              ⟨(some 22), .call 11 [.ro (.t 21)] [], none⟩,
                              ⟨(some 20), .mv (.t 22), none⟩,
                              ⟨(some 23), .ext 0 (.t 20), none⟩,
                              ⟨(some 24), .ext 1 (.t 20), none⟩,
                              ⟨(some 25), .ext 2 (.t 20), none⟩,
                              ⟨(some 5), .alloc [.int .i64 0, .int .i64 0, .int .i64 0, .int .i64 0, .int .i64 0, .int .i64 0, .int .i64 0, .int .i64 0, .int .i64 0, .int .i64 0] 102 [], none⟩,
                              ⟨none, .store 10 (.t 5) (.t 23), none⟩,
                              ⟨(some 6), .mv (.t 24), none⟩,
                              ⟨(some 7), .mv (.t 25), none⟩]) (
                            .seq (
                              .fgt false [1, 2, 4, 6, 17, 18] [100, 101, 110] <| .reg [] [
                                ⟨(some 26), .load true 10 (.t 5), none⟩,
                                ⟨none, .store 10 (.t 1) (.t 26), none⟩]) (
                              .fgt false [1, 2, 4, 17, 18] [100, 101, 110] <| .reg [] [
                                ⟨(some 27), .mv (.t 4), none⟩,
                                ⟨(some 28), .mv (.t 6), none⟩,
                                ⟨(some 29), .bsl 1 [(.t 28)] none, none⟩,
                                ⟨(some 30), .app 1 8 (.t 27) (.t 29) (some 110), none⟩,
                                ⟨(some 4), .mv (.t 30), none⟩])))) (
                        .fgt false [1, 2, 4, 17, 18] [100, 101, 110] <| .reg [] [
                          ⟨(some 31), .bin .add (.t 18) (.k (.int .i64 1)), none⟩,
                          ⟨(some 18), .mv (.t 31), none⟩]))))))) (
            .seq (
              .fgt false [2, 3] [101, 110] <| .reg [] [
                ⟨(some 32), .load true 10 (.t 1), none⟩,
                ⟨(some 33), .mv (.t 4), none⟩,
                ⟨none, .store 10 (.t 2) (.t 32), none⟩,
                ⟨(some 3), .mv (.t 33), none⟩]) (
              .ret)))))
def t15 : FnT := ⟨1, [], [], [.c true 10 2, .t 3], b15⟩

/-- shuttlecock/ring.Of -/
def b16 : C :=
    .seq (
      .fgt false [0, 2] [100] <| .reg [100] [
        ⟨(some 2), .alloc [.int .i64 0, .int .i64 0, .int .i64 0, .int .i64 0, .int .i64 0, .int .i64 0, .int .i64 0, .int .i64 0, .int .i64 0, .int .i64 0] 100 [], none⟩,
        ⟨(some 3), .mv (.k (.bool false)), none⟩]) (
      .seq (
        .fgt false [0, 2, 4] [100, 101] <| .reg [101] [
          ⟨(some 4), .alloc [.int .i64 0, .int .i64 0, .int .i64 0, .int .i64 0, .int .i64 0, .int .i64 0, .int .i64 0, .int .i64 0, .int .i64 0, .int .i64 0] 101 [], none⟩]) (
        .seq (
          .seq (
            .fgt false [2, 4, 9, 10, 11] [100, 101] <| .reg [] [
              ⟨(some 9), .mv (.t 0), none⟩,
              ⟨(some 10), .len (.t 9), none⟩,
              ⟨(some 11), .mv (.k (.int .i64 0)), none⟩]) (
            .blk 0 (
              .loop [2, 4, 9, 10, 11] [100, 101] (
                .seq (
                  .fgt false [2, 4, 9, 10, 11, 12] [100, 101] <| .reg [] [
                    ⟨(some 12), .bin .lss (.t 11) (.t 10), none⟩]) (
                  .seq (
                    .cond (.t 12) (
                      .skip) (
                      .exit 0)) (
                    .seq (
                      .blk 1 (
                        .seq (
                          .fgt false [2, 4, 6, 9, 10, 11] [100, 101] <| .reg [] [
                            ⟨(some 13), .iaddr 1 none (.t 9) (.t 11), none⟩,
                            ⟨(some 14), .load false 1 (.t 13), none⟩,
                            ⟨(some 6), .mv (.t 14), none⟩]) (
                          .seq (
                            .fgt false [2, 4, 7, 8, 9, 10, 11] [100, 101, 102] <| .reg [102] [
                              ⟨(some 16), .load true 10 (.t 4), none⟩,
                              ⟨(some 17), .mv (.t 6), none⟩,
                              ⟨(some 18), .call 10 [.ro (.t 16), .ro (.t 17)] [], none⟩,
                              ⟨(some 15), .mv (.t 18), none⟩,
                              ⟨(some 19), .ext 0 (.t 15), none⟩,
                              ⟨(some 20), .ext 1 (.t 15), none⟩,
                              ⟨(some 7), .alloc [.int .i64 0, .int .i64 0, .int .i64 0, .int .i64 0, .int .i64 0, .int .i64 0, .int .i64 0, .int .i64 0, .int .i64 0, .int .i64 0] 102 [], none⟩,
                              ⟨none, .store 10 (.t 7) (.t 19), none⟩,
                              ⟨(some 8), .mv (.t 20), none⟩]) (
                            .seq (
                              .seq (
                                .fgt false [2, 4, 7, 9, 10, 11, 22] [100, 101, 102] <| .reg [] [
                                  ⟨(some 21), .mv (.t 8), none⟩,
                                  ⟨(some 22), .not (.t 21), none⟩]) (
                                .cond (.t 22) (
                                  .seq (
                                    .fgt false [2, 3] [100] <| .reg [] [
                                      ⟨(some 23), .build [.int .i64 0, .int .i64 0, .int .i64 0, .int .i64 0, .int .i64 0, .int .i64 0, .int .i64 0, .int .i64 0, .int .i64 0, .int .i64 0] [], none⟩,
                                      ⟨none, .store 10 (.t 2) (.t 23), none⟩,
                                      ⟨(some 3), .mv (.k (.bool false)), none⟩]) (
                                    .ret)) (
                                  .skip))) (
                              .fgt false [2, 4, 9, 10, 11] [100, 101] <| .reg [] [
                                ⟨(some 24), .load true 10 (.t 7), none⟩,
                                ⟨none, .store 10 (.t 4) (.t 24), none⟩]))))) (
                      .fgt false [2, 4, 9, 10, 11] [100, 101] <| .reg [] [
                        ⟨(some 25), .bin .add (.t 11) (.k (.int .i64 1)), none⟩,
                        ⟨(some 11), .mv (.t 25), none⟩]))))))) (
          .seq (
            .fgt false [2, 3] [100] <| .reg [] [
              ⟨(some 26), .load true 10 (.t 4), none⟩,
              ⟨none, .store 10 (.t 2) (.t 26), none⟩,
              ⟨(some 3), .mv (.k (.bool true)), none⟩]) (
            .ret))))
def t16 : FnT := ⟨1, [], [], [.c true 10 2, .t 3], b16⟩

/-- shuttlecock/shuttlecocklaw09.RingQueue -/
def b3 : C :=
    .seq (
      .fgt false [1, 2] [100] <| .reg [100] [
        ⟨(some 2), .box (.t 0) 100, none⟩,
        ⟨(some 4), .mv (.k (.bool false)), none⟩]) (
      .seq (
        .seq (
          .fgt false [1, 2, 23] [100] <| .reg [] [
            ⟨(some 12), .call 7 [] [], none⟩,
            ⟨(some 13), .not (.t 12), none⟩,
            ⟨(some 14), .mv (.t 13), none⟩,
            ⟨(some 15), .load true 10 (.t 2), (some (14, false))⟩,
            ⟨(some 16), .call 8 [.ro (.t 15)] [], (some (14, false))⟩,
            ⟨(some 17), .not (.t 16), (some (14, false))⟩,
            ⟨(some 18), .pick (.t 14) (.k (.bool true)) (.t 17), none⟩,
            ⟨(some 19), .mv (.t 18), none⟩,
            ⟨(some 20), .mv (.t 1), (some (19, false))⟩,
            ⟨(some 21), .len (.t 20), (some (19, false))⟩,
            ⟨(some 22), .bin .gtr (.t 21) (.k (.int .i64 60)), (some (19, false))⟩,
            ⟨(some 23), .pick (.t 19) (.k (.bool true)) (.t 22), none⟩]) (
          .cond (.t 23) (
            .seq (
              .fgt false [4] [] <| .reg [] [
                ⟨(some 24), .call 7 [] [], none⟩,
                ⟨(some 4), .mv (.t 24), none⟩]) (
              .ret)) (
            .skip))) (
        .seq (
          .fgt false [1, 2, 5] [100] <| .reg [] [
            ⟨(some 25), .load true 10 (.t 2), none⟩,
            ⟨(some 26), .call 9 [.ro (.t 25)] [], none⟩,
            ⟨(some 5), .mv (.t 26), none⟩]) (
          .seq (
            .seq (
              .fgt false [1, 2, 5, 6] [100] <| .reg [] [
                ⟨(some 6), .mv (.k (.int .i64 0)), none⟩]) (
              .blk 0 (
                .loop [1, 2, 5, 6] [100] (
                  .seq (
                    .seq (
                      .fgt false [1, 2, 5, 6, 30] [100] <| .reg [] [
                        ⟨(some 27), .mv (.t 6), none⟩,
                        ⟨(some 28), .mv (.t 1), none⟩,
                        ⟨(some 29), .len (.t 28), none⟩,
                        ⟨(some 30), .bin .lss (.t 27) (.t 29), none⟩]) (
                      .cond (.t 30) (
                        .skip) (
                        .exit 0))) (
                    .seq (
                      .blk 1 (
                        .seq (
                          .seq (
                            .fgt false [1, 2, 5, 6, 37] [100] <| .reg [] [
                              ⟨(some 33), .mv (.t 1), none⟩,
                              ⟨(some 34), .mv (.t 6), none⟩,
                              ⟨(some 35), .iaddr 1 none (.t 33) (.t 34), none⟩,
                              ⟨(some 36), .load false 1 (.t 35), none⟩,
                              ⟨(some 37), .bin .gtr (.t 36) (.k (.int .i64 0)), none⟩]) (
                            .cond (.t 37) (
                              .seq (
                                .fgt false [1, 2, 5, 6, 7, 8] [100, 101] <| .regd [101] [
                                  (⟨(some 39), .load true 10 (.t 2), none⟩, 1),
                                  (⟨(some 40), .mv (.t 1), none⟩, 0),
                                  (⟨(some 41), .mv (.t 6), none⟩, 0),
                                  (⟨(some 42), .iaddr 1 none (.t 40) (.t 41), none⟩, 1),
                                  (⟨(some 43), .load false 1 (.t 42), none⟩, 1),
                                  (⟨(some 44), .call 10 [.ro (.t 39), .ro (.t 43)] [], none⟩, 1),
                                  (⟨(some 38), .mv (.t 44), none⟩, 0),
                                  (⟨(some 45), .ext 0 (.t 38), none⟩, 0),
                                  (⟨(some 46), .ext 1 (.t 38), none⟩, 0),
                                  (⟨(some 7), .alloc [.int .i64 0, .int .i64 0, .int .i64 0, .int .i64 0, .int .i64 0, .int .i64 0, .int .i64 0, .int .i64 0, .int .i64 0, .int .i64 0] 101 [], none⟩, 1),
                                  (⟨none, .store 10 (.t 7) (.t 45), none⟩, 2),
                                  (⟨(some 8), .mv (.t 46), none⟩, 0)]) (
                                .seq (
                                  .seq (
                                    .fgt false [1, 2, 5, 6, 7, 8, 51] [100, 101] <| .reg [] [
                                      ⟨(some 47), .mv (.t 8), none⟩,
                                      ⟨(some 48), .mv (.t 5), none⟩,
                                      ⟨(some 49), .len (.t 48), none⟩,
                                      ⟨(some 50), .bin .lss (.t 49) (.k (.int .i64 8)), none⟩,
                                      ⟨(some 51), .eqb true (.t 47) (.t 50), none⟩]) (
                                    .cond (.t 51) (
                                      .seq (
                                        .fgt false [4] [] <| .reg [] [
                                          ⟨(some 4), .mv (.k (.bool false)), none⟩]) (
                                        .ret)) (
                                      .skip))) (
                                  .seq (
                                    .fgt false [1, 2, 5, 6, 7, 52] [100, 101] <| .reg [] [
                                      ⟨(some 52), .mv (.t 8), none⟩]) (
                                    .cond (.t 52) (
                                      .seq (
                                        .fgt false [1, 2, 5, 6] [100] <| .reg [] [
                                          ⟨(some 53), .load true 10 (.t 7), none⟩,
                                          ⟨none, .store 10 (.t 2) (.t 53), none⟩]) (
                                        .fgt false [1, 2, 5, 6] [100] <| .regd [110] [
                                          (⟨(some 54), .bsl 1 [] none, none⟩, 1),
                                          (⟨(some 55), .mv (.t 5), none⟩, 0),
                                          (⟨(some 56), .app 1 8 (.t 54) (.t 55) (some 110), none⟩, 1),
                                          (⟨(some 57), .mv (.t 1), none⟩, 0),
                                          (⟨(some 58), .mv (.t 6), none⟩, 0),
                                          (⟨(some 59), .iaddr 1 none (.t 57) (.t 58), none⟩, 1),
                                          (⟨(some 60), .load false 1 (.t 59), none⟩, 1),
                                          (⟨(some 61), .bsl 1 [(.t 60)] none, none⟩, 1),
                                          (⟨(some 62), .app 1 8 (.t 56) (.t 61) none, none⟩, 3),
                                          (⟨(some 5), .mv (.t 62), none⟩, 0)])) (
                                      .skip))))) (
                              .seq (
                                .fgt false [1, 2, 5, 6, 9, 10, 11] [100, 102] <| .reg [102] [
                                  ⟨(some 64), .load true 10 (.t 2), none⟩,
                                  ⟨(some 65), .call 11 [.ro (.t 64)] [], none⟩,
                                  ⟨(some 63), .mv (.t 65), none⟩,
                                  ⟨(some 66), .ext 0 (.t 63), none⟩,
                                  ⟨(some 67), .ext 1 (.t 63), none⟩,
                                  ⟨(some 68), .ext 2 (.t 63), none⟩,
                                  ⟨(some 9), .alloc [.int .i64 0, .int .i64 0, .int .i64 0, .int .i64 0, .int .i64 0, .int .i64 0, .int .i64 0, .int .i64 0, .int .i64 0, .int .i64 0] 102 [], none⟩,
                                  ⟨none, .store 10 (.t 9) (.t 66), none⟩,
                                  ⟨(some 10), .mv (.t 67), none⟩,
                                  ⟨(some 11), .mv (.t 68), none⟩]) (
                                .seq (
                                  .seq (
                                    .fgt false [1, 2, 5, 6, 9, 11, 83] [100, 102] <| .reg [] [
                                      ⟨(some 69), .mv (.t 11), none⟩,
                                      ⟨(some 70), .mv (.t 5), none⟩,
                                      ⟨(some 71), .len (.t 70), none⟩,
                                      ⟨(some 72), .bin .gtr (.t 71) (.k (.int .i64 0)), none⟩,
                                      ⟨(some 73), .eqb true (.t 69) (.t 72), none⟩,
                                      ⟨(some 74), .mv (.t 73), none⟩,
                                      ⟨(some 75), .mv (.t 11), (some (74, false))⟩,
                                      ⟨(some 76), .mv (.t 75), (some (74, false))⟩,
                                      ⟨(some 77), .mv (.t 10), (some (76, true))⟩,
                                      ⟨(some 78), .mv (.t 5), (some (76, true))⟩,
                                      ⟨(some 79), .iaddr 1 none (.t 78) (.k (.int .i64 0)), (some (76, true))⟩,
                                      ⟨(some 80), .load false 1 (.t 79), (some (76, true))⟩,
                                      ⟨(some 81), .bin .neq (.t 77) (.t 80), (some (76, true))⟩,
                                      ⟨(some 82), .pick (.t 76) (.t 81) (.k (.bool false)), (some (74, false))⟩,
                                      ⟨(some 83), .pick (.t 74) (.k (.bool true)) (.t 82), none⟩]) (
                                    .cond (.t 83) (
                                      .seq (
                                        .fgt false [4] [] <| .reg [] [
                                          ⟨(some 4), .mv (.k (.bool false)), none⟩]) (
                                        .ret)) (
                                      .skip))) (
                                  .seq (
                                    .seq (
                                      .fgt false [1, 2, 5, 6, 9, 84] [100, 102] <| .reg [] [
                                        ⟨(some 84), .mv (.t 11), none⟩]) (
                                      .cond (.t 84) (
                                        .fgt false [1, 2, 5, 6, 9] [100, 102] <| .reg [] [
                                          ⟨(some 85), .mv (.t 5), none⟩,
                                          ⟨(some 86), .slice 1 (.t 85) (some (.k (.int .i64 1))) none, none⟩,
                                          ⟨(some 5), .mv (.t 86), none⟩]) (
                                        .skip))) (
                                    .fgt false [1, 2, 5, 6] [100] <| .reg [] [
                                      ⟨(some 87), .load true 10 (.t 9), none⟩,
                                      ⟨none, .store 10 (.t 2) (.t 87), none⟩])))))) (
                          .seq (
                            .fgt false [1, 2, 5, 6, 97] [100] <| .reg [] [
                              ⟨(some 88), .load true 10 (.t 2), none⟩,
                              ⟨(some 89), .call 12 [.ro (.t 88)] [], none⟩,
                              ⟨(some 90), .not (.t 89), none⟩,
                              ⟨(some 91), .mv (.t 90), none⟩,
                              ⟨(some 92), .load true 10 (.t 2), (some (91, false))⟩,
                              ⟨(some 93), .call 14 [.ro (.t 92)] [], (some (91, false))⟩,
                              ⟨(some 94), .mv (.t 5), (some (91, false))⟩,
                              ⟨(some 95), .call 13 [.ro (.t 93), .ro (.t 94)] [], (some (91, false))⟩,
                              ⟨(some 96), .not (.t 95), (some (91, false))⟩,
                              ⟨(some 97), .pick (.t 91) (.k (.bool true)) (.t 96), none⟩]) (
                            .cond (.t 97) (
                              .seq (
                                .fgt false [4] [] <| .reg [] [
                                  ⟨(some 4), .mv (.k (.bool false)), none⟩]) (
                                .ret)) (
                              .skip))))) (
                      .fgt false [1, 2, 5, 6] [100] <| .reg [] [
                        ⟨(some 31), .mv (.t 6), none⟩,
                        ⟨(some 32), .bin .add (.t 31) (.k (.int .i64 1)), none⟩,
                        ⟨(some 6), .mv (.t 32), none⟩])))))) (
            .seq (
              .fgt false [4] [] <| .reg [] [
                ⟨(some 4), .mv (.k (.bool true)), none⟩]) (
              .ret)))))
def t3 : FnT := ⟨2, [], [], [.t 4], b3⟩

/-- shuttlecock/shuttlecocklaw09.RingHalf -/
def b4 : C :=
    .seq (
      .fgt false [1] [100] <| .reg [100] [
        ⟨(some 1), .box (.t 0) 100, none⟩,
        ⟨(some 2), .mv (.k (.bool false)), none⟩]) (
      .seq (
        .seq (
          .fgt false [1, 12] [100] <| .reg [] [
            ⟨(some 6), .call 7 [] [], none⟩,
            ⟨(some 7), .not (.t 6), none⟩,
            ⟨(some 8), .mv (.t 7), none⟩,
            ⟨(some 9), .load true 10 (.t 1), (some (8, false))⟩,
            ⟨(some 10), .call 8 [.ro (.t 9)] [], (some (8, false))⟩,
            ⟨(some 11), .not (.t 10), (some (8, false))⟩,
            ⟨(some 12), .pick (.t 8) (.k (.bool true)) (.t 11), none⟩]) (
          .cond (.t 12) (
            .seq (
              .fgt false [2] [] <| .reg [] [
                ⟨(some 13), .call 7 [] [], none⟩,
                ⟨(some 2), .mv (.t 13), none⟩]) (
              .ret)) (
            .skip))) (
        .seq (
          .fgt false [1, 3, 4] [100, 101] <| .reg [101] [
            ⟨(some 15), .load true 10 (.t 1), none⟩,
            ⟨(some 16), .call 15 [.ro (.t 15)] [], none⟩,
            ⟨(some 14), .mv (.t 16), none⟩,
            ⟨(some 17), .ext 0 (.t 14), none⟩,
            ⟨(some 18), .ext 1 (.t 14), none⟩,
            ⟨(some 3), .alloc [.int .i64 0, .int .i64 0, .int .i64 0, .int .i64 0, .int .i64 0, .int .i64 0, .int .i64 0, .int .i64 0, .int .i64 0, .int .i64 0] 101 [], none⟩,
            ⟨none, .store 10 (.t 3) (.t 17), none⟩,
            ⟨(some 4), .mv (.t 18), none⟩]) (
          .seq (
            .fgt false [1, 3, 4, 5] [100, 101] <| .reg [] [
              ⟨(some 19), .load true 10 (.t 3), none⟩,
              ⟨(some 20), .call 14 [.ro (.t 19)] [], none⟩,
              ⟨(some 5), .mv (.t 20), none⟩]) (
            .seq (
              .fgt false [2] [] <| .regd [110] [
                (⟨(some 21), .load true 10 (.t 3), none⟩, 1),
                (⟨(some 22), .call 12 [.ro (.t 21)] [], none⟩, 1),
                (⟨(some 23), .mv (.t 22), none⟩, 0),
                (⟨(some 24), .bsl 1 [] none, (some (23, true))⟩, 1),
                (⟨(some 25), .mv (.t 4), (some (23, true))⟩, 0),
                (⟨(some 26), .app 1 8 (.t 24) (.t 25) (some 110), (some (23, true))⟩, 1),
                (⟨(some 27), .mv (.t 5), (some (23, true))⟩, 0),
                (⟨(some 28), .app 1 8 (.t 26) (.t 27) none, (some (23, true))⟩, 3),
                (⟨(some 29), .loadb 10 (.t 1), (some (23, true))⟩, 1),
                (⟨(some 30), .call 9 [.ro (.t 29)] [], (some (23, true))⟩, 1),
                (⟨(some 31), .call 13 [.ro (.t 28), .ro (.t 30)] [], (some (23, true))⟩, 1),
                (⟨(some 32), .pick (.t 23) (.t 31) (.k (.bool false)), none⟩, 0),
                (⟨(some 33), .mv (.t 32), none⟩, 0),
                (⟨(some 34), .mv (.t 4), (some (33, true))⟩, 0),
                (⟨(some 35), .len (.t 34), (some (33, true))⟩, 0),
                (⟨(some 36), .mv (.t 5), (some (33, true))⟩, 0),
                (⟨(some 37), .len (.t 36), (some (33, true))⟩, 0),
                (⟨(some 38), .bin .eql (.t 35) (.t 37), (some (33, true))⟩, 0),
                (⟨(some 39), .mv (.t 38), (some (33, true))⟩, 0),
                (⟨(some 40), .mv (.t 4), (some (39, false))⟩, 0),
                (⟨(some 41), .len (.t 40), (some (39, false))⟩, 0),
                (⟨(some 42), .mv (.t 5), (some (39, false))⟩, 0),
                (⟨(some 43), .len (.t 42), (some (39, false))⟩, 0),
                (⟨(some 44), .bin .add (.t 43) (.k (.int .i64 1)), (some (39, false))⟩, 0),
                (⟨(some 45), .bin .eql (.t 41) (.t 44), (some (39, false))⟩, 0),
                (⟨(some 46), .pick (.t 39) (.k (.bool true)) (.t 45), (some (33, true))⟩, 0),
                (⟨(some 47), .pick (.t 33) (.t 46) (.k (.bool false)), none⟩, 0),
                (⟨(some 2), .mv (.t 47), none⟩, 0)]) (
              .ret)))))
def t4 : FnT := ⟨1, [], [], [.t 2], b4⟩

/-- shuttlecock/shuttlecocklaw09.RingOf -/
def b5 : C :=
    .seq (
      .fgt false [0] [110] <| .reg [] [
        ⟨(some 2), .mv (.k (.bool false)), none⟩]) (
      .seq (
        .seq (
          .fgt false [0, 17] [110] <| .reg [] [
            ⟨(some 11), .call 7 [] [], none⟩,
            ⟨(some 12), .not (.t 11), none⟩,
            ⟨(some 13), .mv (.t 12), none⟩,
            ⟨(some 14), .mv (.t 0), (some (13, false))⟩,
            ⟨(some 15), .len (.t 14), (some (13, false))⟩,
            ⟨(some 16), .bin .gtr (.t 15) (.k (.int .i64 20)), (some (13, false))⟩,
            ⟨(some 17), .pick (.t 13) (.k (.bool true)) (.t 16), none⟩]) (
          .cond (.t 17) (
            .seq (
              .fgt false [2] [110] <| .reg [] [
                ⟨(some 18), .call 7 [] [], none⟩,
                ⟨(some 2), .mv (.t 18), none⟩]) (
              .ret)) (
            .skip))) (
        .seq (
          .fgt false [0, 3, 4] [100, 110] <| .reg [100] [
            ⟨(some 20), .mv (.t 0), none⟩,
            ⟨(some 21), .call 16 [.ro (.t 20)] [], none⟩,
            ⟨(some 19), .mv (.t 21), none⟩,
            ⟨(some 22), .ext 0 (.t 19), none⟩,
            ⟨(some 23), .ext 1 (.t 19), none⟩,
            ⟨(some 3), .alloc [.int .i64 0, .int .i64 0, .int .i64 0, .int .i64 0, .int .i64 0, .int .i64 0, .int .i64 0, .int .i64 0, .int .i64 0, .int .i64 0] 100 [], none⟩,
            ⟨none, .store 10 (.t 3) (.t 22), none⟩,
            ⟨(some 4), .mv (.t 23), none⟩]) (
          .seq (
            .seq (
              .fgt false [0, 3, 25] [100, 110] <| .reg [] [
                ⟨(some 24), .mv (.t 4), none⟩,
                ⟨(some 25), .not (.t 24), none⟩]) (
              .cond (.t 25) (
                .seq (
                  .fgt false [2] [110] <| .reg [] [
                    ⟨(some 26), .load true 10 (.t 3), none⟩,
                    ⟨(some 27), .build [.int .i64 0, .int .i64 0, .int .i64 0, .int .i64 0, .int .i64 0, .int .i64 0, .int .i64 0, .int .i64 0, .int .i64 0, .int .i64 0] [], none⟩,
                    ⟨(some 28), .eqa false [0, 0, 0, 0, 0, 0, 0, 0, 0, 0] (.t 26) (.t 27), none⟩,
                    ⟨(some 2), .mv (.t 28), none⟩]) (
                  .ret)) (
                .skip))) (
            .seq (
              .fgt false [0, 3, 5] [100, 110] <| .reg [110] [
                ⟨(some 29), .bsl 1 [] (some 110), none⟩,
                ⟨(some 5), .mv (.t 29), none⟩]) (
              .seq (
                .fgt false [0, 3, 5, 6] [100, 101, 110] <| .reg [101] [
                  ⟨(some 30), .load true 10 (.t 3), none⟩,
                  ⟨(some 6), .alloc [.int .i64 0, .int .i64 0, .int .i64 0, .int .i64 0, .int .i64 0, .int .i64 0, .int .i64 0, .int .i64 0, .int .i64 0, .int .i64 0] 101 [], none⟩,
                  ⟨none, .store 10 (.t 6) (.t 30), none⟩]) (
                .seq (
                  .seq (
                    .fgt false [0, 3, 5, 6, 7] [100, 101, 110] <| .reg [] [
                      ⟨(some 7), .mv (.k (.int .i64 0)), none⟩]) (
                    .blk 0 (
                      .loop [0, 3, 5, 6, 7] [100, 101, 110] (
                        .seq (
                          .seq (
                            .fgt false [0, 3, 5, 6, 7, 34] [100, 101, 110] <| .reg [] [
                              ⟨(some 31), .mv (.t 7), none⟩,
                              ⟨(some 32), .mv (.t 0), none⟩,
                              ⟨(some 33), .len (.t 32), none⟩,
                              ⟨(some 34), .bin .lss (.t 31) (.t 33), none⟩]) (
                            .cond (.t 34) (
                              .skip) (
                              .exit 0))) (
                          .seq (
                            .blk 1 (
                              .seq (
                                .fgt false [0, 3, 5, 6, 7, 8, 9] [100, 101, 102, 110] <| .reg [102] [
                                  ⟨(some 38), .load true 10 (.t 6), none⟩,
                                  ⟨(some 39), .call 11 [.ro (.t 38)] [], none⟩,
                                  ⟨(some 37), .mv (.t 39), none⟩,
                                  ⟨(some 40), .ext 0 (.t 37), none⟩,
                                  ⟨(some 41), .ext 1 (.t 37), none⟩,
                                  ⟨(some 42), .ext 2 (.t 37), none⟩,
                                  ⟨(some 8), .alloc [.int .i64 0, .int .i64 0, .int .i64 0, .int .i64 0, .int .i64 0, .int .i64 0, .int .i64 0, .int .i64 0, .int .i64 0, .int .i64 0] 102 [], none⟩,
                                  ⟨none, .store 10 (.t 8) (.t 40), none⟩,
                                  ⟨(some 9), .mv (.t 41), none⟩,
                                  ⟨(some 10), .mv (.t 42), none⟩]) (
                                .seq (
                                  .fgt false [0, 3, 5, 6, 7, 8] [100, 101, 102, 110] <| .reg [] [
                                    ⟨(some 43), .mv (.t 5), none⟩,
                                    ⟨(some 44), .mv (.t 9), none⟩,
                                    ⟨(some 45), .bsl 1 [(.t 44)] none, none⟩,
                                    ⟨(some 46), .app 1 8 (.t 43) (.t 45) (some 110), none⟩,
                                    ⟨(some 5), .mv (.t 46), none⟩]) (
                                  .fgt false [0, 3, 5, 6, 7] [100, 101, 110] <| .reg [] [
                                    ⟨(some 47), .load true 10 (.t 8), none⟩,
                                    ⟨none, .store 10 (.t 6) (.t 47), none⟩])))) (
                            .fgt false [0, 3, 5, 6, 7] [100, 101, 110] <| .reg [] [
                              ⟨(some 35), .mv (.t 7), none⟩,
                              ⟨(some 36), .bin .add (.t 35) (.k (.int .i64 1)), none⟩,
                              ⟨(some 7), .mv (.t 36), none⟩])))))) (
                  .seq (
                    .fgt false [2] [110] <| .reg [] [
                      ⟨(some 48), .load true 10 (.t 3), none⟩,
                      ⟨(some 49), .call 14 [.ro (.t 48)] [], none⟩,
                      ⟨(some 50), .mv (.t 0), none⟩,
                      ⟨(some 51), .call 13 [.ro (.t 49), .ro (.t 50)] [], none⟩,
                      ⟨(some 52), .mv (.t 51), none⟩,
                      ⟨(some 53), .mv (.t 5), (some (52, true))⟩,
                      ⟨(some 54), .mv (.t 0), (some (52, true))⟩,
                      ⟨(some 55), .call 13 [.ro (.t 53), .ro (.t 54)] [], (some (52, true))⟩,
                      ⟨(some 56), .pick (.t 52) (.t 55) (.k (.bool false)), none⟩,
                      ⟨(some 57), .mv (.t 56), none⟩,
                      ⟨(some 58), .faddr 9 (.t 6), (some (57, true))⟩,
                      ⟨(some 59), .load false 1 (.t 58), (some (57, true))⟩,
                      ⟨(some 60), .bin .eql (.t 59) (.k (.int .i64 0)), (some (57, true))⟩,
                      ⟨(some 61), .pick (.t 57) (.t 60) (.k (.bool false)), none⟩,
                      ⟨(some 2), .mv (.t 61), none⟩]) (
                    .ret))))))))
def t5 : FnT := ⟨1, [], [], [.t 2], b5⟩

/-- shuttlecock/shuttlecocklaw09.RingRound -/
def b6 : C :=
    .seq (
      .fgt false [0, 1] [] <| .reg [] [
        ⟨(some 4), .mv (.k (.bool false)), none⟩]) (
      .seq (
        .seq (
          .fgt false [0, 1, 26] [] <| .reg [] [
            ⟨(some 13), .call 7 [] [], none⟩,
            ⟨(some 14), .not (.t 13), none⟩,
            ⟨(some 15), .mv (.t 14), none⟩,
            ⟨(some 16), .mv (.t 0), (some (15, false))⟩,
            ⟨(some 17), .bin .lss (.t 16) (.k (.int .i64 0)), (some (15, false))⟩,
            ⟨(some 18), .pick (.t 15) (.k (.bool true)) (.t 17), none⟩,
            ⟨(some 19), .mv (.t 18), none⟩,
            ⟨(some 20), .mv (.t 0), (some (19, false))⟩,
            ⟨(some 21), .bin .gtr (.t 20) (.k (.int .i64 100)), (some (19, false))⟩,
            ⟨(some 22), .pick (.t 19) (.k (.bool true)) (.t 21), none⟩,
            ⟨(some 23), .mv (.t 22), none⟩,
            ⟨(some 24), .mv (.t 1), (some (23, false))⟩,
            ⟨(some 25), .bin .lss (.t 24) (.k (.int .i64 1)), (some (23, false))⟩,
            ⟨(some 26), .pick (.t 23) (.k (.bool true)) (.t 25), none⟩]) (
          .cond (.t 26) (
            .seq (
              .fgt false [4] [] <| .reg [] [
                ⟨(some 27), .call 7 [] [], none⟩,
                ⟨(some 4), .mv (.t 27), none⟩]) (
              .ret)) (
            .skip))) (
        .seq (
          .fgt false [0, 1, 5] [100] <| .reg [100] [
            ⟨(some 29), .mv (.t 1), none⟩,
            ⟨(some 30), .bsl 1 [(.t 29)] none, none⟩,
            ⟨(some 31), .call 16 [.ro (.t 30)] [], none⟩,
            ⟨(some 28), .mv (.t 31), none⟩,
            ⟨(some 32), .ext 0 (.t 28), none⟩,
            ⟨(some 33), .ext 1 (.t 28), none⟩,
            ⟨(some 5), .alloc [.int .i64 0, .int .i64 0, .int .i64 0, .int .i64 0, .int .i64 0, .int .i64 0, .int .i64 0, .int .i64 0, .int .i64 0, .int .i64 0] 100 [], none⟩,
            ⟨none, .store 10 (.t 5) (.t 32), none⟩,
            ⟨(some 6), .mv (.t 33), none⟩]) (
          .seq (
            .seq (
              .fgt false [0, 1, 5, 7] [100] <| .reg [] [
                ⟨(some 7), .mv (.k (.int .i64 0)), none⟩]) (
              .blk 0 (
                .loop [0, 1, 5, 7] [100] (
                  .seq (
                    .seq (
                      .fgt false [0, 1, 5, 7, 36] [100] <| .reg [] [
                        ⟨(some 34), .mv (.t 7), none⟩,
                        ⟨(some 35), .mv (.t 0), none⟩,
                        ⟨(some 36), .bin .lss (.t 34) (.t 35), none⟩]) (
                      .cond (.t 36) (
                        .skip) (
                        .exit 0))) (
                    .seq (
                      .blk 1 (
                        .seq (
                          .fgt false [0, 1, 5, 7, 8] [100, 101] <| .reg [101] [
                            ⟨(some 40), .load true 10 (.t 5), none⟩,
                            ⟨(some 41), .mv (.t 1), none⟩,
                            ⟨(some 42), .call 10 [.ro (.t 40), .ro (.t 41)] [], none⟩,
                            ⟨(some 39), .mv (.t 42), none⟩,
                            ⟨(some 43), .ext 0 (.t 39), none⟩,
                            ⟨(some 44), .ext 1 (.t 39), none⟩,
                            ⟨(some 8), .alloc [.int .i64 0, .int .i64 0, .int .i64 0, .int .i64 0, .int .i64 0, .int .i64 0, .int .i64 0, .int .i64 0, .int .i64 0, .int .i64 0] 101 [], none⟩,
                            ⟨none, .store 10 (.t 8) (.t 43), none⟩,
                            ⟨(some 9), .mv (.t 44), none⟩]) (
                          .seq (
                            .fgt false [0, 1, 5, 7, 10, 11, 12] [100, 102] <| .reg [102] [
                              ⟨(some 46), .load true 10 (.t 8), none⟩,
                              ⟨(some 47), .call 11 [.ro (.t 46)] [], none⟩,
                              ⟨(some 45), .mv (.t 47), none⟩,
                              ⟨(some 48), .ext 0 (.t 45), none⟩,
                              ⟨(some 49), .ext 1 (.t 45), none⟩,
                              ⟨(some 50), .ext 2 (.t 45), none⟩,
                              ⟨(some 10), .alloc [.int .i64 0, .int .i64 0, .int .i64 0, .int .i64 0, .int .i64 0, .int .i64 0, .int .i64 0, .int .i64 0, .int .i64 0, .int .i64 0] 102 [], none⟩,
                              ⟨none, .store 10 (.t 10) (.t 48), none⟩,
                              ⟨(some 11), .mv (.t 49), none⟩,
                              ⟨(some 12), .mv (.t 50), none⟩]) (
                            .seq (
                              .seq (
                                .fgt false [0, 1, 5, 7, 10, 57] [100, 102] <| .reg [] [
                                  ⟨(some 51), .mv (.t 12), none⟩,
                                  ⟨(some 52), .not (.t 51), none⟩,
                                  ⟨(some 53), .mv (.t 52), none⟩,
                                  ⟨(some 54), .mv (.t 11), (some (53, false))⟩,
                                  ⟨(some 55), .mv (.t 1), (some (53, false))⟩,
                                  ⟨(some 56), .bin .neq (.t 54) (.t 55), (some (53, false))⟩,
                                  ⟨(some 57), .pick (.t 53) (.k (.bool true)) (.t 56), none⟩]) (
                                .cond (.t 57) (
                                  .seq (
                                    .fgt false [4] [] <| .reg [] [
                                      ⟨(some 4), .mv (.k (.bool false)), none⟩]) (
                                    .ret)) (
                                  .skip))) (
                              .fgt false [0, 1, 5, 7] [100] <| .reg [] [
                                ⟨(some 58), .load true 10 (.t 10), none⟩,
                                ⟨none, .store 10 (.t 5) (.t 58), none⟩]))))) (
                      .fgt false [0, 1, 5, 7] [100] <| .reg [] [
                        ⟨(some 37), .mv (.t 7), none⟩,
                        ⟨(some 38), .bin .add (.t 37) (.k (.int .i64 1)), none⟩,
                        ⟨(some 7), .mv (.t 38), none⟩])))))) (
            .seq (
              .fgt false [4] [] <| .reg [] [
                ⟨(some 59), .faddr 8 (.t 5), none⟩,
                ⟨(some 60), .load false 1 (.t 59), none⟩,
                ⟨(some 61), .mv (.t 0), none⟩,
                ⟨(some 62), .bin .rem (.t 61) (.k (.int .i64 8)), none⟩,
                ⟨(some 63), .bin .eql (.t 60) (.t 62), none⟩,
                ⟨(some 64), .mv (.t 63), none⟩,
                ⟨(some 65), .load true 10 (.t 5), (some (64, true))⟩,
                ⟨(some 66), .call 14 [.ro (.t 65)] [], (some (64, true))⟩,
                ⟨(some 67), .mv (.t 1), (some (64, true))⟩,
                ⟨(some 68), .bsl 1 [(.t 67)] none, (some (64, true))⟩,
                ⟨(some 69), .call 13 [.ro (.t 66), .ro (.t 68)] [], (some (64, true))⟩,
                ⟨(some 70), .pick (.t 64) (.t 69) (.k (.bool false)), none⟩,
                ⟨(some 4), .mv (.t 70), none⟩]) (
              .ret)))))
def t6 : FnT := ⟨2, [], [], [.t 4], b6⟩

/-- shuttlecock/shuttlecocklaw09.fixed -/
def b7 : C :=
    .seq (
      .fgt false [] [] <| .reg [] [
        ⟨(some 0), .mv (.k (.bool false)), none⟩]) (
      .seq (
        .fgt false [1, 2] [100] <| .reg [100] [
          ⟨(some 13), .bsl 1 [(.k (.int .i64 1)), (.k (.int .i64 2)), (.k (.int .i64 3))] none, none⟩,
          ⟨(some 14), .call 16 [.ro (.t 13)] [], none⟩,
          ⟨(some 12), .mv (.t 14), none⟩,
          ⟨(some 15), .ext 0 (.t 12), none⟩,
          ⟨(some 16), .ext 1 (.t 12), none⟩,
          ⟨(some 1), .alloc [.int .i64 0, .int .i64 0, .int .i64 0, .int .i64 0, .int .i64 0, .int .i64 0, .int .i64 0, .int .i64 0, .int .i64 0, .int .i64 0] 100 [], none⟩,
          ⟨none, .store 10 (.t 1) (.t 15), none⟩,
          ⟨(some 2), .mv (.t 16), none⟩]) (
        .seq (
          .fgt false [1, 2, 3, 4] [100, 101] <| .reg [101] [
            ⟨(some 18), .load true 10 (.t 1), none⟩,
            ⟨(some 19), .call 15 [.ro (.t 18)] [], none⟩,
            ⟨(some 17), .mv (.t 19), none⟩,
            ⟨(some 20), .ext 0 (.t 17), none⟩,
            ⟨(some 21), .ext 1 (.t 17), none⟩,
            ⟨(some 3), .alloc [.int .i64 0, .int .i64 0, .int .i64 0, .int .i64 0, .int .i64 0, .int .i64 0, .int .i64 0, .int .i64 0, .int .i64 0, .int .i64 0] 101 [], none⟩,
            ⟨none, .store 10 (.t 3) (.t 20), none⟩,
            ⟨(some 4), .mv (.t 21), none⟩]) (
          .seq (
            .fgt false [1, 2, 3, 4, 5, 6, 7] [100, 101, 102] <| .reg [102] [
              ⟨(some 23), .load true 10 (.t 1), none⟩,
              ⟨(some 24), .call 11 [.ro (.t 23)] [], none⟩,
              ⟨(some 22), .mv (.t 24), none⟩,
              ⟨(some 25), .ext 0 (.t 22), none⟩,
              ⟨(some 26), .ext 1 (.t 22), none⟩,
              ⟨(some 27), .ext 2 (.t 22), none⟩,
              ⟨(some 5), .alloc [.int .i64 0, .int .i64 0, .int .i64 0, .int .i64 0, .int .i64 0, .int .i64 0, .int .i64 0, .int .i64 0, .int .i64 0, .int .i64 0] 102 [], none⟩,
              ⟨none, .store 10 (.t 5) (.t 25), none⟩,
              ⟨(some 6), .mv (.t 26), none⟩,
              ⟨(some 7), .mv (.t 27), none⟩]) (
            .seq (
              .fgt false [1, 2, 3, 4, 5, 6, 7, 8, 9] [100, 101, 102, 103] <| .reg [103] [
                ⟨(some 29), .load true 10 (.t 5), none⟩,
                ⟨(some 30), .call 10 [.ro (.t 29), .ro (.k (.int .i64 9))] [], none⟩,
                ⟨(some 28), .mv (.t 30), none⟩,
                ⟨(some 31), .ext 0 (.t 28), none⟩,
                ⟨(some 32), .ext 1 (.t 28), none⟩,
                ⟨(some 8), .alloc [.int .i64 0, .int .i64 0, .int .i64 0, .int .i64 0, .int .i64 0, .int .i64 0, .int .i64 0, .int .i64 0, .int .i64 0, .int .i64 0] 103 [], none⟩,
                ⟨none, .store 10 (.t 8) (.t 31), none⟩,
                ⟨(some 9), .mv (.t 32), none⟩]) (
              .seq (
                .fgt false [1, 2, 3, 4, 5, 6, 7, 8, 9, 11] [100, 101, 102, 103] <| .reg [104] [
                  ⟨(some 34), .bsl 1 [(.k (.int .i64 1)), (.k (.int .i64 2)), (.k (.int .i64 3)), (.k (.int .i64 4)), (.k (.int .i64 5)), (.k (.int .i64 6)), (.k (.int .i64 7)), (.k (.int .i64 8)), (.k (.int .i64 9))] none, none⟩,
                  ⟨(some 35), .call 16 [.ro (.t 34)] [], none⟩,
                  ⟨(some 33), .mv (.t 35), none⟩,
                  ⟨(some 36), .ext 0 (.t 33), none⟩,
                  ⟨(some 37), .ext 1 (.t 33), none⟩,
                  ⟨(some 10), .alloc [.int .i64 0, .int .i64 0, .int .i64 0, .int .i64 0, .int .i64 0, .int .i64 0, .int .i64 0, .int .i64 0, .int .i64 0, .int .i64 0] 104 [], none⟩,
                  ⟨none, .store 10 (.t 10) (.t 36), none⟩,
                  ⟨(some 11), .mv (.t 37), none⟩]) (
                .seq (
                  .fgt false [0] [] <| .reg [] [
                    ⟨(some 38), .mv (.t 2), none⟩,
                    ⟨(some 39), .mv (.t 38), none⟩,
                    ⟨(some 40), .mv (.t 4), (some (39, true))⟩,
                    ⟨(some 41), .bsl 1 [(.k (.int .i64 1)), (.k (.int .i64 2))] none, (some (39, true))⟩,
                    ⟨(some 42), .call 13 [.ro (.t 40), .ro (.t 41)] [], (some (39, true))⟩,
                    ⟨(some 43), .pick (.t 39) (.t 42) (.k (.bool false)), none⟩,
                    ⟨(some 44), .mv (.t 43), none⟩,
                    ⟨(some 45), .load true 10 (.t 3), (some (44, true))⟩,
                    ⟨(some 46), .call 14 [.ro (.t 45)] [], (some (44, true))⟩,
                    ⟨(some 47), .bsl 1 [(.k (.int .i64 3))] none, (some (44, true))⟩,
                    ⟨(some 48), .call 13 [.ro (.t 46), .ro (.t 47)] [], (some (44, true))⟩,
                    ⟨(some 49), .pick (.t 44) (.t 48) (.k (.bool false)), none⟩,
                    ⟨(some 50), .mv (.t 49), none⟩,
                    ⟨(some 51), .mv (.t 6), (some (50, true))⟩,
                    ⟨(some 52), .bin .eql (.t 51) (.k (.int .i64 1)), (some (50, true))⟩,
                    ⟨(some 53), .pick (.t 50) (.t 52) (.k (.bool false)), none⟩,
                    ⟨(some 54), .mv (.t 53), none⟩,
                    ⟨(some 55), .mv (.t 7), (some (54, true))⟩,
                    ⟨(some 56), .pick (.t 54) (.t 55) (.k (.bool false)), none⟩,
                    ⟨(some 57), .mv (.t 56), none⟩,
                    ⟨(some 58), .faddr 8 (.t 5), (some (57, true))⟩,
                    ⟨(some 59), .load false 1 (.t 58), (some (57, true))⟩,
                    ⟨(some 60), .bin .eql (.t 59) (.k (.int .i64 1)), (some (57, true))⟩,
                    ⟨(some 61), .pick (.t 57) (.t 60) (.k (.bool false)), none⟩,
                    ⟨(some 62), .mv (.t 61), none⟩,
                    ⟨(some 63), .mv (.t 9), (some (62, true))⟩,
                    ⟨(some 64), .pick (.t 62) (.t 63) (.k (.bool false)), none⟩,
                    ⟨(some 65), .mv (.t 64), none⟩,
                    ⟨(some 66), .load true 10 (.t 8), (some (65, true))⟩,
                    ⟨(some 67), .call 14 [.ro (.t 66)] [], (some (65, true))⟩,
                    ⟨(some 68), .bsl 1 [(.k (.int .i64 2)), (.k (.int .i64 3)), (.k (.int .i64 9))] none, (some (65, true))⟩,
                    ⟨(some 69), .call 13 [.ro (.t 67), .ro (.t 68)] [], (some (65, true))⟩,
                    ⟨(some 70), .pick (.t 65) (.t 69) (.k (.bool false)), none⟩,
                    ⟨(some 71), .mv (.t 70), none⟩,
                    ⟨(some 72), .mv (.t 11), (some (71, true))⟩,
                    ⟨(some 73), .not (.t 72), (some (71, true))⟩,
                    ⟨(some 74), .pick (.t 71) (.t 73) (.k (.bool false)), none⟩,
                    ⟨(some 75), .mv (.t 74), none⟩,
                    ⟨(some 76), .load true 10 (.t 1), (some (75, true))⟩,
                    ⟨(some 77), .call 12 [.ro (.t 76)] [], (some (75, true))⟩,
                    ⟨(some 78), .pick (.t 75) (.t 77) (.k (.bool false)), none⟩,
                    ⟨(some 79), .mv (.t 78), none⟩,
                    ⟨(some 80), .build [.int .i64 0, .int .i64 0, .int .i64 0, .int .i64 0, .int .i64 0, .int .i64 0, .int .i64 0, .int .i64 0, .int .i64 0, .int .i64 0] [(9, 1, (.k (.int .i64 1)))], (some (79, true))⟩,
                    ⟨(some 81), .call 12 [.ro (.t 80)] [], (some (79, true))⟩,
                    ⟨(some 82), .not (.t 81), (some (79, true))⟩,
                    ⟨(some 83), .pick (.t 79) (.t 82) (.k (.bool false)), none⟩,
                    ⟨(some 0), .mv (.t 83), none⟩]) (
                  .ret)))))))
def t7 : FnT := ⟨0, [], [], [.t 0], b7⟩

/-- shuttlecock/ring.All -/
def b18 : C :=
    .seq (
      .fgt false [1] [100] <| .reg [100] [
        ⟨(some 1), .box (.t 0) 100, none⟩,
        ⟨(some 2), .mv (.k (.nilf)), none⟩]) (
      .seq (
        .fgt false [2] [] <| .reg [] [
          ⟨(some 3), .mkf 19 [] [(.t 1)], none⟩,
          ⟨(some 2), .mv (.t 3), none⟩]) (
        .ret))
def t18 : FnT := ⟨1, [], [], [.t 2], b18⟩

set_option maxRecDepth 100000
theorem hD : RegD Try.prog := regD (by kernel_rfl)
theorem ok17 : okFn Try.prog Try.f17 t17 = true := by kernel_rfl
theorem ok12 : okFn Try.prog Try.f12 t12 = true := by kernel_rfl
theorem ok8 : okFn Try.prog Try.f8 t8 = true := by kernel_rfl
theorem ok10 : okFn Try.prog Try.f10 t10 = true := by kernel_rfl
theorem ok11 : okFn Try.prog Try.f11 t11 = true := by kernel_rfl
theorem ok13 : okFn Try.prog Try.f13 t13 = true := by kernel_rfl
theorem ok9 : okFn Try.prog Try.f9 t9 = true := by kernel_rfl
theorem ok15 : okFn Try.prog Try.f15 t15 = true := by kernel_rfl
theorem ok16 : okFn Try.prog Try.f16 t16 = true := by kernel_rfl
theorem ok3 : okFn Try.prog Try.f3 t3 = true := by kernel_rfl
theorem ok4 : okFn Try.prog Try.f4 t4 = true := by kernel_rfl
theorem ok5 : okFn Try.prog Try.f5 t5 = true := by kernel_rfl
theorem ok6 : okFn Try.prog Try.f6 t6 = true := by kernel_rfl
theorem ok7 : okFn Try.prog Try.f7 t7 = true := by kernel_rfl
theorem ok18 : okFn Try.prog Try.f18 t18 = true := by kernel_rfl
end Go.Ab
